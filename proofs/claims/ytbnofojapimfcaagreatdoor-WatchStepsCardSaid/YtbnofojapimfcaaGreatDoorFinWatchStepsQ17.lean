/- Part 17 of the proof. -/
import Derived.Test.YtbnofojapimfcaaGreatDoorFinWatchStepsQ7
import Derived.Test.YtbnofojapimfcaaGreatDoorFinWatchStepsQ8
import Derived.Test.YtbnofojapimfcaaGreatDoorFinWatchStepsQ10
import Derived.Test.YtbnofojapimfcaaGreatDoorFinWatchStepsQ11
import Derived.Shelf.SlSortCmp.WholeK
import Derived.Sort.Statements
import Derived.Shelf.SlSortCmp.Insertion
import Derived.RegionTactic
import Derived.Deep.RegionHeld3
set_option linter.unusedVariables false
set_option linter.unusedSectionVars false
set_option linter.unusedSimpArgs false
set_option maxRecDepth 100000
set_option maxHeartbeats 16000000
namespace Go.Proofs.YtbnofojapimfcaaGreatDoor
section
open Go.RowKit Go.Maps
attribute [local go_sem] Oper.semAt_some
structure dW (w:World) (F:Nat->Prop) (sb:Nat) (v ve:Value) (xs:List Sh) (used:Nat->Bool) (ne:Nat) (evs:List Value):Prop where
 live:w.cell? ⟨sb,0,none⟩=some v
 used:∀i,i<13->w.cell? ⟨sb,1+i,none⟩=some (.bool (used i))
 ev:w.cell? ⟨sb,14,none⟩=some ve
 fz:∀i,i<15->w.frozen? ⟨sb,i,none⟩=false
 row:w.ownsRow 0 128 5 v xs.length (dC xs)
 iX:w.ownsRow 0 159 13 ve ne evs
 sz:∀c∈xs,c.lo.size<=70368744177664/\c.hi.size<=70368744177664
 bg:F sb
 aJ:∀g,v.ownBlock=some g->F g/\g≠sb
 bu:∀g,ve.ownBlock=some g->F g/\g≠sb/\v.ownBlock≠some g
 lt:∀j,F j->j<w.heap.size
 nil:ne=0->ve=.slice none 0 0
def fh (w:World) (F:Nat->Prop) (sb:Nat) (xs:List Sh) (used:Nat->Bool) (ne:Nat) (evs:List Value):Prop:=∃v ve,dW w F sb v ve xs used ne evs
theorem iY {S:Nat->Prop} {w w':World} (g:aj S w w') {B:Nat} {e:TypeId} {k:Nat} {v:Value} {n:Nat} {xs:List Value} (h:w.ownsRow B e k v n xs) (hS:∀b,v.ownBlock=some b->¬S b):w'.ownsRow B e k v n xs:=by
 refine ⟨h.1,?_⟩
 rcases h.2 with h2 | ⟨b,cap,cur,e1,h2,h3,h4⟩
 · exact .inl h2
 · refine .inr ⟨b,cap,cur,e1,h2,(g.block b (zZ2.1 h3).1 (hS b (by rw [e1];rfl))).trans h3,h4⟩
section
variable {w w':World} {F S:Nat->Prop} {sb:Nat} {v ve:Value} {xs:List Sh} {used:Nat->Bool} {ne:Nat} {evs:List Value}
theorem dW.blt (h:dW w F sb v ve xs used ne evs):sb<w.heap.size:=aN h.live
theorem dW.kept (h:dW w F sb v ve xs used ne evs) (g:aj S w w') (hS:∀j,F j->¬S j):dW w' F sb v ve xs used ne evs where
 live:=(g.cell h.blt (hS _ h.bg) 0).trans h.live
 used i hi:=(g.cell h.blt (hS _ h.bg) _).trans (h.used i hi)
 ev:=(g.cell h.blt (hS _ h.bg) _).trans h.ev
 fz i hi:=(g.frozen h.blt (hS _ h.bg) _).trans (h.fz i hi)
 row:=iY g h.row (fun b hb=>hS b (h.aJ b hb).1)
 iX:=iY g h.iX (fun b hb=>hS b (h.bu b hb).1)
 sz:=h.sz
 bg:=h.bg
 aJ:=h.aJ
 bu:=h.bu
 lt j hj:=ltT (h.lt j hj) g.size
 nil:=h.nil
theorem dW.ag (h:dW w F sb v ve xs used ne evs) (g:ae w w'):dW w' F sb v ve xs used ne evs:=h.kept (g.only fun _=>False) (fun _ _ h=>h)
theorem fh.kept (h:fh w F sb xs used ne evs) (g:aj S w w') (hS:∀j,F j->¬S j):fh w' F sb xs used ne evs:=by
 obtain ⟨v,ve,h⟩:=h;exact ⟨v,ve,h.kept g hS⟩
theorem fh.ag (h:fh w F sb xs used ne evs) (g:ae w w'):fh w' F sb xs used ne evs:=by
 obtain ⟨v,ve,h⟩:=h;exact ⟨v,ve,h.ag g⟩
end
abbrev Fz:Sh:=⟨1,1,0,⟨#[]⟩,⟨#[]⟩⟩
def nX (i:Nat):Bool:=decide (i=1)
theorem YG (b:Nat) (i:Nat) (hi:i<13):(#[Value.slice (some ⟨b,0,none⟩) 1 1,.bool false,.bool true,.bool false,.bool false,.bool false,.bool false,.bool false,.bool false,.bool false,.bool false,.bool false,.bool false,.bool false,.slice none 0 0]:Array Value)[i+1]? =some (.bool (nX i)):=
 match i,hi with
  | 0,_=>rfl
  | 1,_=>rfl
  | 2,_=>rfl
  | 3,_=>rfl
  | 4,_=>rfl
  | 5,_=>rfl
  | 6,_=>rfl
  | 7,_=>rfl
  | 8,_=>rfl
  | 9,_=>rfl
  | 10,_=>rfl
  | 11,_=>rfl
  | 12,_=>rfl
  | n+13,h=>by omega
theorem uF (w:World):Calls Tryz.prog 41 #[] w fun e w'=>∃sb,e=.returned (.pointer (some ⟨sb,0,none⟩))/\ae w w'/\w.heap.size<=sb/\∃F,fh w' F sb [Fz] nX 0 []/\∀j,F j->w.heap.size<=j:=by
 go_in
 go_wp2_with fail
 go_ret
 refine ⟨w.heap.size+1,rfl,?_,Nat.le_succ _,fun j=>j=w.heap.size\/j=w.heap.size+1,?_,?_⟩
 · exact ((ae.rf w).alloc _).alloc _
 · refine ⟨.slice (some ⟨w.heap.size,0,none⟩) 1 1,.slice none 0 0,?_⟩
   refine ⟨by simp [go_sem],?_,by simp [go_sem],?_,?_,World.ownsRow_nil _ _ _ _,?_,.inr rfl,?_,(fun g hg=>by cases hg),?_,fun _=>rfl⟩
   · intro i hi
     rw [cell_of_row _ (w.heap.size+1) (1+i) _ _ _ (heap_alloc2_new w _ _),Nat.add_comm]
     exact YG w.heap.size i hi
   · intro i _
     exact frozen_of_row _ (w.heap.size+1) i _ _ (heap_alloc2_new w _ _)
   · refine na (cur:=[.int .i64 1,.int .i64 1,.int .i64 0,.string ⟨#[]⟩,.string ⟨#[]⟩]) (Nat.zero_le _) (heap_alloc2_old w _ _) (zZ3 _) (by decide) rfl rfl
   · intro c hc
     rw [List.mem_singleton.1 hc]
     exact ⟨Nat.zero_le _,Nat.zero_le _⟩
   · intro g hg
     cases hg
     exact ⟨.inl rfl,Nat.ne_of_lt (Nat.lt_succ_self _)⟩
   · intro j hj
     simp
     omega
 · intro j hj;omega
theorem YH (c:Sh) (cb:Nat) (id:Int) (w:World) (hc:w.cell? ⟨cb,0,none⟩=some (.int .i64 id)):
    Calls Tryz.prog 145 #[c.cD,.pointer (some ⟨cb,0,none⟩)] w fun e w'=>e=.returned (.bool (c.id==id))/\ae w w':=by
 obtain ⟨i,s,n,l,h⟩:=c
 unfold Sh.cD Sh.vals
 dsimp only
 have hb:cb<w.heap.size:=aN hc
 go_in
 go_wp2_with fail
 go_ret
 exact ⟨rfl,(ae.rf w).alloc _⟩
namespace Pl
def ax (xs:List Sh) (id:Int):Int:=b7 (fun c=>c.id==id) xs
end Pl
theorem uG {w:World} {F:Nat->Prop} {sb:Nat} {xs:List Sh} {used:Nat->Bool} {ne:Nat} {evs:List Value} (h:fh w F sb xs used ne evs) (hx:xs.length<=1000000) (id:Int):
    Calls Tryz.prog 96 #[.pointer (some ⟨sb,0,none⟩),.int .i64 id] w fun e w'=>e=.returned (.int .i64 (Pl.ax xs id))/\ae w w':=by
 obtain ⟨v,ve,h⟩:=h
 obtain ⟨a,cap,rfl,hA⟩:=A9 h.row
 have c0:=h.live
 have hb:=h.blt
 have HI:=af (fun W (hc:W.cell? ⟨w.heap.size,0,none⟩=some (.int .i64 id)) (g:ae w W)=>Yy (fun c=>c.id==id) w.heap.size a cap xs W (hA.ag g) hx
  (fun j hj W' g'=>YH (ah xs j) w.heap.size id W' ((g'.cells.1 _ _ (aN hc)).trans hc)))
 unfold Pl.ax
 clear h hA
 generalize b7 (fun c=>c.id==id) xs=r at *
 go_in
 go_wp2_with fail
 refine (HI.out _ (by simp [go_sem]) ((ae.rf w).alloc _)).mono ?_
 rintro e w1 ⟨rfl,hg⟩
 go_wp2_with fail
 go_ret
 exact ⟨rfl,((ae.rf w).alloc _).trans hg⟩
end
section
open Go.RowKit Go.Maps
attribute [local go_sem] Oper.semAt_some
theorem TH (k v:ByteArray) (n:Int) (key:ByteArray) (w:World) (hk:k.size<=70368744177664) (hy:key.size<=70368744177664):
    Calls Tryz.prog 184 #[.agg #[.string k,.string v,.int .i64 n],.string key] w fun e w'=>e=.returned (.int .i64 (Pl.bE k key))/\ae w w':=by
 go_in
 go_wp2_with fail
 refine (GQ k key _ hk hy).mono ?_
 rintro e w' ⟨rfl,hg⟩
 go_wp2_with fail
 go_ret
 exact ⟨rfl,((ae.rf w).alloc _).trans hg⟩
theorem Zn (a:Option Addr) (cap:Nat) (xs:List Pr) (key:ByteArray) (w:World) (hA:lI w a xs) (hx:xs.length<=1000000) (hks:∀j,j<xs.length->(ay xs j).key.size<=70368744177664) (hy:key.size<=70368744177664)
    (p:Nat) (hp:p<=xs.length) (hpos:∀j,j<xs.length->(Pl.bE (ay xs j).key key<0↔j<p)):
    Calls Tryz.prog 183 #[.slice a xs.length cap,.string key,.func (.func 184) #[] #[]] w fun e w'=>e=.returned (.tuple #[.int .i64 (p:Int),.bool (decide (p<xs.length/\Pl.bE (ay xs p).key key=0))])/\ae w w':=by
 have HA:=af hA
 have HK:=af hks
 have HP:=af hpos
 clear hA hks hpos
 go_in
 go_wp2_with fail
 go_loopw [9,10] (fun i j wr=>∃l r:Nat,l<=p/\p<=r/\r<=xs.length/\i=.int .i64 l/\j=.int .i64 r/\ae w wr) (fun i j _=>(intOf j).toNat - (intOf i).toNat)
 case atStart=>exact ⟨0,xs.length,Nat.zero_le _,hp,zZ3 _,rfl,rfl,ae.rf w⟩
 case round=>
  obtain ⟨l,r,hl,hr,hrx,rfl,rfl,hG⟩:=hrel
  by_cases aq:l<r
  · obtain ⟨m,hm⟩:∃m,m=(l+r) / 2:=⟨_,rfl⟩
    have hm1:l<=m:=by omega
    have hm2:m<r:=by omega
    have zu:m<xs.length:=by omega
    have hm4:(m:Int)<(xs.length:Int):=by omega
    have hme:((l:Int)+(r:Int)) / 2=(m:Int):=by omega
    clear hm
    rcases HA.out with h0 | ⟨b,off,rfl,hb,hR⟩
    · rw [h0] at zu;simp at zu
    have q0:=(hG.cells.1 b (off+m*3) hb).trans (hR.key m zu)
    have q1:=(hG.cells.1 b (off+m*3+1) hb).trans (hR.val m zu)
    have q2:=(hG.cells.1 b (off+m*3+2) hb).trans (hR.di m zu)
    have TI:=af (HP.out m zu)
    have HF:=af (fun W=>TH (ay xs m).key (ay xs m).val (ay xs m).di key W (HK.out m zu) hy)
    clear hR
    by_cases hc:Pl.bE (ay xs m).key key<0
    · have hmp:=TI.out.1 hc
      go_wp2_with fail
      refine (HF.out _).mono ?_
      rintro e w1 ⟨rfl,aA⟩
      go_wp2_with fail
      go_roundw
      case rel=>exact ⟨m+1,r,by omega,hr,hrx,by go_num,rfl,hG.trans aA⟩
      case measure=>simp [intOf];omega
    · have hmp:p<=m:=Nat.le_of_not_lt fun h=>hc (TI.out.2 h)
      go_wp2_with fail
      refine (HF.out _).mono ?_
      rintro e w1 ⟨rfl,aA⟩
      go_wp2_with fail
      go_roundw
      case rel=>exact ⟨l,m,hl,hmp,by omega,rfl,rfl,hG.trans aA⟩
      case measure=>simp [intOf];omega
  · obtain rfl:l=p:=by omega
    obtain rfl:r=l:=by omega
    by_cases hpx:r<xs.length
    · rcases HA.out with h0 | ⟨b,off,rfl,hb,hR⟩
      · rw [h0] at hpx;simp at hpx
      have q0:=(hG.cells.1 b (off+r*3) hb).trans (hR.key r hpx)
      have q1:=(hG.cells.1 b (off+r*3+1) hb).trans (hR.val r hpx)
      have q2:=(hG.cells.1 b (off+r*3+2) hb).trans (hR.di r hpx)
      have HF:=af (fun W=>TH (ay xs r).key (ay xs r).val (ay xs r).di key W (HK.out r hpx) hy)
      have Ot:(r:Int)<(xs.length:Int):=by omega
      clear hR
      have HB:Hid (decide (r<xs.length/\Pl.bE (ay xs r).key key=0)=(Pl.bE (ay xs r).key key==0)):=by
       unfold Hid
       rw [zX5];simp [hpx]
      go_wp2_with fail
      refine (HF.out _).mono ?_
      rintro e w1 ⟨rfl,aA⟩
      go_wp2_with fail
      go_ret2
      exact ⟨by rw [HB.out];rfl,hG.trans aA⟩
    · have Ot:¬(r:Int)<(xs.length:Int):=by omega
      go_wp2_with fail
      go_ret2
      exact ⟨rfl,hG⟩
end
section
namespace Pl
structure ct (xs:List Pr):Prop where
 key:∀c∈xs,aF c.key=0
 gD:xs.Pairwise fun a b=>bE a.key b.key<0
theorem Ou:ct []:=⟨by simp,by simp⟩
def pos (xs:List Pr) (k:ByteArray):Nat:=xs.countP fun c=>decide (bE c.key k<0)
theorem Hl (xs:List Pr) (k:ByteArray):pos xs k<=xs.length:=List.countP_le_length
theorem Bg {k:ByteArray} (hk:Ok k):∀{xs:List Pr},ct xs->∀j,j<xs.length->(bE (ay xs j).key k<0↔j<pos xs k):=by
 intro xs
 induction xs with
 | nil=>intro _ j hj;simp at hj
 | cons c xs ih=>
  intro h j hj
  have hs:ct xs:=⟨fun x hx=>h.key x (List.mem_cons_of_mem _ hx),(List.pairwise_cons.1 h.gD).2⟩
  have hc:Ok c.key:=iF (h.key c (by simp))
  by_cases aq:bE c.key k<0
  · have e:pos (c::xs) k=pos xs k+1:=by unfold pos;rw [List.countP_cons_of_pos (by simpa using aq)]
    rw [e]
    cases j with
    | zero=>simp [ay,aq]
    | succ j=>
     have:=ih hs j (by simpa using hj)
     rw [show ay (c::xs) (j+1)=ay xs j from by simp [ay]]
     omega
  · have hall:∀x∈xs,¬bE x.key k<0:=by
     intro x hx hlt2
     exact aq (pH hc (iF (h.key x (List.mem_cons_of_mem _ hx))) hk ((List.pairwise_cons.1 h.gD).1 x hx) hlt2)
    have e0:pos xs k=0:=by
     unfold pos
     rw [List.countP_eq_zero]
     intro x hx
     simpa using hall x hx
    have e:pos (c::xs) k=0:=by
     unfold pos at e0 ⊢
     rw [List.countP_cons_of_neg (by simpa using aq)];exact e0
    rw [e]
    refine ⟨fun hh=>?_,fun hh=>by omega⟩
    cases j with
    | zero=>exact absurd (by simpa [ay] using hh) aq
    | succ j=>
     rw [show ay (c::xs) (j+1)=ay xs j from by simp [ay],jt xs j (by simpa using hj)] at hh
     exact absurd hh (hall _ (zQ5 _))
theorem Bh (xs:List Pr) (k:Nat) (h:k<xs.length):ay xs k∈xs:=by rw [jt xs k h];exact zQ5 h
def hasB (xs:List Pr) (k:ByteArray):Bool:=decide (pos xs k<xs.length/\bE (ay xs (pos xs k)).key k=0)
theorem Bi {xs:List Pr} (h:ct xs) {k:ByteArray} (hk:Ok k) (hb:hasB xs k=true):pos xs k<xs.length/\(ay xs (pos xs k)).key=k:=by
 unfold hasB at hb
 rw [decide_eq_true_iff] at hb
 exact ⟨hb.1,ug (iF (h.key _ (Bh xs _ hb.1))) hk hb.2⟩
theorem Ov {xs:List Pr} (h:ct xs) {c:Pr} (hc:c∈xs):hasB xs c.key=true/\ay xs (pos xs c.key)=c:=by
 obtain ⟨j,hj,rfl⟩:=zQ1 hc
 have hok:Ok (xs[j]).key:=iF (h.key _ hc)
 have hi:=Bg hok h
 have h1:¬j<pos xs (xs[j]).key:=by
  rw [<-hi j hj,jt xs j hj,yV hok];simp
 have h2:pos xs (xs[j]).key=j:=by
  rcases Nat.lt_or_ge (pos xs (xs[j]).key) j with aq | hge
  · have:=(hi (pos xs (xs[j]).key) (by omega)).1 (by
     rw [jt xs _ (by omega)]
     exact zX0.1 h.gD _ _ (by omega) hj aq)
    omega
  · omega
 rw [h2]
 refine ⟨?_,jt xs j hj⟩
 unfold hasB
 rw [h2,decide_eq_true_iff,jt xs j hj]
 exact ⟨hj,yV hok⟩
def fG (xs:List Pr) (p:Pr):List Pr:=xs.take (pos xs p.key)++[p]++xs.drop (pos xs p.key+if hasB xs p.key=true then 1 else 0)
def iz (xs:List Pr) (k:ByteArray):List Pr:=if aF k=0/\hasB xs k=true then xs.take (pos xs k)++xs.drop (pos xs k+1) else xs
theorem Ow {xs:List Pr} (h:ct xs) {k:ByteArray} (hk:Ok k) (c:Pr) (hc:c∈xs.take (pos xs k)):bE c.key k<0:=by
 obtain ⟨j,hj,rfl⟩:=zQ1 hc
 rw [List.length_take] at hj
 have:=(Bg hk h j (by omega)).2 (by omega)
 rw [jt xs j (by omega)] at this
 rw [List.getElem_take];exact this
theorem zw {xs:List Pr} (h:ct xs) {k:ByteArray} (hk:Ok k) (q:Nat) (Bj:q<xs.length) (hq:(pos xs k+if hasB xs k=true then 1 else 0)<=q):bE k (xs[q]).key<0:=by
 have Db:Ok (xs[q]).key:=iF (h.key _ (zQ5 Bj))
 have h1:¬bE (xs[q]).key k<0:=by
  rw [<-jt xs q Bj,Bg hk h q Bj]
  split at hq<;> omega
 have h2:bE (xs[q]).key k≠0:=by
  intro h0
  have he:(xs[q]).key=k:=ug Db hk h0
  have:=Ov h (zQ5 Bj)
  rw [he] at this
  have hp:=this.2
  rw [zZ1 this.1] at hq
  have hpl:=(Bi h hk this.1).1
  rw [jt xs _ hpl] at hp
  have hr:=zX0.1 h.gD (pos xs k) q hpl Bj (by omega)
  rw [hp,yV Db] at hr
  simp at hr
 rw [qM Db hk]
 omega
theorem Ox {xs:List Pr} (h:ct xs) {k:ByteArray} (hk:Ok k) (c:Pr) (hc:c∈xs.drop (pos xs k+if hasB xs k=true then 1 else 0)):bE k c.key<0:=by
 obtain ⟨j,hj,rfl⟩:=zQ1 hc
 rw [zQ8] at hj
 rw [List.getElem_drop]
 exact zw h hk _ _ (Nat.le_add_right _ _)
theorem Oy {xs ys:List Pr} (h:ct xs) (hs:ys.Sublist xs):ct ys:=⟨fun c hc=>h.key c (hs.subset hc),h.gD.sublist hs⟩
theorem LJ {xs:List Pr} (h:ct xs) {p:Pr} (hp:aF p.key=0):ct (fG xs p):=by
 have hk:=iF hp
 refine ⟨?_,?_⟩
 · intro c hc
   unfold fG at hc
   simp only [List.mem_append,List.mem_singleton] at hc
   rcases hc with (hc | rfl) | hc
   · exact h.key c (zX6 hc)
   · exact hp
   · exact h.key c (zX7 hc)
 · unfold fG
   rw [List.append_assoc,List.pairwise_append]
   refine ⟨h.gD.sublist (List.take_sublist _ _),?_,?_⟩
   · rw [List.singleton_append,List.pairwise_cons]
     exact ⟨fun c hc=>Ox h hk c hc,h.gD.sublist (List.drop_sublist _ _)⟩
   · intro a ha b hb
     have h1:=Ow h hk a ha
     simp only [List.singleton_append,List.mem_cons] at hb
     rcases hb with rfl | hb
     · exact h1
     · exact pH (iF (h.key a (zX6 ha))) hk (iF (h.key b (zX7 hb))) h1 (Ox h hk b hb)
theorem TJ {xs:List Pr} (h:ct xs) {k:ByteArray} (hk:Ok k) (c:Pr):(c∈xs.take (pos xs k)\/c∈xs.drop (pos xs k+if hasB xs k=true then 1 else 0))↔c∈xs/\c.key≠k:=by
 constructor
 · rintro (hc | hc)
   · refine ⟨zX6 hc,fun e=>?_⟩
     have:=Ow h hk c hc
     rw [e,yV hk] at this;simp at this
   · refine ⟨zX7 hc,fun e=>?_⟩
     have:=Ox h hk c hc
     rw [e,yV hk] at this;simp at this
 · rintro ⟨hc,hne⟩
   obtain ⟨j,hj,rfl⟩:=zQ1 hc
   by_cases aq:j<pos xs k
   · left;rw [List.mem_take_iff_getElem];exact ⟨j,by omega,rfl⟩
   · right
     rw [List.mem_drop_iff_getElem]
     by_cases hb:hasB xs k=true
     · rw [zZ1 hb]
       have hbk:=Bi h hk hb
       have pL:j≠pos xs k:=by
        rintro rfl
        rw [jt xs _ hbk.1] at hbk
        exact hne hbk.2
       exact ⟨j - (pos xs k+1),by omega,by congr 1;omega⟩
     · rw [zZ0 hb]
       exact ⟨j - (pos xs k+0),by omega,by congr 1;omega⟩
theorem Hm {xs:List Pr} (h:ct xs) {p:Pr} (hp:aF p.key=0) (c:Pr):c∈fG xs p↔c=p\/c∈xs/\c.key≠p.key:=by
 rw [<-TJ h (iF hp)]
 unfold fG
 simp only [List.mem_append,List.mem_singleton]
 constructor
 · rintro ((h | h) | h)
   · exact .inr (.inl h)
   · exact .inl h
   · exact .inr (.inr h)
 · rintro (h | h | h)
   · exact .inl (.inr h)
   · exact .inl (.inl h)
   · exact .inr h
theorem Oz {xs:List Pr} (h:ct xs) (k:ByteArray):ct (iz xs k):=by
 unfold iz
 split
 · refine Oy h ?_
   have e:xs=xs.take (pos xs k)++xs.drop (pos xs k):=(List.take_append_drop _ _).symm
   conv=>rhs;rw [e]
   exact List.Sublist.append (List.Sublist.refl _) (by rw [<-List.drop_drop];exact List.drop_sublist _ _)
 · exact h
theorem LK {xs:List Pr} (h:ct xs) (k:ByteArray) (c:Pr):c∈iz xs k↔c∈xs/\c.key≠k:=by
 unfold iz
 split
 · next hh=>
   have:=TJ h (iF hh.1) c
   rw [zZ1 hh.2] at this
   rw [List.mem_append];exact this
 · next hh=>
   refine ⟨fun hc=>⟨hc,fun e=>?_⟩,fun hc=>hc.1⟩
   subst e
   exact hh ⟨h.key c hc,(Ov h hc).1⟩
theorem Zo (xs:List Pr) (p:Pr):(fG xs p).length<=xs.length+1:=by
 unfold fG
 have:=Hl xs p.key
 simp only [zX8,List.length_take,List.length_singleton,zQ8]
 split<;> omega
end Pl
namespace Pl
end Pl
end
section
open Go.RowKit Go.Maps
attribute [local go_sem] Oper.semAt_some
structure lY (S:Nat->Bool):Prop where
 h1:S 1=true
 h2:S 2=true
 h3:S 3=true
 h6:S 6=true
 h7:S 7=true
structure tF (w:World) (F:Nat->Prop) (tb:Nat) (v:Value) (xs:List Pr):Prop where
 cell:w.cell? ⟨tb,0,none⟩=some v
 fz:w.frozen? ⟨tb,0,none⟩=false
 row:w.ownsRow 0 80 3 v xs.length (bM xs)
 fP:Pl.ct xs
 sz:∀c∈xs,c.key.size<=70368744177664
 bg:F tb
 aJ:∀g,v.ownBlock=some g->F g/\g≠tb
 lt:∀j,F j->j<w.heap.size
def bo (w:World) (F:Nat->Prop) (tb:Nat) (xs:List Pr):Prop:=∃v,tF w F tb v xs
theorem tF.kept {w w':World} {F S:Nat->Prop} {tb:Nat} {v:Value} {xs:List Pr} (h:tF w F tb v xs) (g:aj S w w') (hS:∀j,F j->¬S j):tF w' F tb v xs where
 cell:=(g.cell (aN h.cell) (hS _ h.bg) 0).trans h.cell
 fz:=(g.frozen (aN h.cell) (hS _ h.bg) 0).trans h.fz
 row:=by
  refine ⟨h.row.1,?_⟩
  rcases h.row.2 with h2 | ⟨b,cap,cur,e1,h2,h3,h4⟩
  · exact .inl h2
  · exact .inr ⟨b,cap,cur,e1,h2,(g.block b (zZ2.1 h3).1 (hS b (h.aJ b (by rw [e1];rfl)).1)).trans h3,h4⟩
 fP:=h.fP
 sz:=h.sz
 bg:=h.bg
 aJ:=h.aJ
 lt j hj:=ltT (h.lt j hj) g.size
theorem tF.ag {w w':World} {F:Nat->Prop} {tb:Nat} {v:Value} {xs:List Pr} (h:tF w F tb v xs) (g:ae w w'):tF w' F tb v xs:=h.kept (g.only fun _=>False) (fun _ _ h=>h)
theorem bo.kept {w w':World} {F S:Nat->Prop} {tb:Nat} {xs:List Pr} (h:bo w F tb xs) (g:aj S w w') (hS:∀j,F j->¬S j):bo w' F tb xs:=by
 obtain ⟨v,h⟩:=h;exact ⟨v,h.kept g hS⟩
theorem bo.ag {w w':World} {F:Nat->Prop} {tb:Nat} {xs:List Pr} (h:bo w F tb xs) (g:ae w w'):bo w' F tb xs:=by
 obtain ⟨v,h⟩:=h;exact ⟨v,h.ag g⟩
theorem tF.OM {w:World} {F:Nat->Prop} {tb:Nat} {v:Value} {xs:List Pr} (h:tF w F tb v xs):∀j,j<xs.length->(ay xs j).key.size<=70368744177664:=fun j hj=>h.sz _ (Pl.Bh xs j hj)
theorem LS (w:World):Calls Tryz.prog 80 #[] w fun e w'=>e=.returned (.pointer (some ⟨w.heap.size,0,none⟩))/\ae w w'/\bo w' (fun j=>j=w.heap.size) w.heap.size []:=by
 go_in
 go_wp2_with fail
 go_ret
 exact ⟨rfl,(ae.rf w).alloc _,_,⟨by simp [go_sem],by simp [go_sem],World.ownsRow_nil _ _ _ _,Pl.Ou,by simp,rfl,(fun g hg=>by cases hg),(fun j hj=>by subst hj;simp)⟩⟩
theorem OO {w:World} {F:Nat->Prop} {tb:Nat} {xs:List Pr} (h:bo w F tb xs) (hx:xs.length<=1000000) (key:ByteArray) (hy:key.size<=70368744177664) (hk:Pl.Ok key):
    Calls Tryz.prog 156 #[.pointer (some ⟨tb,0,none⟩),.string key] w fun e w'=>e=.returned (.tuple #[.int .i64 (Pl.pos xs key:Nat),.bool (Pl.hasB xs key)])/\ae w w':=by
 obtain ⟨v,h⟩:=h
 obtain ⟨a,cap,rfl,hA⟩:=lJ h.row
 have c0:=h.cell
 have hB:∀W,ae w W->Calls Tryz.prog 183 #[.slice a xs.length cap,.string key,.func (.func 184) #[] #[]] W fun e w'=>e=.returned (.tuple #[.int .i64 ((Pl.pos xs key:Nat):Int),.bool (Pl.hasB xs key)])/\ae W w':=
  fun W (g:ae w W)=>Zn a cap xs key W (hA.ag g) hx h.OM hy (Pl.pos xs key) (Pl.Hl xs key) (Pl.Bg hk h.fP)
 have HB:=af hB
 clear hB
 clear h hA
 go_in
 go_wp2_with fail
 refine (HB.out _ (ae.rf w)).mono ?_
 rintro e w1 ⟨rfl,hg⟩
 go_wp2_with fail
 go_ret2
 exact ⟨rfl,hg⟩
namespace Pl
def rW (xs:List Pr) (k:ByteArray):Int:=if aF k=0/\hasB xs k=true then ((pos xs k:Nat):Int) else -1
end Pl
theorem LU {S:Nat->Bool} (hS:lY S) (E:Nat->Addr) {w:World} (hE:aY S E w) {F:Nat->Prop} {tb:Nat} {xs:List Pr} (h:bo w F tb xs) (hx:xs.length<=1000000) (key:ByteArray) (hy:key.size<=70368744177664):
    Calls Tryz.prog 116 #[.pointer (some ⟨tb,0,none⟩),.string key] w fun e w'=>e=.returned (.int .i64 (Pl.rW xs key))/\ae w w':=by
 have HE:=af hE
 have HT:=af h
 clear hE h
 by_cases hk:Pl.aF key=0
 · have HK:Hid (aX E (Pl.aF key)=.nilIface):=by unfold Hid;rw [hk];rfl
   have HF:=af (fun W (g:ae w W)=>OO (HT.out.ag g) hx key hy (Pl.iF hk))
   have HA:Hid (Pl.rW xs key=if Pl.hasB xs key=true then ((Pl.pos xs key:Nat):Int) else -1):=by
    unfold Hid Pl.rW
    by_cases hb:Pl.hasB xs key=true
    · rw [zZ1 ⟨hk,hb⟩,zZ1 hb]
    · rw [zZ0 (fun h=>hb h.2),zZ0 hb]
   clear hk
   generalize Pl.pos xs key=p at *
   generalize Pl.hasB xs key=b at *
   go_in
   go_wp2_with fail
   refine (mZ S E hS.h2 hS.h3 hS.h6 hS.h7 key _ (by omega) HE.out).mono ?_
   rw [HK.out]
   rintro e w1 ⟨rfl,hg⟩
   go_wp2_with fail
   refine (HF.out _ hg).mono ?_
   rintro e w2 ⟨rfl,aB⟩
   cases b with
   | true=>
    go_wp2_with fail
    go_ret
    exact ⟨fV (by rw [HA.out];rfl),hg.trans aB⟩
   | false=>
    go_wp2_with fail
    go_ret
    exact ⟨fV (by rw [HA.out];rfl),hg.trans aB⟩
 · have HK:=af (show aX E (Pl.aF key)=.iface 337 (.pointer (some (E (Pl.aF key)))) from sX E _ hk)
   have HA:Hid (Pl.rW xs key= -1):=by unfold Hid Pl.rW;rw [zZ0 (fun h=>hk h.1)]
   go_in
   go_wp2_with fail
   refine (mZ S E hS.h2 hS.h3 hS.h6 hS.h7 key _ (by omega) HE.out).mono ?_
   rw [HK.out]
   rintro e w1 ⟨rfl,hg⟩
   go_wp2_with fail
   go_ret
   exact ⟨fV (by rw [HA.out]),hg⟩
namespace Pl
def dJ (xs:List Pr) (k:ByteArray):Option Pr:=if aF k=0/\hasB xs k=true then some (ay xs (pos xs k)) else none
theorem LV {xs:List Pr} (h:ct xs) {k:ByteArray} {c:Pr} (hg:dJ xs k=some c):c∈xs/\c.key=k:=by
 unfold dJ at hg
 split at hg
 · next hh=>
   cases hg
   have:=Bi h (iF hh.1) hh.2
   exact ⟨Bh xs _ this.1,this.2⟩
 · cases hg
theorem LW {xs:List Pr} (h:ct xs) {c:Pr} (hc:c∈xs):dJ xs c.key=some c:=by
 have:=Ov h hc
 unfold dJ
 rw [zZ1 ⟨h.key c hc,this.1⟩,this.2]
theorem ZE {xs:List Pr} (h:ct xs) {k:ByteArray} (hn:∀c∈xs,c.key≠k):dJ xs k=none:=by
 cases hg:dJ xs k with
 | none=>rfl
 | some c=>exact absurd (LV h hg).2 (hn c (LV h hg).1)
end Pl
theorem TU {S:Nat->Bool} (hS:lY S) (E:Nat->Addr) {w:World} (hE:aY S E w) {F:Nat->Prop} {tb:Nat} {xs:List Pr} (h:bo w F tb xs) (hx:xs.length<=1000000) (key:ByteArray) (hy:key.size<=70368744177664):
    Calls Tryz.prog 60 #[.pointer (some ⟨tb,0,none⟩),.string key] w fun e w'=>e=.returned (.tuple #[((Pl.dJ xs key).getD Pr.none).agg,.bool (Pl.dJ xs key).isSome])/\ae w w':=by
 have HE:=af hE
 have HT:=af h
 obtain ⟨v,h⟩:=h
 obtain ⟨a,cap,rfl,hA⟩:=lJ h.row
 have c0:=h.cell
 have hb:tb<w.heap.size:=aN c0
 have HS:=af h.fP
 clear hE h
 by_cases hh:Pl.aF key=0/\Pl.hasB xs key=true
 · have hg:Pl.dJ xs key=some (ay xs (Pl.pos xs key)):=by unfold Pl.dJ;rw [zZ1 hh]
   have ha:Pl.rW xs key=(Pl.pos xs key:Nat):=by unfold Pl.rW;rw [zZ1 hh]
   have hp:=(Pl.Bi HS.out (Pl.iF hh.1) hh.2).1
   have hR:=af (fun W (g:ae w W)=>LU hS E (HE.out.ag g) (HT.out.ag g) hx key hy)
   rw [hg]
   rw [ha] at hR
   clear hg ha hh
   generalize Pl.pos xs key=p at *
   rcases hA with h0 | ⟨b,off,rfl,hbb,cC⟩
   · rw [h0] at hp;simp at hp
   have q0:=cC.key p hp
   have q1:=cC.val p hp
   have q2:=cC.di p hp
   clear cC
   have ZF:(p:Int)<(xs.length:Int):=by omega
   generalize ay xs p=c at *
   obtain ⟨ck,cv,cn⟩:=c
   dsimp only at *
   go_in
   go_wp2_with fail
   refine (hR.out _ ((ae.rf w).alloc _)).mono ?_
   rintro e w1 ⟨rfl,hg⟩
   have hz:w.heap.size<w1.heap.size:=by have:=hg.size;simp at this;omega
   obtain ⟨hc,hf⟩:=hg.cells
   go_wp2_with fail
   refine bodyPost_ret (v:=.tuple #[.agg #[.string ck,.string cv,.int .i64 cn],.bool true]) (by simp [results,Tryz.results60,go_sem,hc]) rfl ⟨rfl,?_⟩
   have hG:=((ae.rf w).alloc _).trans hg
   refine ((hG.setCell ?_ _).setCell ?_ _).setCell ?_ _<;> exact zZ3 _
 · have hg:Pl.dJ xs key=none:=by unfold Pl.dJ;rw [zZ0 hh]
   have ha:Pl.rW xs key= -1:=by unfold Pl.rW;rw [zZ0 hh]
   have hR:=af (fun W (g:ae w W)=>LU hS E (HE.out.ag g) (HT.out.ag g) hx key hy)
   rw [hg]
   rw [ha] at hR
   clear hg ha hh
   go_in
   go_wp2_with fail
   refine (hR.out _ ((ae.rf w).alloc _)).mono ?_
   rintro e w1 ⟨rfl,hg⟩
   have hz:w.heap.size<w1.heap.size:=by have:=hg.size;simp at this;omega
   obtain ⟨hc,hf⟩:=hg.cells
   go_wp2_with fail
   refine bodyPost_ret (v:=.tuple #[.agg #[.string ⟨#[]⟩,.string ⟨#[]⟩,.int .i64 0],.bool false]) (by simp [results,Tryz.results60,go_sem,hc]) rfl ⟨rfl,?_⟩
   have hG:=((ae.rf w).alloc _).trans hg
   refine ((hG.setCell ?_ _).setCell ?_ _).setCell ?_ _<;> exact zZ3 _
theorem ZG (w:World):Calls Tryz.prog 193 #[.slice none 0 0,.int .i64 0] w fun e w'=>e=.returned (.slice none 0 0)/\w'=w:=by
 go_in
 go_wp2_with fail
 go_ret
 exact ⟨rfl,rfl⟩
theorem H6:(Value.cells (.agg #[.string ⟨#[]⟩,.string ⟨#[]⟩,.int .i64 0])).size=3:=by kernel_rfl
theorem H7 (w:World) (n:Nat) (h0:0<n) (hn:n<=2000000):Calls Tryz.prog 193 #[.slice none 0 0,.int .i64 (n:Int)] w fun e w'=>∃g cap,e=.returned (.slice (some ⟨g,0,none⟩) 0 cap)/\w'.ownsRow w.heap.size 80 3 (.slice (some ⟨g,0,none⟩) 0 cap) 0 []/\ae w w':=by
 obtain ⟨i0,hi0,hz0,hz1,hz2⟩:=info_parts Nv
 have z1:¬((n:Int)<0):=by omega
 have z2:(n:Int) > 0:=by omega
 have z3:IntKind.i64.wrap ((n:Int) - 0)=(n:Int):=by rw [show (n:Int) - 0=(n:Int) by omega];exact IntWalk.i64_in _ (by omega)
 have hge:=grownCap_ge w n 0 80
 have hle:=grownCap_le_maxLen w n 0 80 (by unfold maxLen;omega)
 have HO:=af (fun (c:Nat) (h1:n<=c) (h2:c<=maxLen)=>show (w.drew.alloc (.cells (Builtin.zeroCells (Value.cells (.agg #[.string ⟨#[]⟩,.string ⟨#[]⟩,.int .i64 0])) n++Builtin.zeroCells (Value.cells (.agg #[.string ⟨#[]⟩,.string ⟨#[]⟩,.int .i64 0])) (c - n)) 80)).ownsRow w.heap.size 80 3 (.slice (some ⟨w.heap.size,0,none⟩) 0 c) 0 [] from by
  refine na (cur:=(Builtin.zeroCells (Value.cells (.agg #[.string ⟨#[]⟩,.string ⟨#[]⟩,.int .i64 0])) n++Builtin.zeroCells (Value.cells (.agg #[.string ⟨#[]⟩,.string ⟨#[]⟩,.int .i64 0])) (c - n)).toList) (zZ3 _) ?_ (Nat.zero_le _) (by unfold maxLen at h2;omega) ?_ (by simp)
  · rw [Array.toArray_toList];exact heap_alloc_new w.drew _
  · rw [Array.length_toList,Array.size_append,size_zeroCells,size_zeroCells,H6];omega)
 have HG:=af (fun (os:Obj)=>((ae.rf w).drew).alloc os)
 have TV:=af (HO.out _ hge hle)
 have HR:=af (Lib.run_append_nil_zeros (P:=Tryz.prog) w 84 3 84 80 i0 _ .i64 .i64 Tryz.underlying84 Tryz.underlying3 hi0 hz0 n h0 (by omega) (by omega) (by rw [hz2];omega))
 clear HO
 generalize hW:w.drew.alloc _=W at TV HR
 have ki:Hid (ae w W):=by rw [<-hW];exact HG.out _
 clear hW HG
 go_in
 go_wp2_with (at_builtin;refine Lib.wpList_append_run _ rfl _ _ _ _ rfl _ _ rfl rfl _ _ HR.out ?_)
 go_wp2_with fail
 go_ret
 exact ⟨_,_,rfl,TV.out,ki.out⟩
theorem zz (w:World) (vb:Nat) (a1 a2:Option Addr) (c1 c2:Nat) (xs ys:List Pr) (h1:w.cell? ⟨vb,0,none⟩=some (.slice a1 xs.length c1)) (h2:w.cell? ⟨vb,1,none⟩=some (.slice a2 ys.length c2)) (A1:lI w a1 xs) (A2:lI w a2 ys) (F1:Bf a1 c1) (F2:Bf a2 c2) (hx:xs.length<=1000000) (hy:ys.length<=1000000):
    Calls Tryz.prog 177 #[.slice (some ⟨vb,0,none⟩) 2 2] w fun e w'=>∃a cap,e=.returned (.slice a (xs.length+ys.length) cap)/\w'.ownsRow w.heap.size 80 3 (.slice a (xs.length+ys.length) cap) (xs.length+ys.length) (bM (xs++ys))/\ae w w':=by
 have hvb:vb<w.heap.size:=aN h1
 have HX:=af (And.intro A1 (And.intro F1 hx))
 have HY:=af (And.intro A2 (And.intro F2 hy))
 have H8:∀W:World,Calls Tryz.prog 193 #[.slice none 0 0,.int .i64 ((xs.length:Int)+(ys.length:Int))] W fun e w'=>∃a cap,e=.returned (.slice a 0 cap)/\w'.ownsRow W.heap.size 80 3 (.slice a 0 cap) 0 (bM [])/\ae W w':=fun W=>by
  rcases zX9 (xs.length+ys.length) with h0 | h0
  · have e:((xs.length:Int)+(ys.length:Int))=0:=by omega
    rw [e]
    exact (ZG W).mono fun e w' ⟨he,hw⟩=>⟨none,0,he,World.ownsRow_nil _ _ _ _,by rw [hw];exact ae.rf W⟩
  · rw [<-Int.natCast_add]
    exact (H7 W _ h0 (by omega)).mono fun e w' ⟨g,cap,he,hr,hg⟩=>⟨_,_,he,hr,hg⟩
 have tG:=af H8
 have b1:(xs.length:Int)<=1000000:=by omega
 have b2:(ys.length:Int)<=1000000:=by omega
 clear H8 A1 A2 F1 F2
 go_in
 go_wp2_with fail
 go_loopw [11,3] (fun i s wr=>wr=w/\((i=.int .i64 0/\s=.int .i64 0)\/(i=.int .i64 1/\s=.int .i64 xs.length)\/(i=.int .i64 2/\s=.int .i64 ((xs.length:Int)+(ys.length:Int))))) (fun i _ _=>2 - (intOf i).toNat)
 case atStart=>exact ⟨rfl,.inl ⟨rfl,rfl⟩⟩
 case round=>
  obtain ⟨rfl,hrel⟩:=hrel
  rcases hrel with ⟨rfl,rfl⟩ | ⟨rfl,rfl⟩ | ⟨rfl,rfl⟩
  · go_wp2_with fail
    go_roundw
    case rel=>exact ⟨trivial,.inr (.inl ⟨by go_num,by go_num⟩)⟩
    case measure=>simp [intOf]
  · go_wp2_with fail
    go_roundw
    case rel=>exact ⟨trivial,.inr (.inr ⟨by go_num,by go_num⟩)⟩
    case measure=>simp [intOf]
  · go_wp2_with fail
    refine (tG.out _).mono ?_
    rintro e w1 ⟨a,cap,rfl,hr,hg⟩
    have HS:=af (And.intro hr hg)
    have hsz:=hg.size
    have g1:=(hg.cells.1 _ 0 hvb).trans h1
    have g2:=(hg.cells.1 _ 1 hvb).trans h2
    clear hr hg
    go_wp2_with fail
    go_loopw [27,6] (fun i v wx=>(i=.int .i64 0/\∃a cap,v=.slice a 0 cap/\Hid (wx.ownsRow wr.heap.size 80 3 (.slice a 0 cap) 0 (bM [])/\ae wr wx))\/(i=.int .i64 1/\∃a cap,v=.slice a xs.length cap/\Hid (wx.ownsRow wr.heap.size 80 3 (.slice a xs.length cap) xs.length (bM xs)/\ae wr wx))\/(i=.int .i64 2/\∃a cap,v=.slice a (xs.length+ys.length) cap/\Hid (wx.ownsRow wr.heap.size 80 3 (.slice a (xs.length+ys.length) cap) (xs.length+ys.length) (bM (xs++ys))/\ae wr wx))) (fun i _ _=>2 - (intOf i).toNat)
    case atStart=>exact .inl ⟨rfl,a,cap,rfl,HS⟩
    case round=>
     rcases hrel with ⟨rfl,a,cap,rfl,HR⟩ | ⟨rfl,a,cap,rfl,HR⟩ | ⟨rfl,a,cap,rfl,HR⟩
     · have q1:=(HR.out.2.cells.1 _ 0 hvb).trans h1
       have HA:=af (HX.out.1.ag HR.out.2)
       clear g1 g2 h1 h2
       go_wp2_with (at_builtin;refine TE rfl _ _ rfl rfl HR.out.1 rfl rfl HA.out HX.out.2.1 (by omega) HR.out.2.size ?_)
       intro a' cap' w2 hr2 hgr
       have ik:=af (And.intro hr2 (((HR.out.2.only (fun j=>some j=Value.ownBlock (.slice a 0 cap))).then (aj.of_grownBy hgr)).ag (fun j hj=>(HR.out.1.lt j hj.symm).1)))
       clear hr2 hgr
       go_wp2_with fail
       go_roundw
       case rel=>exact .inr (.inl ⟨by go_num,a',cap',rfl,ik⟩)
       case measure=>simp [intOf]
     · have q2:=(HR.out.2.cells.1 _ 1 hvb).trans h2
       have HA:=af (HY.out.1.ag HR.out.2)
       clear g1 g2 h1 h2
       go_wp2_with (at_builtin;refine TE rfl _ _ rfl rfl HR.out.1 rfl rfl HA.out HY.out.2.1 (by omega) HR.out.2.size ?_)
       intro a' cap' w2 hr2 hgr
       have ik:=af (And.intro hr2 (((HR.out.2.only (fun j=>some j=Value.ownBlock (.slice a xs.length cap))).then (aj.of_grownBy hgr)).ag (fun j hj=>(HR.out.1.lt j hj.symm).1)))
       clear hr2 hgr
       go_wp2_with fail
       go_roundw
       case rel=>exact .inr (.inr ⟨by go_num,a',cap',rfl,ik⟩)
       case measure=>simp [intOf]
     · go_wp2_with fail
       go_ret
       exact ⟨a,cap,rfl,HR.out.1,HR.out.2⟩
end
end Go.Proofs.YtbnofojapimfcaaGreatDoor
namespace Go.Proofs.YtbnofojapimfcaaGreatDoor.Pl
open Go.Sort Go.Proofs
theorem TW {α:Type} (lt:α->α->Prop):∀(l l':List α),l.Perm l'->l.Pairwise lt->l'.Pairwise (fun a b=>¬lt b a)->(∀a b,lt a b->¬lt b a)->l=l'
 | [],l',hp,_,_,_=>(List.Perm.nil_eq hp)
 | a::l,[],hp,_,_,_=>by have:=hp.length_eq;simp at this
 | a::l,b::l',hp,h1,h2,h3=>by
  rw [List.pairwise_cons] at h1 h2
  have hab:a=b:=by
   have hb:b∈a::l:=hp.mem_iff.2 (List.mem_cons_self ..)
   have ha:a∈b::l':=hp.mem_iff.1 (List.mem_cons_self ..)
   rcases List.mem_cons.1 hb with hb | hb
   · exact hb.symm
   · rcases List.mem_cons.1 ha with ha | ha
     · exact ha
     · exact absurd (h1.1 b hb) (h2.1 a ha)
  subst hab
  rw [TW lt l l' (List.perm_cons a |>.1 hp) h1.2 h2.2 h3]
end Go.Proofs.YtbnofojapimfcaaGreatDoor.Pl
namespace Go.Proofs.YtbnofojapimfcaaGreatDoor
section
namespace Pl
theorem TX {a b:ByteArray} (h:bE a b<0):¬bE b a<0:=by
 have hab:Ok a/\Ok b:=by
  unfold bE at h
  split at h
  · next x y hx hy=>exact ⟨⟨x,hx⟩,⟨y,hy⟩⟩
  · simp at h
 have:=qM hab.1 hab.2
 omega
theorem TY {xs:List Pr} (h:ct xs) (n:Nat):ct (xs.take n):=Oy h (List.take_sublist _ _)
theorem TZ {xs:List Pr} (h:ct xs) (n:Nat):ct (xs.drop n):=Oy h (List.drop_sublist _ _)
def bh (xs:List Pr) (k:ByteArray):Nat:=if right k=true then pos xs k else xs.length
theorem zA (xs:List Pr) (k:ByteArray):bh xs k<=xs.length:=by unfold bh;split;exact Hl xs k;exact zZ3 _
theorem T3 {k:ByteArray} (h:right k=true):Ok k:=by
 unfold right at h
 cases hr:runes k.data.toList with
 | none=>rw [hr] at h;cases h
 | some l=>exact ⟨l,hr⟩
theorem zB {xs:List Pr} (h:ct xs) {k:ByteArray} (hk:right k=true):b7 (fun c:Pr=>decide (0<=bE c.key k)) xs=if bh xs k<xs.length then ((bh xs k:Nat):Int) else -1:=by
 have hp:=Bg (T3 hk) h
 unfold bh
 rw [zZ1 hk]
 have hall:∀m,m<=pos xs k->(xs.take m).all (fun c=>!(decide (0<=bE c.key k)))=true:=by
  intro m hm
  rw [zX2]
  intro c hc
  obtain ⟨j,hj,rfl⟩:=zQ1 hc
  rw [List.length_take] at hj
  have:=(hp j (by omega)).2 (by omega)
  rw [jt xs j (by omega)] at this
  rw [List.getElem_take]
  simpa using this
 by_cases aq:pos xs k<xs.length
 · rw [zZ1 aq]
   refine tU _ xs _ aq (hall _ (zZ3 _)) ?_
   have:=(hp _ aq)
   rw [jt xs _ aq] at this
   exact decide_eq_true (by omega)
 · rw [zZ0 aq]
   have:=hall xs.length (by omega)
   rw [zQ2] at this
   exact rL _ xs this
theorem ZH {xs zs:List Pr} (hs:ct xs) (hp:zs.Perm xs) (hz:zs.Pairwise fun a b=>¬bE b.key a.key<0):zs=xs:=
 (TW (fun a b:Pr=>bE a.key b.key<0) xs zs hp.symm hs.gD hz fun _ _ h=>TX h).symm
def jw:List Pr->Bool
 | a::b::r=>decide (a.key=b.key) || jw (b::r)
 | _=>false
theorem T6 {xs:List Pr} (h:∀i,i+1<xs.length->(ay xs i).key≠(ay xs (i+1)).key):jw xs=false:=by
 induction xs with
 | nil=>rfl
 | cons a xs ih=>
  cases xs with
  | nil=>rfl
  | cons b r=>
   unfold jw
   rw [ih (fun i hi=>by have:=h (i+1) (by simpa using hi);simpa [ay] using this),decide_eq_false (by have:=h 0 (by simp);simpa [ay] using this)]
   rfl
theorem vC {xs:List Pr} (i:Nat) (hi:i+1<xs.length) (h:(ay xs i).key=(ay xs (i+1)).key):jw xs=true:=by
 induction xs generalizing i with
 | nil=>simp at hi
 | cons a xs ih=>
  cases xs with
  | nil=>simp at hi
  | cons b r=>
   unfold jw
   cases i with
   | zero=>rw [decide_eq_true (by simpa [ay] using h)];rfl
   | succ i=>rw [ih i (by simpa using hi) (by simpa [ay] using h),Bool.or_true]
theorem ZI {zs:List Pr} (hk:∀c∈zs,aF c.key=0) (hz:zs.Pairwise fun a b=>¬bE b.key a.key<0) (hd:jw zs=false):ct zs:=by
 refine ⟨hk,?_⟩
 induction zs with
 | nil=>exact List.Pairwise.nil
 | cons a zs ih=>
  rw [List.pairwise_cons] at hz
  cases zs with
  | nil=>simp
  | cons b r=>
   unfold jw at hd
   rw [Bool.or_eq_false_iff,decide_eq_false_iff_not] at hd
   have h2:=ih (fun c hc=>hk c (List.mem_cons_of_mem _ hc)) hz.2 hd.2
   have ha:Ok a.key:=iF (hk a (by simp))
   have hb:Ok b.key:=iF (hk b (by simp))
   have hab:bE a.key b.key<0:=by
    have h3:=hz.1 b (by simp)
    have h4:=qM ha hb
    have h5:bE a.key b.key≠0:=fun h=>hd.1 (ug ha hb h)
    omega
   rw [List.pairwise_cons]
   refine ⟨fun c hc=>?_,h2⟩
   rcases List.mem_cons.1 hc with rfl | hc
   · exact hab
   · exact pH ha hb (iF (hk c (by simp [hc]))) hab ((List.pairwise_cons.1 h2).1 c hc)
end Pl
end
section
open Go.RowKit
attribute [local go_sem] Oper.semAt_some
def Pr.cD (c:Pr):Value:=.agg c.vals.toArray
theorem Dp (p:Pr->Bool) (cb:Nat) (a:Option Addr) (cap:Nat) (xs:List Pr) (w:World) (hA:lI w a xs) (hx:xs.length<=1000000)
    (hp:∀j,j<xs.length->∀W,ae w W->Calls Tryz.prog 176 #[(ay xs j).cD,.pointer (some ⟨cb,0,none⟩)] W fun e W'=>e=.returned (.bool (p (ay xs j)))/\ae W W'):
    Calls Tryz.prog 175 #[.slice a xs.length cap,.func (.func 176) #[] #[.pointer (some ⟨cb,0,none⟩)]] w fun e w'=>e=.returned (.int .i64 (b7 p xs))/\ae w w':=by
 have HA:=af hA
 have HP:=af hp
 clear hA hp
 go_in
 go_wp2_with fail
 go_loopw [8] (fun i wr=>∃k:Nat,k<=xs.length/\i=.int .i64 k/\Hid ((xs.take k).all (fun c=>!p c)=true)/\ae w wr) (fun i _=>xs.length - (intOf i).toNat)
 case atStart=>exact ⟨0,Nat.zero_le _,rfl,rfl,ae.rf w⟩
 case round=>
  obtain ⟨k,hk1,rfl,HN,hG⟩:=hrel
  by_cases aq:k<xs.length
  · rcases HA.out with h0 | ⟨b,off,rfl,hb,hR⟩
    · rw [h0] at aq;simp at aq
    have q0:=(hG.cells.1 b (off+k*3) hb).trans (hR.key k aq)
    have q1:=(hG.cells.1 b (off+k*3+1) hb).trans (hR.val k aq)
    have q2:=(hG.cells.1 b (off+k*3+2) hb).trans (hR.di k aq)
    have HC:=af (HP.out k aq)
    have hat:ay xs k=xs[k]:=jt xs k aq
    have mF:=af hat
    clear hR hat
    have HS:=af (tU p xs k aq HN.out)
    have eI:=af (yR p xs k aq HN.out)
    rw [<-mF.out] at HS eI
    generalize ay xs k=c at *
    clear mF
    unfold Pr.cD at HC
    cases hpc:p c with
    | true=>
     rw [hpc] at HC
     have dt:=af (HS.out hpc)
     obtain ⟨c0,c1,c2⟩:=c
     dsimp only [Pr.vals] at *
     clear hpc HS eI
     go_wp2_with fail
     refine (HC.out _ hG).mono ?_
     rintro e w1 ⟨rfl,aA⟩
     go_wp2_with fail
     go_ret
     exact ⟨fV dt.out.symm,hG.trans aA⟩
    | false=>
     rw [hpc] at HC
     have dt:=af (eI.out hpc)
     obtain ⟨c0,c1,c2⟩:=c
     dsimp only [Pr.vals] at *
     clear hpc HS eI
     go_wp2_with fail
     refine (HC.out _ hG).mono ?_
     rintro e w1 ⟨rfl,aA⟩
     go_wp2_with fail
     go_roundw
     case rel=>exact ⟨k+1,by omega,by go_num,dt,hG.trans aA⟩
     case measure=>simp [intOf];omega
  · obtain rfl:k=xs.length:=by omega
    have HE:=af (rL p xs (by have:=HN.out;rwa [zQ2] at this))
    go_wp2_with fail
    go_ret
    exact ⟨fV HE.out.symm,hG⟩
end
section
open Go.RowKit Go.Maps
attribute [local go_sem] Oper.semAt_some
theorem OQ (w:World) (a:Option Addr) (n cap:Nat) (xs:List Pr) (hn:n=xs.length) (hA:lI w a xs) (hf:Bf a cap) (hx:xs.length<=1000000):
    Calls Tryz.prog 126 #[.slice a n cap] w fun e w'=>∃a' c',e=.returned (.slice a' n c')/\w'.ownsRow w.heap.size 80 3 (.slice a' n c') xs.length (bM xs)/\ae w w':=by
 subst hn
 rcases zX9 xs.length with h0 | h0
 · have e:=zX1 h0
   subst e
   rcases hf with ⟨rfl,rfl⟩ | ⟨b,off,rfl⟩
   · exact (ZK w).mono fun e w' ⟨he,hg⟩=>⟨_,_,he,World.ownsRow_nil _ _ _ _,hg⟩
   · exact (ZL w b off cap).mono fun e w' ⟨he,hr,hg⟩=>⟨_,_,he,hr,hg⟩
 · rcases hA with h1 | ⟨b,off,rfl,hb,hR⟩
   · rw [h1] at h0;simp at h0
   · exact (ZJ w b off xs.length cap h0 hx (bM xs) (uY xs) hR.cells (Hk xs)).mono fun e w' ⟨g,cap,he,hr,hg⟩=>⟨_,_,he,hr,hg⟩
theorem FM {w:World} {F:Nat->Prop} {tb:Nat} {xs:List Pr} (h:bo w F tb xs):Pl.ct xs:=by obtain ⟨v,h⟩:=h;exact h.fP
theorem LX {w:World} {F:Nat->Prop} {tb:Nat} {xs:List Pr} (h:bo w F tb xs):∀c∈xs,c.key.size<=70368744177664:=by obtain ⟨v,h⟩:=h;exact h.sz
theorem nP {w:World} {F:Nat->Prop} {tb:Nat} {xs:List Pr} (h:bo w F tb xs):∀j,F j->j<w.heap.size:=by obtain ⟨v,h⟩:=h;exact h.lt
theorem LY {w:World} {F:Nat->Prop} {tb:Nat} {xs:List Pr} (h:bo w F tb xs):F tb:=by obtain ⟨v,h⟩:=h;exact h.bg
theorem LZ {w:World} {tb B:Nat} {v:Value} {xs:List Pr} (hc:w.cell? ⟨tb,0,none⟩=some v) (hf:w.frozen? ⟨tb,0,none⟩=false) (hr:w.ownsRow B 80 3 v xs.length (bM xs)) (hB:tb<B\/∀g,v.ownBlock=some g->g≠tb) (hs:Pl.ct xs) (hz:∀c∈xs,c.key.size<=70368744177664):
    bo w (fun j=>j=tb\/(v.ownBlock=some j/\B<=j)) tb xs:=by
 refine ⟨v,⟨hc,hf,Yc hr,hs,hz,.inl rfl,fun g hg=>⟨.inr ⟨hg,(hr.lt g hg).1⟩,?_⟩,?_⟩⟩
 · rcases hB with hB | hB
   · have:=(hr.lt g hg).1;omega
   · exact hB g hg
 · rintro j (rfl | ⟨hj,_⟩)
   · exact aN hc
   · exact (hr.lt j hj).2
def zD (w:World) (F:Nat->Prop) (tb:Nat) (ys zs:List Pr) (ob:Nat) (w':World):Prop:=
 aj F w w'/\∃F' Fo,bo w' F' tb ys/\bo w' Fo ob zs/\(∀j,F' j->F j\/w.heap.size<=j)/\∀j,Fo j->w.heap.size<=j/\¬F' j
theorem zD.bare {w w1 w':World} {F:Nat->Prop} {tb:Nat} {xs:List Pr} (h:bo w F tb xs) (g1:ae w w1) (g2:ae w1 w') (hT:bo w' (fun j=>j=w1.heap.size) w1.heap.size []):zD w F tb xs [] w1.heap.size w':=by
 refine ⟨(g1.trans g2).only F,F,_,h.ag (g1.trans g2),hT,fun _=> .inl,?_⟩
 rintro j rfl
 refine ⟨g1.size,fun hF=>?_⟩
 have:=nP h _ hF
 have:=g1.size
 omega
theorem zD.two {w w1 w2 w4:World} {F:Nat->Prop} {tb n:Nat} {xs:List Pr} {v1 v2:Value} {T:TypeId} (h:bo w F tb xs) (g1:ae w w1) (r1:w2.ownsRow w1.heap.size 80 3 v1 (xs.drop n).length (bM (xs.drop n))) (g2:ae w1 w2)
    (r2:w4.ownsRow (w2.alloc (.cells #[v1] T)).heap.size 80 3 v2 (xs.take n).length (bM (xs.take n))) (g4:ae (w2.alloc (.cells #[v1] T)) w4):
    zD w F tb (xs.take n) (xs.drop n) w2.heap.size (w4.setCell ⟨tb,0,none⟩ v2):=by
 have dR:tb<w.heap.size:=nP h _ (LY h)
 have s1:=g1.size
 have s2:=g2.size
 have s4:=g4.size
 have hw4:w2.heap.size<w4.heap.size:=by simp at s4;omega
 have o5:=aj.setCell w4 ⟨tb,0,none⟩ v2
 have hs:=FM h
 have hz:=LX h
 obtain ⟨v,hT⟩:=h
 have hg:=g1.trans (g2.trans (((ae.rf w2).alloc (.cells #[v1] T)).trans g4))
 have hc4:w4.cell? ⟨tb,0,none⟩=some v:=(hg.cells.1 _ _ dR).trans hT.cell
 have ZM:w4.frozen? ⟨tb,0,none⟩=false:=(hg.cells.2 _ _ dR).trans hT.fz
 have b1:∀g,v1.ownBlock=some g->w1.heap.size<=g/\g<w2.heap.size:=fun g hg=>r1.lt g hg
 have b2:∀g,v2.ownBlock=some g->(w2.alloc (.cells #[v1] T)).heap.size<=g/\g<w4.heap.size:=fun g hg=>r2.lt g hg
 have m1:=LZ (w:=w4.setCell ⟨tb,0,none⟩ v2) (tb:=tb) (B:=(w2.alloc (.cells #[v1] T)).heap.size) (v:=v2) (xs:=xs.take n) (by simp [World.cell?_setCell_same,hc4]) (by rw [World.frozen?_setCell];exact ZM)
  (A6 r2 o5 (fun b hb e=>by have:=(b2 b hb).1;simp at this e;omega)) (.inl (by simp;omega)) (Pl.TY hs n) (fun c hc=>hz c (zX6 hc))
 have hcB:w4.cell? ⟨w2.heap.size,0,none⟩=some v1:=by rw [g4.cells.1 _ _ (by simp)];simp [go_sem]
 have ZN:w4.frozen? ⟨w2.heap.size,0,none⟩=false:=by rw [g4.cells.2 _ _ (by simp)];simp [go_sem]
 have m2:=LZ (w:=w4.setCell ⟨tb,0,none⟩ v2) (tb:=w2.heap.size) (B:=w1.heap.size) (v:=v1) (xs:=xs.drop n)
  ((o5.cell hw4 (by simp;omega) 0).trans hcB) ((o5.frozen hw4 (by simp;omega) 0).trans ZN)
  (A6 (gI (((ae.rf w2).alloc (.cells #[v1] T)).trans g4) r1) o5 (fun b hb e=>by have:=(b1 b hb).1;simp at e;omega)) (.inr fun g hg=>by have:=(b1 g hg).2;omega) (Pl.TZ hs n) (fun c hc=>hz c (zX7 hc))
 refine ⟨(hg.only F).then (o5.mono fun j hj=> .inl (by subst hj;exact hT.bg)),_,_,m1,m2,?_,?_⟩
 · rintro j (rfl | ⟨_,hj⟩)
   · exact .inl hT.bg
   · simp at hj;exact .inr (by omega)
 · rintro j hj
   have hlo:w1.heap.size<=j/\j<=w2.heap.size:=by
    rcases hj with rfl | ⟨hj,FN⟩
    · omega
    · have:=(b1 j hj).2;omega
   refine ⟨by omega,?_⟩
   rintro (rfl | ⟨hj3,ZP⟩)
   · omega
   · simp at ZP;omega
theorem zE (c:Pr) (cb:Nat) (key:ByteArray) (w:World) (hc:w.cell? ⟨cb,0,none⟩=some (.string key)) (hs:c.key.size<=70368744177664) (hy:key.size<=70368744177664):
    Calls Tryz.prog 176 #[c.cD,.pointer (some ⟨cb,0,none⟩)] w fun e w'=>e=.returned (.bool (decide (0<=Pl.bE c.key key)))/\ae w w':=by
 have HC:=af (fun W=>GQ c.key key W hs hy)
 generalize Pl.bE c.key key=r at *
 obtain ⟨k,v,n⟩:=c
 unfold Pr.cD Pr.vals
 dsimp only at *
 have hb:cb<w.heap.size:=aN hc
 go_in
 go_wp2_with fail
 refine (HC.out _).mono ?_
 rintro e w1 ⟨rfl,hg⟩
 go_wp2_with fail
 go_ret
 exact ⟨bt (by simp),((ae.rf w).alloc _).trans hg⟩
theorem vF {w:World} {F:Nat->Prop} {tb:Nat} {xs:List Pr} (h:bo w F tb xs) (hx:xs.length<=1000000) (key:ByteArray) (hy:key.size<=70368744177664):
    Calls Tryz.prog 149 #[.pointer (some ⟨tb,0,none⟩),.string key] w fun e w'=>∃ob,e=.returned (.pointer (some ⟨ob,0,none⟩))/\zD w F tb (xs.take (Pl.bh xs key)) (xs.drop (Pl.bh xs key)) ob w':=by
 have HT:=af h
 obtain ⟨vv,h⟩:=h
 obtain ⟨a,cap,rfl,hA⟩:=lJ h.row
 have c0:=h.cell
 have dR:tb<w.heap.size:=aN c0
 have hI:=fun W (g:ae w W) (hc:W.cell? ⟨w.heap.size,0,none⟩=some (.string key))=>Dp (fun c=>decide (0<=Pl.bE c.key key)) w.heap.size a cap xs W (hA.ag g) hx
  (fun j hj W' g'=>zE (ay xs j) w.heap.size key W' ((g'.cells.1 _ _ (aN hc)).trans hc) (h.sz _ (Pl.Bh xs j hj)) hy)
 have hidx:=fun hr:Pl.right key=true=>Pl.zB h.fP hr
 have zF:Pl.right key=false->Pl.bh xs key=xs.length:=fun hr=>by unfold Pl.bh;rw [zZ0 (by simp [hr])]
 have hle:=Pl.zA xs key
 generalize hi:b7 (fun c:Pr=>decide (0<=Pl.bE c.key key)) xs=i at *
 have hir:(i:Int)= -1\/∃m:Nat,i=m:=by
  rw [<-hi];unfold b7;split
  · exact .inr ⟨_,rfl⟩
  · exact .inl rfl
 clear hi
 have HI:=af hI
 have HR:=af (fun W=>pF key W (by omega))
 by_cases hr:Pl.right key=true
 · have hidx:=hidx hr
   rw [hr] at HR
   by_cases aq:Pl.bh xs key<xs.length
   · rw [zZ1 aq] at hidx
     obtain ⟨v0,hv0⟩:∃g,a=some ⟨g,0,none⟩:=by
      obtain ⟨g,cap',e,_⟩:=h.row.form (by omega:0<xs.length)
      cases e
      exact ⟨g,rfl⟩
     subst hv0
     rcases hA with h0 | ⟨b,off,hab,hb,hR⟩
     · rw [h0] at aq;simp at aq
     cases hab
     have HE:=af (fun w1 w2 w4 v1 v2 T g1 r1 g2 r2 g4=>zD.two (w1:=w1) (w2:=w2) (w4:=w4) (v1:=v1) (v2:=v2) (T:=T) (n:=Pl.bh xs key) HT.out g1 r1 g2 r2 g4)
     have H9:=af (fun W (g:ae w W)=>OQ W (some ⟨v0,Pl.bh xs key*3,none⟩) (xs.length - Pl.bh xs key) (cap - Pl.bh xs key) (xs.drop (Pl.bh xs key)) (by rw [zQ8]) (.inr ⟨v0,Pl.bh xs key*3,rfl,ltT hb g.size,by have:=(hR.ag g hb).drop (Pl.bh xs key);rwa [zK0] at this⟩) (.inr ⟨_,_,rfl⟩) (by rw [zQ8];omega))
     have fX:=af (fun W (g:ae w W)=>OQ W (some ⟨v0,0,none⟩) (Pl.bh xs key) cap (xs.take (Pl.bh xs key)) (by rw [List.length_take];omega) (.inr ⟨v0,0,rfl,ltT hb g.size,(hR.ag g hb).take _⟩) (.inr ⟨_,_,rfl⟩) (by rw [List.length_take];omega))
     have hcap:xs.length<=cap:=by
      rcases h.row.2 with ⟨e,_⟩ | ⟨b,c,cur,e1,h2,h3,h4,_⟩
      · cases e
      · cases e1;exact h4
     have f0:=h.fz
     subst hidx
     clear h hI zF hir hr hR hle
     generalize xs.drop (Pl.bh xs key)=zs at *
     generalize xs.take (Pl.bh xs key)=ys at *
     generalize Pl.bh xs key=n at *
     have Ia:(n:Int)<(xs.length:Int):=by omega
     have ZR:(n:Int)<=1000000:=by omega
     have hn0:¬((n:Int)<0):=by omega
     go_in
     go_wp2_with fail
     refine (HI.out _ ((ae.rf w).alloc _) (by simp [go_sem])).mono ?_
     rintro e w1 ⟨rfl,aA⟩
     have jr:ae w w1:=((ae.rf w).alloc _).trans aA
     have k0:w1.cell? ⟨w.heap.size,0,none⟩=some (.string key):=by rw [aA.cells.1 _ _ (by simp)];simp [go_sem]
     have hk1:w.heap.size<w1.heap.size:=by have:=aA.size;simp at this;omega
     have c1:=(jr.cells.1 _ 0 dR).trans c0
     clear aA
     go_wp2_with fail
     refine (HR.out _).mono ?_
     rintro e w2 ⟨rfl,p,rfl⟩
     have bD:ae w (w1.iter key p):=jr.iter _ _
     have c2:=(bD.cells.1 _ 0 dR).trans c0
     have HG2:=af bD
     clear c1 k0 jr bD hk1
     generalize w1.iter key p=w2 at *
     go_wp2_with fail
     refine (H9.out _ HG2.out).mono ?_
     rintro e w3 ⟨v1,d1,rfl,hr1,hg3⟩
     have Ua:=af (And.intro hr1 hg3)
     have km:=HG2.out.trans hg3
     have c3:=(km.cells.1 _ 0 dR).trans c0
     have hb3:=ltT dR km.size
     have ey:=af km
     clear hr1 hg3 km c2
     go_wp2_with fail
     refine (fX.out _ (ey.out.alloc _)).mono ?_
     rintro e w4 ⟨v2,d2,rfl,hr2,hg4⟩
     have cB:=af (HE.out _ _ _ _ _ _ HG2.out Ua.out.1 Ua.out.2 hr2 hg4)
     have OS:=(ey.out.alloc _).trans hg4
     have c4:=(OS.cells.1 _ 0 dR).trans c0
     have f4:=(OS.cells.2 _ 0 dR).trans f0
     clear hr2 hg4 OS c3
     go_wp2_with fail
     go_ret
     exact ⟨_,rfl,cB.out⟩
   · have hn:Pl.bh xs key=xs.length:=by omega
     rw [zZ0 aq] at hidx
     rw [hn,zQ2,List.drop_length]
     subst hidx
     clear h hI zF hir hr hle hn aq hA
     go_in
     go_wp2_with fail
     refine (HI.out _ ((ae.rf w).alloc _) (by simp [go_sem])).mono ?_
     rintro e w1 ⟨rfl,aA⟩
     have bI:Hid (ae w w1):=((ae.rf w).alloc _).trans aA
     clear aA
     go_wp2_with fail
     refine (LS _).mono ?_
     rintro e w2 ⟨rfl,aB,lZ⟩
     have cB:=af (zD.bare HT.out bI.out aB lZ)
     clear aB lZ
     go_wp2_with fail
     go_ret
     exact ⟨_,rfl,cB.out⟩
 · have hr':Pl.right key=false:=by simpa using hr
   rw [zF hr',zQ2,List.drop_length]
   rw [hr'] at HR
   clear hidx zF hle h hI hA hr hr'
   go_in
   go_wp2_with fail
   refine (HI.out _ ((ae.rf w).alloc _) (by simp [go_sem])).mono ?_
   rintro e w1 ⟨rfl,aA⟩
   have jr:ae w w1:=((ae.rf w).alloc _).trans aA
   have k0:w1.cell? ⟨w.heap.size,0,none⟩=some (.string key):=by rw [aA.cells.1 _ _ (by simp)];simp [go_sem]
   have hk1:w.heap.size<w1.heap.size:=by have:=aA.size;simp at this;omega
   have bI:=af jr
   clear aA jr
   rcases hir with rfl | ⟨m,rfl⟩
   · go_wp2_with fail
     refine (LS _).mono ?_
     rintro e w2 ⟨rfl,aB,lZ⟩
     have cB:=af (zD.bare HT.out bI.out aB lZ)
     clear aB lZ
     go_wp2_with fail
     go_ret
     exact ⟨_,rfl,cB.out⟩
   · have hm0:¬((m:Int)<0):=by omega
     go_wp2_with fail
     refine (HR.out _).mono ?_
     rintro e w2 ⟨rfl,p,rfl⟩
     have HG2:=af (bI.out.iter key p)
     clear k0 hk1 bI
     generalize w1.iter key p=w2 at *
     go_wp2_with fail
     refine (LS _).mono ?_
     rintro e w3 ⟨rfl,aB,lZ⟩
     have cB:=af (zD.bare HT.out HG2.out aB lZ)
     clear aB lZ
     go_wp2_with fail
     go_ret
     exact ⟨_,rfl,cB.out⟩
namespace Pl
def dG (p:Pr):Nat:=if aF p.key≠0 then aF p.key else if 64<p.val.size then 3 else if p.di<1\/4096<p.di then 1 else 0
def iK (xs:List Pr) (p:Pr):List Pr:=if dG p=0 then fG xs p else xs
theorem FO {p:Pr} (h:dG p=0):aF p.key=0/\p.val.size<=64/\1<=p.di/\p.di<=4096:=by
 unfold dG at h
 by_cases h1:aF p.key=0
 · rw [zZ0 (by simp [h1])] at h
   by_cases h2:64<p.val.size
   · rw [zZ1 h2] at h;cases h
   · rw [zZ0 h2] at h
     by_cases h3:p.di<1\/4096<p.di
     · rw [zZ1 h3] at h;cases h
     · exact ⟨h1,by omega,by omega,by omega⟩
 · rw [zZ1 h1] at h;exact absurd h h1
end Pl
def nj (w:World) (F:Nat->Prop) (tb:Nat) (ys:List Pr) (w':World):Prop:=aj F w w'/\∃F',bo w' F' tb ys/\∀j,F' j->F j\/w.heap.size<=j
theorem nj.b9 {w w':World} {F:Nat->Prop} {tb:Nat} {xs:List Pr} (h:bo w F tb xs) (g:ae w w'):nj w F tb xs w':=⟨g.only F,F,h.ag g,fun _=> .inl⟩
theorem vG {S:Nat->Bool} (hS:lY S) (E:Nat->Addr) {w:World} (hE:aY S E w) (tb:Nat) (key val:ByteArray) (v:Int) (hy:key.size<=70368744177664) (hv:val.size<=140737488351232) (hn:Pl.dG ⟨key,val,v⟩≠0):
    Calls Tryz.prog 171 #[.pointer (some ⟨tb,0,none⟩),.string key,.string val,.int .i64 v] w fun e w'=>e=.returned (aX E (Pl.dG ⟨key,val,v⟩))/\ae w w':=by
 have HE:=af hE
 have g1:w.cell? ⟨1,0,none⟩=some (.iface 337 (.pointer (some (E 1)))):=hE.cell 1 hS.h1
 have g3:w.cell? ⟨3,0,none⟩=some (.iface 337 (.pointer (some (E 3)))):=hE.cell 3 hS.h3
 have b1:1<w.heap.size:=aN g1
 have b3:3<w.heap.size:=aN g3
 clear hE
 by_cases hkn:Pl.aF key=0
 · have HK:Hid (aX E (Pl.aF key)=.nilIface):=by unfold Hid;rw [hkn];rfl
   by_cases h64:64<val.size
   · have e1:Pl.dG ⟨key,val,v⟩=3:=by unfold Pl.dG;rw [zZ0 (by simp [hkn]),zZ1 h64]
     rw [e1]
     clear e1 hn hkn
     have vH:(64:Int)<(val.size:Int):=by omega
     go_in
     go_wp2_with fail
     refine (mZ S E hS.h2 hS.h3 hS.h6 hS.h7 key _ (by omega) HE.out).mono ?_
     rw [HK.out]
     rintro e w1 ⟨rfl,hg⟩
     obtain ⟨hc,hf⟩:=hg.cells
     go_wp2_with fail
     go_ret
     exact ⟨rfl,hg⟩
   · have vH:(val.size:Int)<=64:=by omega
     by_cases hr1:v<1
     · have e1:Pl.dG ⟨key,val,v⟩=1:=by unfold Pl.dG;rw [zZ0 (by simp [hkn]),zZ0 h64,zZ1 (.inl hr1)]
       rw [e1]
       clear e1 hn hkn
       go_in
       go_wp2_with fail
       refine (mZ S E hS.h2 hS.h3 hS.h6 hS.h7 key _ (by omega) HE.out).mono ?_
       rw [HK.out]
       rintro e w1 ⟨rfl,hg⟩
       obtain ⟨hc,hf⟩:=hg.cells
       go_wp2_with fail
       go_ret
       exact ⟨rfl,hg⟩
     · by_cases hr2:4096<v
       · have e1:Pl.dG ⟨key,val,v⟩=1:=by unfold Pl.dG;rw [zZ0 (by simp [hkn]),zZ0 h64,zZ1 (.inr hr2)]
         rw [e1]
         clear e1 hn hkn
         go_in
         go_wp2_with fail
         refine (mZ S E hS.h2 hS.h3 hS.h6 hS.h7 key _ (by omega) HE.out).mono ?_
         rw [HK.out]
         rintro e w1 ⟨rfl,hg⟩
         obtain ⟨hc,hf⟩:=hg.cells
         go_wp2_with fail
         go_ret
         exact ⟨rfl,hg⟩
       · exfalso
         apply hn
         unfold Pl.dG
         rw [zZ0 (by simp [hkn]),zZ0 h64,zZ0 (show ¬(v<1\/4096<v) by omega)]
 · have e1:Pl.dG ⟨key,val,v⟩=Pl.aF key:=by unfold Pl.dG;rw [zZ1 hkn]
   have HK:=af (show aX E (Pl.aF key)=.iface 337 (.pointer (some (E (Pl.aF key)))) from sX E _ hkn)
   rw [e1,HK.out]
   clear e1 hn
   go_in
   go_wp2_with fail
   refine (mZ S E hS.h2 hS.h3 hS.h6 hS.h7 key _ (by omega) HE.out).mono ?_
   rw [HK.out]
   rintro e w1 ⟨rfl,hg⟩
   go_wp2_with fail
   go_ret
   exact ⟨rfl,hg⟩
theorem vI {w W:World} {F:Nat->Prop} {tb g cap:Nat} {xs:List Pr} (h:tF w F tb (.slice (some ⟨g,0,none⟩) xs.length cap) xs) (gW:ae w W) (p:Pr) (hp:Pl.aF p.key=0) (hb:Pl.hasB xs p.key=true) (hs:p.key.size<=70368744177664):
    nj w F tb (Pl.fG xs p) (((W.setCell ⟨g,Pl.pos xs p.key*3,none⟩ (.string p.key)).setCell ⟨g,Pl.pos xs p.key*3+1,none⟩ (.string p.val)).setCell ⟨g,Pl.pos xs p.key*3+2,none⟩ (.int .i64 p.di)):=by
 have hW:=h.ag gW
 have hpl:=(Pl.Bi h.fP (Pl.iF hp) hb).1
 obtain ⟨r1,g1⟩:=hW.row.stored (Pl.pos xs p.key*3) (.string p.key)
 obtain ⟨r2,g2⟩:=r1.stored (Pl.pos xs p.key*3+1) (.string p.val)
 obtain ⟨r3,g3⟩:=r2.stored (Pl.pos xs p.key*3+2) (.int .i64 p.di)
 have OT:=h.aJ g rfl
 have ho:aj (fun j=>j=g) W (((W.setCell ⟨g,Pl.pos xs p.key*3,none⟩ (.string p.key)).setCell ⟨g,Pl.pos xs p.key*3+1,none⟩ (.string p.val)).setCell ⟨g,Pl.pos xs p.key*3+2,none⟩ (.int .i64 p.di)):=
  ((aj.of_grownBy (g1.trans (g2.trans g3))).mono fun j hj=> .inl (Option.some.inj hj))
 have hlen:(Pl.fG xs p).length=xs.length:=by
  unfold Pl.fG
  rw [zZ1 hb]
  simp only [zX8,List.length_take,List.length_singleton,zQ8];omega
 refine ⟨(gW.only F).then (ho.mono fun j hj=> .inl (by subst hj;exact OT.1)),F,⟨_,⟨?_,?_,?_,Pl.LJ h.fP hp,?_,h.bg,h.aJ,?_⟩⟩,fun _=> .inl⟩
 · exact (ho.cell (aN hW.cell) (fun e=>OT.2 e.symm) 0).trans hW.cell
 · exact (ho.frozen (aN hW.cell) (fun e=>OT.2 e.symm) 0).trans hW.fz
 · rw [hlen]
   have e:bM (Pl.fG xs p)=(((bM xs).set (Pl.pos xs p.key*3) (.string p.key)).set (Pl.pos xs p.key*3+1) (.string p.val)).set (Pl.pos xs p.key*3+2) (.int .i64 p.di):=by
    have hfl:(bM xs).length=xs.length*3:=uY xs
    unfold Pl.fG
    rw [zZ1 hb,jZ,jZ,uZ,Oo,Oq]
    generalize Pl.pos xs p.key=q at *
    generalize bM xs=L at *
    apply zK1
    intro j
    rw [List.getElem?_append,List.getElem?_append,List.getElem?_take,List.getElem?_drop,zK2,zK2,zK2]
    simp only [zX8,List.length_take,List.length_set,Pr.vals,List.length_cons,zK3]
    rw [zX4 (show q*3<=L.length by omega)]
    by_cases h1:j<q*3
    · rw [zZ1 (by omega),zZ1 h1,zZ1 h1,zZ0 (by omega),zZ0 (by omega),zZ0 (by omega)]
    · by_cases h2:j=q*3
      · subst h2;rw [zZ1 (by omega),zZ0 h1,zZ0 (by omega),zZ0 (by omega),zZ1 rfl];simp;omega
      · by_cases h3:j=q*3+1
        · subst h3;rw [zZ1 (by omega),zZ0 h1,zZ0 (by omega),zZ1 rfl];simp;omega
        · by_cases h4:j=q*3+2
          · subst h4;rw [zZ1 (by omega),zZ0 h1,zZ1 rfl];simp;omega
          · rw [zZ0 (by omega),zZ0 (by omega),zZ0 (by omega),zZ0 (by omega)]
            congr 1;omega
   rw [e]
   exact r3
 · intro c hc
   rcases (Pl.Hm h.fP hp c).1 hc with rfl | hc
   · exact hs
   · exact h.sz c hc.1
 · intro j hj
   exact ltT (hW.lt j hj) ho.size
theorem ZT {S:Nat->Bool} (hS:lY S) (E:Nat->Addr) {w:World} (hE:aY S E w) {F:Nat->Prop} {tb:Nat} {xs:List Pr} (h:bo w F tb xs) (hx:xs.length<=1000000) (key val:ByteArray) (v:Int) (hy:key.size<=70368744177664) (hv:val.size<=140737488351232) (hn:Pl.dG ⟨key,val,v⟩=0) (hb:Pl.hasB xs key=true):
    Calls Tryz.prog 171 #[.pointer (some ⟨tb,0,none⟩),.string key,.string val,.int .i64 v] w fun e w'=>e=.returned .nilIface/\nj w F tb (Pl.fG xs ⟨key,val,v⟩) w':=by
 have HE:=af hE
 have HT:=af h
 obtain ⟨vv,h⟩:=h
 obtain ⟨hkn,h64,hr1,hr2⟩:=Pl.FO hn
 dsimp only at hkn h64 hr1 hr2
 have HK:Hid (aX E (Pl.aF key)=.nilIface):=by unfold Hid;rw [hkn];rfl
 have hp:=(Pl.Bi h.fP (Pl.iF hkn) hb).1
 obtain ⟨g,cap,rfl,_,aq⟩:=h.row.form (by omega:0<xs.length)
 have HF:=af (fun W (g:ae w W)=>OO (HT.out.ag g) hx key hy (Pl.iF hkn))
 have HO:=af (fun W (gW:ae w W)=>vI h gW ⟨key,val,v⟩ hkn hb hy)
 dsimp only at HO
 have c0:=h.cell
 have dR:tb<w.heap.size:=aN c0
 have hne:g≠tb:=(h.aJ g rfl).2
 have q0:=h.row.cellAt (Pl.pos xs key*3+0) (by omega)
 have q1:=h.row.cellAt (Pl.pos xs key*3+1) (by omega)
 have q2:=h.row.cellAt (Pl.pos xs key*3+2) (by omega)
 rw [Da _ (by omega) xs _ hp] at q0 q1 q2
 have f0:=h.row.frozenAt (Pl.pos xs key*3)
 have f1:=h.row.frozenAt (Pl.pos xs key*3+1)
 have f2:=h.row.frozenAt (Pl.pos xs key*3+2)
 rw [hb] at HF
 have vH:(val.size:Int)<=64:=by omega
 clear hE h hn hb hkn
 generalize Pl.pos xs key=p at *
 generalize ay xs p=c at *
 obtain ⟨ck,cv,cn⟩:=c
 simp only [Pr.vals,zX3,zK4,zK5] at q0 q1 q2
 have ZF:(p:Int)<(xs.length:Int):=by omega
 go_in
 go_wp2_with fail
 refine (mZ S E hS.h2 hS.h3 hS.h6 hS.h7 key _ (by omega) HE.out).mono ?_
 rw [HK.out]
 rintro e w1 ⟨rfl,aA⟩
 go_wp2_with fail
 refine (HF.out _ (aA.alloc _)).mono ?_
 rintro e w2 ⟨rfl,aB⟩
 have bD:ae w w2:=(aA.alloc _).trans aB
 have s1:=aA.size
 have s2:=aB.size
 have k0:w2.cell? ⟨w1.heap.size,0,none⟩=some (.string key):=by rw [aB.cells.1 _ _ (by simp)];simp [go_sem]
 have k1:w2.cell? ⟨w1.heap.size,1,none⟩=some (.string val):=by rw [aB.cells.1 _ _ (by simp)];simp [go_sem]
 have k2:w2.cell? ⟨w1.heap.size,2,none⟩=some (.int .i64 v):=by rw [aB.cells.1 _ _ (by simp)];simp [go_sem]
 have c0':=(bD.cells.1 tb 0 dR).trans c0
 have q0':=(bD.cells.1 g (p*3) aq).trans q0
 have q1':=(bD.cells.1 g (p*3+1) aq).trans q1
 have q2':=(bD.cells.1 g (p*3+2) aq).trans q2
 have Ib:=(bD.cells.2 g (p*3) aq).trans f0
 have f1':=(bD.cells.2 g (p*3+1) aq).trans f1
 have f2':=(bD.cells.2 g (p*3+2) aq).trans f2
 clear c0 q0 q1 q2 f0 f1 f2 aA aB
 go_wp2_with fail
 go_region
 all_goals (
  go_wp2_with fail
  go_ret
  exact ⟨rfl,HO.out _ bD.drew⟩)
theorem zG {w W W2:World} {F:Nat->Prop} {tb:Nat} {v r:Value} {xs:List Pr} (h:tF w F tb v xs) (gW:ae w W) (p:Pr) (hp:Pl.aF p.key=0) (hb:Pl.hasB xs p.key=false) (hs:p.key.size<=70368744177664)
    (hI:Cx W W2 v r 0 (xs.length+1) ((bM xs).take (Pl.pos xs p.key*3)++p.vals++(bM xs).drop (Pl.pos xs p.key*3))):
    nj w F tb (Pl.fG xs p) (W2.setCell ⟨tb,0,none⟩ r):=by
 obtain ⟨⟨g,cap,rfl,hg⟩,aI,hgr⟩:=hI
 have hpl:=Pl.Hl xs p.key
 have hlen:(Pl.fG xs p).length=xs.length+1:=by
  unfold Pl.fG
  rw [hb]
  simp;omega
 have Ub:F g/\g≠tb\/w.heap.size<=g:=by
  rcases hg with hg | hg
  · exact .inl (h.aJ g hg)
  · exact .inr (zQ0 gW.size hg)
 have dR:tb<w.heap.size:=aN h.cell
 have Ic:g≠tb:=by rcases Ub with h | h;exact h.2;omega
 have o1:aj (fun j=>some j=v.ownBlock) w W2:=(gW.only _).then (aj.of_grownBy hgr)
 have OU:tb<W2.heap.size:=ltT dR o1.size
 have hc2:W2.cell? ⟨tb,0,none⟩=some v:=(o1.cell dR (fun e=>(h.aJ tb e.symm).2 rfl) 0).trans h.cell
 have hf2:W2.frozen? ⟨tb,0,none⟩=false:=(o1.frozen dR (fun e=>(h.aJ tb e.symm).2 rfl) 0).trans h.fz
 have o2:=aj.setCell W2 ⟨tb,0,none⟩ (.slice (some ⟨g,0,none⟩) (xs.length+1) cap)
 have aB:g<W2.heap.size:=by
  rcases aI.2 with ⟨e,_⟩ | ⟨b,c,cur,e,_,hh,_⟩
  · cases e
  · cases e;exact (zZ2.1 hh).1
 refine ⟨(o1.mono fun j hj=> .inl (h.aJ j hj.symm).1).then (o2.mono fun j hj=> .inl (by subst hj;exact h.bg)),fun j=>F j\/j=g,⟨.slice (some ⟨g,0,none⟩) (xs.length+1) cap,⟨?_,?_,?_,Pl.LJ h.fP hp,?_,.inl h.bg,?_,?_⟩⟩,?_⟩
 · simp [World.cell?_setCell_same,hc2]
 · rw [World.frozen?_setCell];exact hf2
 · rw [hlen]
   have e:bM (Pl.fG xs p)=(bM xs).take (Pl.pos xs p.key*3)++p.vals++(bM xs).drop (Pl.pos xs p.key*3):=by
    unfold Pl.fG
    rw [hb,jZ,jZ,uZ,Oo,Oq];rfl
   rw [e]
   refine ⟨aI.1,?_⟩
   rcases aI.2 with h2 | ⟨b,c,cur,e1,h2,h3,h4⟩
   · exact .inl h2
   · exact .inr ⟨b,c,cur,e1,h2,(o2.block b (zZ2.1 h3).1 (by cases e1;exact Ic)).trans h3,h4⟩
 · intro c hc
   rcases (Pl.Hm h.fP hp c).1 hc with rfl | hc
   · exact hs
   · exact h.sz c hc.1
 · intro b hb'
   cases hb'
   exact ⟨.inr rfl,Ic⟩
 · intro j hj
   rcases hj with hj | rfl
   · exact ltT (h.lt j hj) (zQ0 o1.size o2.size)
   · exact ltT aB o2.size
 · intro j hj
   rcases hj with hj | rfl
   · exact .inl hj
   · rcases Ub with h | h
     · exact .inl h.1
     · exact .inr h
theorem vJ {S:Nat->Bool} (hS:lY S) (E:Nat->Addr) {w:World} (hE:aY S E w) {F:Nat->Prop} {tb:Nat} {xs:List Pr} (h:bo w F tb xs) (hx:xs.length<=1000000) (key val:ByteArray) (v:Int) (hy:key.size<=70368744177664) (hv:val.size<=140737488351232) (hn:Pl.dG ⟨key,val,v⟩=0) (hb:Pl.hasB xs key=false):
    Calls Tryz.prog 171 #[.pointer (some ⟨tb,0,none⟩),.string key,.string val,.int .i64 v] w fun e w'=>e=.returned .nilIface/\nj w F tb (Pl.fG xs ⟨key,val,v⟩) w':=by
 have HE:=af hE
 have HT:=af h
 obtain ⟨vv,h⟩:=h
 obtain ⟨hkn,h64,hr1,hr2⟩:=Pl.FO hn
 dsimp only at hkn h64 hr1 hr2
 have HK:Hid (aX E (Pl.aF key)=.nilIface):=by unfold Hid;rw [hkn];rfl
 obtain ⟨a,cap,rfl,_⟩:=lJ h.row
 have HF:=af (fun W (g:ae w W)=>OO (HT.out.ag g) hx key hy (Pl.iF hkn))
 have HO:=af (fun W W2 r (gW:ae w W)=>zG (W2:=W2) (r:=r) h gW ⟨key,val,v⟩ hkn hb hy)
 have vK:∀g,Value.ownBlock (.slice a xs.length cap)=some g->g<w.heap.size/\g≠tb:=fun g hg=>⟨h.lt g (h.aJ g hg).1,(h.aJ g hg).2⟩
 have yB:=af vK
 have HI:=af (fun W (gW:ae w W) vb hvb hne=>yZ W 0 a xs.length cap (bM xs) (h.ag gW).row (Nat.zero_le _) (Hk xs) (Pl.pos xs key) (Pl.Hl xs key) vb (Pr.vals ⟨key,val,v⟩) 1 hvb rfl (by intro u hu;simp [Pr.vals] at hu;rcases hu with rfl | rfl | rfl<;> rfl) hx hne)
 have c0:=h.cell
 have f0:=h.fz
 have dR:tb<w.heap.size:=aN c0
 rw [hb] at HF
 have vH:(val.size:Int)<=64:=by omega
 clear hE h hn hb hkn vK
 dsimp only at HO
 generalize Pl.pos xs key=p at *
 go_in
 go_wp2_with fail
 refine (mZ S E hS.h2 hS.h3 hS.h6 hS.h7 key _ (by omega) HE.out).mono ?_
 rw [HK.out]
 rintro e w1 ⟨rfl,aA⟩
 go_wp2_with fail
 refine (HF.out _ (aA.alloc _)).mono ?_
 rintro e w2 ⟨rfl,aB⟩
 have bD:ae w w2:=(aA.alloc _).trans aB
 have s1:=aA.size
 have s2:=aB.size
 have k0:w2.cell? ⟨w1.heap.size,0,none⟩=some (.string key):=by rw [aB.cells.1 _ _ (by simp)];simp [go_sem]
 have k1:w2.cell? ⟨w1.heap.size,1,none⟩=some (.string val):=by rw [aB.cells.1 _ _ (by simp)];simp [go_sem]
 have k2:w2.cell? ⟨w1.heap.size,2,none⟩=some (.int .i64 v):=by rw [aB.cells.1 _ _ (by simp)];simp [go_sem]
 have c0':=(bD.cells.1 tb 0 dR).trans c0
 have Ib:=(bD.cells.2 tb 0 dR).trans f0
 have hz1:w1.heap.size<w2.heap.size:=by have:=aB.size;simp at this;omega
 have hz2:tb<w2.heap.size:=by omega
 clear c0 f0 aA aB
 go_wp2_with fail
 have Dq:=HI.out ((w2.alloc (.cells #[.string key,.string val,.int .i64 v] 80)).drew) (bD.alloc _).drew w2.heap.size (heap_alloc_new w2 _) (fun e=>Nat.ne_of_lt (ltT (yB.out _ e).1 bD.size) rfl)
 have ZU:=af Dq
 clear Dq
 go_region_with ((go_at_call 191
                  refine ZU.out.mono ?_
                  rintro e w3 ⟨r,rfl,kS⟩
                  have o3:aj (fun j=>some j=Value.ownBlock (.slice a xs.length cap)) w2 w3:=((((ae.rf w2).drew).alloc _).only _).then (aj.of_grownBy kS.grown)
                  have n1:¬some tb=Value.ownBlock (.slice a xs.length cap):=fun e=>(yB.out tb e.symm).2 rfl
                  have d1:=(o3.cell hz2 n1 0).trans c0'
                  have d2:=(o3.frozen hz2 n1 0).trans Ib
                  have OV:=af kS
                  obtain ⟨⟨g3,ZV,rfl,_⟩,_,_⟩:=kS
                  clear o3 n1))
 all_goals (
  go_wp2_with fail
  go_ret
  exact ⟨rfl,HO.out _ _ _ (bD.alloc _).drew OV.out⟩)
theorem vM {S:Nat->Bool} (hS:lY S) (E:Nat->Addr) {w:World} (hE:aY S E w) {F:Nat->Prop} {tb:Nat} {xs:List Pr} (h:bo w F tb xs) (hx:xs.length<=1000000) (key val:ByteArray) (v:Int) (hy:key.size<=70368744177664) (hv:val.size<=140737488351232):
    Calls Tryz.prog 171 #[.pointer (some ⟨tb,0,none⟩),.string key,.string val,.int .i64 v] w fun e w'=>e=.returned (aX E (Pl.dG ⟨key,val,v⟩))/\nj w F tb (Pl.iK xs ⟨key,val,v⟩) w':=by
 by_cases hn:Pl.dG ⟨key,val,v⟩=0
 · have e:Pl.iK xs ⟨key,val,v⟩=Pl.fG xs ⟨key,val,v⟩:=by unfold Pl.iK;rw [zZ1 hn]
   rw [hn,e]
   cases hb:Pl.hasB xs key with
   | true=>exact ZT hS E hE h hx key val v hy hv hn hb
   | false=>exact vJ hS E hE h hx key val v hy hv hn hb
 · have e:Pl.iK xs ⟨key,val,v⟩=xs:=by unfold Pl.iK;rw [zZ0 hn]
   rw [e]
   exact (vG hS E hE tb key val v hy hv hn).mono fun e w' ⟨he,hg⟩=>⟨he,nj.b9 h hg⟩
theorem zM {w W W2:World} {F:Nat->Prop} {tb:Nat} {a:Option Addr} {n cap:Nat} {xs:List Pr} (h:tF w F tb (.slice a xs.length cap) xs) (gW:ae w W) (k:ByteArray) (hk:Pl.aF k=0) (hb:Pl.hasB xs k=true) (hn:xs.length=n+1)
    (aI:W2.ownsRow 0 80 3 (.slice a n cap) n ((bM xs).take (Pl.pos xs k*3)++(bM xs).drop ((Pl.pos xs k+1)*3))) (hgr:W.grownBy W2 (Value.ownBlock (.slice a (n+1) cap))):
    nj w F tb (Pl.iz xs k) (W2.setCell ⟨tb,0,none⟩ (.slice a n cap)):=by
 have hpl:=(Pl.Bi h.fP (Pl.iF hk) hb).1
 have e0:Pl.iz xs k=xs.take (Pl.pos xs k)++xs.drop (Pl.pos xs k+1):=by unfold Pl.iz;rw [zZ1 ⟨hk,hb⟩]
 have hlen:(Pl.iz xs k).length=n:=by
  rw [e0];simp only [zX8,List.length_take,zQ8];omega
 have dR:tb<w.heap.size:=aN h.cell
 have gL:Value.ownBlock (.slice a (n+1) cap)=Value.ownBlock (.slice a xs.length cap):=by cases a<;> rfl
 rw [gL] at hgr
 have Ij:Value.ownBlock (.slice a n cap)=Value.ownBlock (.slice a xs.length cap):=by cases a<;> rfl
 have o1:aj (fun j=>some j=Value.ownBlock (.slice a xs.length cap)) w W2:=(gW.only _).then (aj.of_grownBy hgr)
 have OU:tb<W2.heap.size:=ltT dR o1.size
 have hc2:W2.cell? ⟨tb,0,none⟩=some (.slice a xs.length cap):=(o1.cell dR (fun e=>(h.aJ tb e.symm).2 rfl) 0).trans h.cell
 have hf2:W2.frozen? ⟨tb,0,none⟩=false:=(o1.frozen dR (fun e=>(h.aJ tb e.symm).2 rfl) 0).trans h.fz
 have o2:=aj.setCell W2 ⟨tb,0,none⟩ (.slice a n cap)
 refine ⟨(o1.mono fun j hj=> .inl (h.aJ j hj.symm).1).then (o2.mono fun j hj=> .inl (by subst hj;exact h.bg)),F,⟨.slice a n cap,⟨?_,?_,?_,Pl.Oz h.fP k,?_,h.bg,?_,?_⟩⟩,fun j=> .inl⟩
 · simp [World.cell?_setCell_same,hc2]
 · rw [World.frozen?_setCell];exact hf2
 · rw [hlen]
   have e:bM (Pl.iz xs k)=(bM xs).take (Pl.pos xs k*3)++(bM xs).drop ((Pl.pos xs k+1)*3):=by rw [e0,jZ,Oo,Oq]
   rw [e]
   refine ⟨aI.1,?_⟩
   rcases aI.2 with h2 | ⟨b,c,cur,e1,h2,h3,h4⟩
   · exact .inl h2
   · refine .inr ⟨b,c,cur,e1,h2,(o2.block b (zZ2.1 h3).1 ?_).trans h3,h4⟩
     have:Value.ownBlock (.slice a xs.length cap)=some b:=by rw [<-Ij,e1];rfl
     exact (h.aJ b this).2
 · intro c hc
   exact h.sz c ((Pl.LK h.fP k c).1 hc).1
 · intro g hg
   rw [Ij] at hg
   exact h.aJ g hg
 · intro j hj
   exact ltT (h.lt j hj) (zQ0 o1.size o2.size)
theorem vN {S:Nat->Bool} (hS:lY S) (E:Nat->Addr) {w:World} (hE:aY S E w) {F:Nat->Prop} {tb:Nat} {xs:List Pr} (h:bo w F tb xs) (hx:xs.length<=1000000) (key:ByteArray) (hy:key.size<=70368744177664):
    Calls Tryz.prog 170 #[.pointer (some ⟨tb,0,none⟩),.string key] w fun e w'=>e=.returned (.bool (Pl.dJ xs key).isSome)/\nj w F tb (Pl.iz xs key) w':=by
 have HE:=af hE
 have HT:=af h
 clear hE h
 by_cases hh:Pl.aF key=0/\Pl.hasB xs key=true
 · have hg:(Pl.dJ xs key).isSome=true:=by unfold Pl.dJ;rw [zZ1 hh];rfl
   have ha:Pl.rW xs key=((Pl.pos xs key:Nat):Int):=by unfold Pl.rW;rw [zZ1 hh]
   have hR:=af (fun W (g:ae w W)=>LU hS E (HE.out.ag g) (HT.out.ag g) hx key hy)
   obtain ⟨vv,h⟩:=HT.out
   have hp:=(Pl.Bi h.fP (Pl.iF hh.1) hh.2).1
   obtain ⟨a,cap,rfl,_⟩:=lJ h.row
   obtain ⟨n,hn⟩:∃n,xs.length=n+1:=⟨xs.length - 1,by omega⟩
   have HO:=af (fun W W2 (gW:ae w W) aI hgr=>zM (W2:=W2) h gW key hh.1 hh.2 hn aI hgr)
   have vK:∀g,Value.ownBlock (.slice a (n+1) cap)=some g->g<w.heap.size/\g≠tb:=fun g hg=>by
    have e:Value.ownBlock (.slice a xs.length cap)=some g:=by rw [<-hg];cases a<;> rfl
    exact ⟨h.lt g (h.aJ g e).1,(h.aJ g e).2⟩
   have yB:=af vK
   have vO:=fun W (gW:ae w W)=>(h.ag gW).row
   have c0:=h.cell
   have f0:=h.fz
   rw [hn] at vO c0
   have HD:=af (fun W (gW:ae w W)=>zL W 0 n (Pl.pos xs key) a cap (bM xs) (vO W gW) (Hk xs) (by omega) (by omega))
   have dR:tb<w.heap.size:=aN c0
   rw [hg]
   rw [ha] at hR
   clear hg ha hh vK vO h hn
   have hpB:Pl.pos xs key<=1000000:=by omega
   generalize Pl.pos xs key=p at *
   have z1:¬((p:Int)<0):=by omega
   have z2:IntKind.i64.wrap ((p:Int)+1)=(p:Int)+1:=IntWalk.i64_in _ (by omega)
   go_in
   go_wp2_with fail
   refine (hR.out _ (ae.rf w)).mono ?_
   rintro e w1 ⟨rfl,aA⟩
   have s1:=aA.size
   have c0':=(aA.cells.1 tb 0 dR).trans c0
   have Ib:=(aA.cells.2 tb 0 dR).trans f0
   clear c0 f0
   go_wp2_with fail
   refine (HD.out _ aA).mono ?_
   rintro e w2 ⟨rfl,aI,hgr⟩
   have fD:=af aI
   have GU:=af hgr
   have n1:¬some tb=Value.ownBlock (.slice a (n+1) cap):=fun e=>(yB.out tb e.symm).2 rfl
   have d1:=((aj.of_grownBy hgr).cell (show tb<w1.heap.size by omega) n1 0).trans c0'
   have d2:=((aj.of_grownBy hgr).frozen (show tb<w1.heap.size by omega) n1 0).trans Ib
   clear aI hgr n1 c0' Ib
   go_wp2_with fail
   go_ret
   exact ⟨rfl,HO.out _ _ aA fD.out GU.out⟩
 · have hg:(Pl.dJ xs key).isSome=false:=by unfold Pl.dJ;rw [zZ0 hh];rfl
   have ha:Pl.rW xs key= -1:=by unfold Pl.rW;rw [zZ0 hh]
   have hd:Pl.iz xs key=xs:=by unfold Pl.iz;rw [zZ0 hh]
   have hR:=af (fun W (g:ae w W)=>LU hS E (HE.out.ag g) (HT.out.ag g) hx key hy)
   rw [hg,hd]
   rw [ha] at hR
   clear hg ha hh hd
   go_in
   go_wp2_with fail
   refine (hR.out _ (ae.rf w)).mono ?_
   rintro e w1 ⟨rfl,aA⟩
   go_wp2_with fail
   go_ret
   exact ⟨rfl,nj.b9 HT.out aA⟩
theorem z4x {w:World} {F:Nat->Prop} {tb:Nat} {xs:List Pr} (h:bo w F tb xs) (hx:xs.length<=1000000):
    Calls Tryz.prog 85 #[.pointer (some ⟨tb,0,none⟩)] w fun e w'=>(∃cb Fc,e=.returned (.pointer (some ⟨cb,0,none⟩))/\bo w' Fc cb xs/\∀j,Fc j->w.heap.size<=j)/\ae w w':=by
 have HS:=af (FM h)
 have HZ:=af (LX h)
 obtain ⟨v,h⟩:=h
 obtain ⟨a,cap,rfl,hA⟩:=lJ h.row
 have c0:=h.cell
 have dR:=aN c0
 have O3:=af (OQ w a xs.length cap xs rfl hA (FE h.row) hx)
 clear h hA
 go_in
 go_wp2_with fail
 refine O3.out.mono ?_
 rintro e w1 ⟨a',c',rfl,aI,hg⟩
 have HF:Hid ((∃Fc,bo (w1.alloc (.cells #[.slice a' xs.length c'] 196)) Fc w1.heap.size xs/\∀j,Fc j->w.heap.size<=j)/\ae w (w1.alloc (.cells #[.slice a' xs.length c'] 196))):=by
  have hG:ae w1 (w1.alloc (.cells #[.slice a' xs.length c'] 196)):=(ae.rf w1).alloc _
  refine ⟨⟨_,LZ (by simp [go_sem]) (by simp [go_sem]) (gI hG aI) (.inr fun g hg'=>?_) HS.out HZ.out,fun j hj=>?_⟩,hg.trans hG⟩
  · have:=(aI.lt g hg').2;omega
  · rcases hj with rfl | ⟨_,hj⟩
    · exact hg.size
    · exact hj
 clear aI
 go_wp2_with fail
 go_ret
 obtain ⟨⟨Fc,h1,h2⟩,h3⟩:=HF.out
 exact ⟨⟨_,Fc,rfl,h1,h2⟩,h3⟩
theorem nj.pre {w W w':World} {F:Nat->Prop} {tb:Nat} {ys:List Pr} (h:nj W F tb ys w') (g:ae w W):nj w F tb ys w':=by
 obtain ⟨h1,F',h2,h3⟩:=h
 exact ⟨(g.only F).then h1,F',h2,fun j hj=>(h3 j hj).imp id fun h=>zQ0 g.size h⟩
namespace Pl
def bK (P:List Pr) (o:bC) (v:Int):List Pr×Bool:=
 if o.kind=2 then (iz P o.key,true)
 else if o.kind=3/\((dJ P o.key).isSome=false\/((dJ P o.key).getD Pr.none).val.toList≠o.old.toList) then (P,false)
 else if o.kind=4 then (P,decide (((dJ P o.key).getD Pr.none).di=o.di))
 else (iK P ⟨o.key,o.val,v⟩,decide (dG ⟨o.key,o.val,v⟩=0))
end Pl
structure O6 (o:bC):Prop where
 key:o.key.size<=70368744177664
 val:o.val.size<=140737488351232
theorem vT {S:Nat->Bool} (hS:lY S) (E:Nat->Addr) {w:World} (hE:aY S E w) {F:Nat->Prop} {tb:Nat} {P:List Pr} (h:bo w F tb P) (hx:P.length<=1000000) (o:bC) (ho:O6 o) (v:Int) (hv: -9223372036854775808<=v/\v<9223372036854775808):
    Calls Tryz.prog 142 #[.pointer (some ⟨tb,0,none⟩),o.cD,.int .i64 v] w fun e w'=>e=.returned (.bool (Pl.bK P o v).2)/\nj w F tb (Pl.bK P o v).1 w':=by
 have HG:=af (fun W (g:ae w W)=>TU hS E (hE.ag g) (h.ag g) hx o.key ho.key)
 have HD:=af (fun W (g:ae w W)=>vN hS E (hE.ag g) (h.ag g) hx o.key ho.key)
 have HP:=af (fun W (g:ae w W)=>vM hS E (hE.ag g) (h.ag g) hx o.key o.val v ho.key ho.val)
 have HT:=af h
 clear h hE ho
 generalize hR:Pl.bK P o v=R at *
 unfold Pl.bK at hR
 unfold bC.cD bC.vals
 obtain ⟨kind,key,val,old,di⟩:=o
 dsimp only at *
 generalize hg:Pl.dJ P key=r at *
 clear hg
 obtain ⟨Y,hY⟩:∃Y,Y=w.alloc (.cells #[.int .i64 kind,.string key,.string val,.string old,.int .i64 di] 88):=⟨_,rfl⟩
 have gY:ae w Y:=by rw [hY];exact (ae.rf w).alloc _
 have lG:w.heap.size<Y.heap.size:=by rw [hY];simp
 have c0:Y.cell? ⟨w.heap.size,0,none⟩=some (.int .i64 kind):=by rw [hY];simp [go_sem]
 have c1:Y.cell? ⟨w.heap.size,1,none⟩=some (.string key):=by rw [hY];simp [go_sem]
 have c2:Y.cell? ⟨w.heap.size,2,none⟩=some (.string val):=by rw [hY];simp [go_sem]
 have c3:Y.cell? ⟨w.heap.size,3,none⟩=some (.string old):=by rw [hY];simp [go_sem]
 have c4:Y.cell? ⟨w.heap.size,4,none⟩=some (.int .i64 di):=by rw [hY];simp [go_sem]
 have HY:=af hY
 have cR:=af gY
 clear hY gY
 go_in
 go_wp2_with fail
 rw [<-HY.out]
 refine (HG.out Y cR.out).mono ?_
 rintro e w1 ⟨rfl,aA⟩
 have d0:=(aA.cells.1 _ 0 lG).trans c0
 have d1:=(aA.cells.1 _ 1 lG).trans c1
 have d2:=(aA.cells.1 _ 2 lG).trans c2
 have d3:=(aA.cells.1 _ 3 lG).trans c3
 have d4:=(aA.cells.1 _ 4 lG).trans c4
 have hb1:=ltT lG aA.size
 have bI:=af (cR.out.trans aA)
 clear HG aA c0 c1 c2 c3 c4 lG
 obtain ⟨is,O7⟩:∃is,is=r.isSome:=⟨_,rfl⟩
 obtain ⟨p,hp⟩:∃p,p=r.getD Pr.none:=⟨_,rfl⟩
 rw [<-O7,<-hp]
 rw [<-O7,<-hp] at hR
 clear hp
 clear O7
 obtain ⟨pk,pv,pn⟩:=p
 dsimp only [Pr.agg,Pr.vals] at hR ⊢
 have HR:=af hR
 clear hR
 obtain ⟨Z,hZ⟩:∃Z,Z=w1.alloc (.cells #[.string pk,.string pv,.int .i64 pn] 80):=⟨_,rfl⟩
 have HZ:=af hZ
 have gZ:ae w1 Z:=by rw [hZ];exact (ae.rf w1).alloc _
 have e0:=(gZ.cells.1 _ 0 hb1).trans d0
 have e1:=(gZ.cells.1 _ 1 hb1).trans d1
 have e2:=(gZ.cells.1 _ 2 hb1).trans d2
 have e3:=(gZ.cells.1 _ 3 hb1).trans d3
 have e4:=(gZ.cells.1 _ 4 hb1).trans d4
 have z1:Z.cell? ⟨w1.heap.size,1,none⟩=some (.string pv):=by rw [hZ];simp [go_sem]
 have z2:Z.cell? ⟨w1.heap.size,2,none⟩=some (.int .i64 pn):=by rw [hZ];simp [go_sem]
 have gq:=af (bI.out.trans gZ)
 clear hZ gZ
 have tH:=af (nj.b9 HT.out gq.out)
 clear HT bI
 by_cases k2:kind=2
 · subst k2
   have hR:=HR.out
   rw [zZ1 rfl] at hR
   subst hR
   clear HR
   go_wp2_with fail
   rw [<-HZ.out]
   refine (HD.out Z gq.out).mono ?_
   rintro e w2 ⟨rfl,ht⟩
   have HX:=af (ht.pre gq.out)
   clear ht e0 e1 e2 e3 e4 z1 z2
   go_wp2_with fail
   go_ret
   exact ⟨rfl,HX.out⟩
 · by_cases k3:kind=3
   · subst k3
     cases is with
     | false=>
      have hR:=HR.out
      rw [zZ0 (by decide),zZ1 ⟨rfl,.inl rfl⟩] at hR
      subst hR
      clear HR
      go_wp2_with fail
      rw [<-HZ.out]
      clear e0 e1 e2 e3 e4 z1 z2
      go_wp2_with fail
      go_ret
      exact ⟨rfl,tH.out⟩
     | true=>
      by_cases kv:pv.toList=old.toList
      · have hR:=HR.out
        rw [zZ0 (by decide),zZ0 (by rintro ⟨_,h | h⟩;(· cases h);exact h kv),zZ0 (by decide)] at hR
        have hq:(pv.toList==old.toList)=true:=by simpa using kv
        subst hR
        clear HR kv
        go_wp2_with fail
        rw [<-HZ.out]
        refine (HP.out Z gq.out).mono ?_
        rintro e w2 ⟨rfl,ht⟩
        have HX:=af (ht.pre gq.out)
        clear ht e0 e1 e2 e3 e4 z1 z2 d0 d1 d2 d3 d4
        cases rX:decide (Pl.dG ⟨key,val,v⟩=0) with
        | true=>
         rw [of_decide_eq_true rX,ue]
         have DC:=af rX
         clear rX
         go_wp2_with fail
         go_ret
         exact ⟨bt DC.out.symm,HX.out⟩
        | false=>
         rw [sX E _ (of_decide_eq_false rX)]
         have DC:=af rX
         clear rX
         go_wp2_with fail
         go_ret
         exact ⟨bt DC.out.symm,HX.out⟩
      · have hR:=HR.out
        rw [zZ0 (by decide),zZ1 ⟨rfl,.inr kv⟩] at hR
        have hq:(pv.toList==old.toList)=false:=by simpa using kv
        subst hR
        clear HR kv
        go_wp2_with fail
        rw [<-HZ.out]
        clear e0 e1 e2 e3 e4 z1 z2
        go_wp2_with fail
        go_ret
        exact ⟨rfl,tH.out⟩
   · by_cases k4:kind=4
     · subst k4
       have hR:=HR.out
       rw [zZ0 (by decide),zZ0 (by simp),zZ1 rfl] at hR
       subst hR
       clear HR
       go_wp2_with fail
       go_ret
       rw [<-HZ.out]
       exact ⟨rfl,tH.out⟩
     · have hR:=HR.out
       rw [zZ0 k2,zZ0 (fun h=>k3 h.1),zZ0 k4] at hR
       subst hR
       clear HR
       go_wp2_with fail
       rw [<-HZ.out]
       refine (HP.out Z gq.out).mono ?_
       rintro e w2 ⟨rfl,ht⟩
       have HX:=af (ht.pre gq.out)
       clear ht e0 e1 e2 e3 e4 z1 z2 d0 d1 d2 d3 d4
       cases rX:decide (Pl.dG ⟨key,val,v⟩=0) with
       | true=>
        rw [of_decide_eq_true rX,ue]
        have DC:=af rX
        clear rX
        go_wp2_with fail
        go_ret
        exact ⟨bt DC.out.symm,HX.out⟩
       | false=>
        rw [sX E _ (of_decide_eq_false rX)]
        have DC:=af rX
        clear rX
        go_wp2_with fail
        go_ret
        exact ⟨bt DC.out.symm,HX.out⟩
end
end Go.Proofs.YtbnofojapimfcaaGreatDoor
