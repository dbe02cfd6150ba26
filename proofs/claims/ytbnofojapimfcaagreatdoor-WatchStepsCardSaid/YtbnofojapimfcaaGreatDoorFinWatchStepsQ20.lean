/- Part 20 of the proof. -/
import Derived.Test.YtbnofojapimfcaaGreatDoorFinWatchStepsQ12
import Derived.Test.YtbnofojapimfcaaGreatDoorFinWatchStepsQ13
import Derived.Test.YtbnofojapimfcaaGreatDoorFinWatchStepsQ17
set_option linter.unusedVariables false
set_option linter.unusedSectionVars false
set_option linter.unusedSimpArgs false
set_option maxRecDepth 100000
set_option maxHeartbeats 16000000
namespace Go.Proofs.YtbnofojapimfcaaGreatDoor
section
open Go.Shelf
def Tryz.sortPair_ren:Go.Shelf.Ren:=⟨fun | 6=>178 | 15=>120 | 14=>194 | 28=>165 | 29=>166 | 20=>202 | 21=>203 | 22=>204 | 23=>205 | 24=>206 | 25=>207 | 26=>208 | 27=>209 | 46=>213 | 47=>186 | 48=>187 | 49=>214 | 50=>215 | 57=>226 | n=>n,fun | 22=>84 | 24=>80 | 25=>292 | 3=>3 | 39=>222 | 0=>0 | 53=>278 | 55=>280 | 4=>4 | 46=>272 | 45=>271 | 50=>268 | 5=>5 | 9=>9 | 66=>300 | 70=>304 | 76=>313 | 77=>314 | n=>n,fun | n=>n⟩
theorem Tryz.sortPair:Go.Proofs.SlLaysF0.n6 Tryz.prog Tryz.sortPair_ren:={
 mixed:=by kernel_rfl
 f6:=⟨Tryz.f178.name,by decide,Tryz.func178.trans (congrArg some (by kernel_rfl))⟩
 f14:=⟨Tryz.f194.name,by decide,Tryz.func194.trans (congrArg some (by kernel_rfl))⟩
 f15:=Tryz.func120.trans (congrArg some (by kernel_rfl))
 f20:=⟨Tryz.f202.name,by decide,Tryz.func202.trans (congrArg some (by kernel_rfl))⟩
 f21:=⟨Tryz.f203.name,by decide,Tryz.func203.trans (congrArg some (by kernel_rfl))⟩
 f22:=⟨Tryz.f204.name,by decide,Tryz.func204.trans (congrArg some (by kernel_rfl))⟩
 f23:=⟨Tryz.f205.name,by decide,Tryz.func205.trans (congrArg some (by kernel_rfl))⟩
 f24:=⟨Tryz.f206.name,by decide,Tryz.func206.trans (congrArg some (by kernel_rfl))⟩
 f25:=⟨Tryz.f207.name,by decide,Tryz.func207.trans (congrArg some (by kernel_rfl))⟩
 f26:=⟨Tryz.f208.name,by decide,Tryz.func208.trans (congrArg some (by kernel_rfl))⟩
 f27:=⟨Tryz.f209.name,by decide,Tryz.func209.trans (congrArg some (by kernel_rfl))⟩
 f28:=Tryz.func165.trans (congrArg some (by kernel_rfl))
 f29:=Tryz.func166.trans (congrArg some (by kernel_rfl))
 f46:=⟨Tryz.f213.name,by decide,Tryz.func213.trans (congrArg some (by kernel_rfl))⟩
 f47:=Tryz.func186.trans (congrArg some (by kernel_rfl))
 f48:=Tryz.func187.trans (congrArg some (by kernel_rfl))
 f49:=⟨Tryz.f214.name,by decide,Tryz.func214.trans (congrArg some (by kernel_rfl))⟩
 f50:=⟨Tryz.f215.name,by decide,Tryz.func215.trans (congrArg some (by kernel_rfl))⟩
 f57:=⟨Tryz.f226.name,by decide,Tryz.func226.trans (congrArg some (by kernel_rfl))⟩
 t0:=Tryz.underlying0
 a0:=Tryz.isAgg0
 z0:=Tryz.sizeOf0
 v0:=Tryz.zeroValue0
 t3:=Tryz.underlying3
 a3:=Tryz.isAgg3
 z3:=Tryz.sizeOf3
 v3:=Tryz.zeroValue3
 t4:=Tryz.underlying4
 a4:=Tryz.isAgg4
 z4:=Tryz.sizeOf4
 v4:=Tryz.zeroValue4
 t5:=Tryz.underlying5
 a5:=Tryz.isAgg5
 z5:=Tryz.sizeOf5
 v5:=Tryz.zeroValue5
 t9:=Tryz.underlying9
 a9:=Tryz.isAgg9
 z9:=Tryz.sizeOf9
 v9:=Tryz.zeroValue9
 t22:=Tryz.underlying84
 a22:=Tryz.isAgg84
 z22:=Tryz.sizeOf84
 v22:=Tryz.zeroValue84
 t25:=Tryz.underlying292
 a25:=Tryz.isAgg292
 z25:=Tryz.sizeOf292
 v25:=Tryz.zeroValue292
 t39:=Tryz.underlying222
 a39:=Tryz.isAgg222
 z39:=Tryz.sizeOf222
 v39:=Tryz.zeroValue222
 t45:=Tryz.underlying271
 a45:=Tryz.isAgg271
 z45:=Tryz.sizeOf271
 v45:=Tryz.zeroValue271
 t46:=Tryz.underlying272
 a46:=Tryz.isAgg272
 z46:=Tryz.sizeOf272
 v46:=Tryz.zeroValue272
 t50:=Tryz.underlying268
 a50:=Tryz.isAgg268
 z50:=Tryz.sizeOf268
 v50:=Tryz.zeroValue268
 t53:=Tryz.underlying278
 a53:=Tryz.isAgg278
 z53:=Tryz.sizeOf278
 v53:=Tryz.zeroValue278
 t55:=Tryz.underlying280
 a55:=Tryz.isAgg280
 z55:=Tryz.sizeOf280
 v55:=Tryz.zeroValue280
 t66:=Tryz.underlying300
 a66:=Tryz.isAgg300
 z66:=Tryz.sizeOf300
 v66:=Tryz.zeroValue300
 t70:=Tryz.underlying304
 a70:=Tryz.isAgg304
 z70:=Tryz.sizeOf304
 v70:=Tryz.zeroValue304
 t76:=Tryz.underlying313
 a76:=Tryz.isAgg313
 z76:=Tryz.sizeOf313
 v76:=Tryz.zeroValue313
 t77:=Tryz.underlying314
 a77:=Tryz.isAgg314
 z77:=Tryz.sizeOf314
 v77:=Tryz.zeroValue314}
end
section
open Go.RowKit Go.Shelf Go.Lib Go.Sort
attribute [local go_sem] Oper.semAt_some
theorem DY {α:Type} (f:α->ByteArray) (hf:∀x,Pl.Ok (f x)):SWO (ltOf fun x y=>Pl.bE (f x) (f y)) where
 irrefl x:=by
  simp only [ltOf,Pl.yV (hf x)];decide
 trans x y z h k:=by
  simp only [ltOf,decide_eq_true_eq] at *
  exact Pl.pH (hf x) (hf y) (hf z) h k
 ntrans x y z h k:=by
  simp only [ltOf,decide_eq_false_iff_not] at *
  intro hz
  have s1:=Pl.qM (hf x) (hf y)
  have s2:=Pl.qM (hf y) (hf z)
  by_cases h1:Pl.bE (f y) (f x)<0
  · have:=Pl.pH (hf y) (hf x) (hf z) h1 hz
    omega
  · have h2:Pl.bE (f x) (f y)=0:=by omega
    have e:=Pl.ug (hf x) (hf y) h2
    rw [e] at hz;omega
theorem y6O {w:World} {B:Nat} {e:TypeId} {k g cap n:Nat} {L:List Value} (ho:w.ownsRow B e k (.slice (some ⟨g,0,none⟩) n cap) n L) (h0:0<n) (F:Array Value) (hF:F.size=n*k):
    (putRow id w g 0 F).ownsRow B e k (.slice (some ⟨g,0,none⟩) n cap) n F.toList/\aj (fun j=>j=g) w (putRow id w g 0 F):=by
 obtain ⟨g',cap',cur,e1,hB,hg,hn,hc,hl,hx⟩:=rP ho h0
 cases e1
 have tE:n*k<=cap*k:=Nat.mul_le_mul_right k hn
 have hheap:(putRow id w g 0 F).heap[g]? =some (.cells ((putCells id 0 F cur.toArray).toList).toArray e (0,0)):=by
  unfold putRow mapBlock
  dsimp only
  rw [Array.getElem?_modify,zZ1 rfl,hg]
  simp [onCells]
 refine ⟨na hB hheap hn hc ?_ ?_,⟨rfl,rfl,rfl,?_,?_⟩⟩
 · unfold putCells;simp [hl]
 · apply zK1
   intro t
   rw [List.getElem?_take]
   by_cases ht:t<n*k
   · rw [zZ1 ht]
     have h1:(putCells id 0 F cur.toArray).toList[t]? =some F[t]! :=by
      unfold putCells
      rw [zJ6,Array.getElem?_mapIdx]
      have:cur.toArray[t]? =some cur[t]:=by simp [List.getElem?_eq_getElem (show t<cur.length by omega)]
      rw [this]
      simp only [Option.map_some,Nat.zero_le,zK0,Nat.sub_zero,true_and,id]
      rw [zZ1 (by omega)]
     rw [h1,zJ6,getElem!_pos F t (by omega),zJ7 (by omega)]
   · rw [zZ0 ht,zJ6,Array.getElem?_eq_none (by omega)]
 · unfold putRow mapBlock;simp
 · intro j hj hne
   unfold putRow mapBlock
   dsimp only
   rw [Array.getElem?_modify,zZ0 (fun h=>hne h.symm)]
structure qd where
 val:Pr
 ok:Pl.Ok val.key/\val.key.size<=70368744177664
instance:Inhabited qd:=⟨⟨Pr.none,⟨[],rfl⟩,by decide⟩⟩
def iE (x:qd):List Value:=x.1.vals
def sw (x y:qd):Int:=Pl.bE x.1.key y.1.key
theorem U2 (d:Array qd):(flatK iE 3 d).toList=bM (d.toList.map qd.val):=by
 apply zK1
 intro t
 by_cases ht:t<d.size*3
 · have h1:(flatK iE 3 d).toList[t]? =some (flatK iE 3 d)[t]! :=by
    rw [zJ6,zJ7 (by rw [size_flatK];exact ht),getElem!_pos _ t (by rw [size_flatK];exact ht)]
   have h2:=Da (t % 3) (Nat.mod_lt _ (by decide)) (d.toList.map qd.val) (t / 3) (by simp;omega)
   rw [show t / 3*3+t % 3=t by omega] at h2
   rw [h1,h2,get_flatK _ _ _ _ ht,jt _ _ (by simp;omega)]
   have h3:(d.toList.map qd.val)[t / 3]'(by simp;omega)=(d[t / 3]!).1:=by
    rw [getElem!_pos d (t / 3) (by omega)];simp
   rw [h3]
   unfold iE
   have h4:t % 3<3:=Nat.mod_lt _ (by decide)
   generalize t % 3=r at h4
   generalize (d[t / 3]!).1=c
   unfold Pr.vals
   match r,h4 with
   | 0,_=>rfl
   | 1,_=>rfl
   | 2,_=>rfl
 · rw [zJ1 (by rw [Array.length_toList,size_flatK];omega),zJ1 (by rw [uY];simp;omega)]
theorem wM (x y:qd) (W:World):Calls Tryz.prog 179 #[.agg #[.string x.1.key,.string x.1.val,.int .i64 x.1.di],.agg #[.string y.1.key,.string y.1.val,.int .i64 y.1.di]] W fun e w'=>e=.returned (.int .i64 (sw x y))/\cH W w':=by
 have hc:=fun W=>SN x.1.key y.1.key W x.2.2 y.2.2
 change ∀W,Calls Tryz.prog 77 _ W (fun e w'=>e=.returned (.int .i64 (sw x y))/\_) at hc
 have HC:=af hc
 clear hc
 generalize sw x y=r at HC ⊢
 go_in
 go_wp2_with fail
 refine (HC.out _).mono ?_
 rintro e w1 ⟨rfl,hg⟩
 go_wp2_with fail
 go_ret
 exact ⟨rfl,(((cH.refl W).alloc _).alloc _).trans hg⟩
theorem I9 (blk off size:Nat) (w:World):CmpLays Tryz.prog 179 #[] iE 3 sw blk off size w:=
 fun _ _ _ _ x y=>(wM x y _).mono fun _ _ ⟨he,hg⟩=>⟨he,hg.grown⟩
def Af (xs:List Pr) (hok:∀c∈xs,Pl.Ok c.key/\c.key.size<=70368744177664):Array qd:=(xs.attach.map fun c=>(⟨c.1,hok c.1 c.2⟩:qd)).toArray
theorem U3 (xs:List Pr) (hok):(Af xs hok).toList.map qd.val=xs:=by unfold Af;simp
theorem Ja (xs:List Pr) (hok):(Af xs hok).size=xs.length:=by unfold Af;simp
theorem wN {w:World} {B g cap:Nat} {xs:List Pr} (ho:w.ownsRow B 80 3 (.slice (some ⟨g,0,none⟩) xs.length cap) xs.length (bM xs)) (h0:0<xs.length) (hok:∀c∈xs,Pl.Ok c.key/\c.key.size<=70368744177664):HoldsK iE 3 w g 0 (Af xs hok):=by
 obtain ⟨g',cap',cur,e,hB,hg,hn,hc,hl,hx⟩:=rP ho h0
 cases e
 intro t ht
 have ht':=ht
 rw [size_flatK,Ja] at ht'
 refine ⟨?_,?_⟩
 · rw [zK0,fA hg t]
   have h1:cur[t]? =(bM xs)[t]? :=by rw [<-hx,List.getElem?_take,zZ1 ht']
   have h2:=U2 (Af xs hok)
   rw [U3] at h2
   rw [h1,<-h2,zJ6,zJ7 ht,getElem!_pos _ t ht];rfl
 · unfold World.frozen?
   dsimp only
   rw [hg]
   rfl
theorem z3i (w:World) (B g cap:Nat) (xs:List Pr) (ho:w.ownsRow B 80 3 (.slice (some ⟨g,0,none⟩) xs.length cap) xs.length (bM xs)) (h0:0<xs.length) (hbig:xs.length<=1000000) (hok:∀c∈xs,Pl.Ok c.key/\c.key.size<=70368744177664):
    Calls Tryz.prog 178 #[.slice (some ⟨g,0,none⟩) xs.length cap,.func (.func 179) #[] #[]] w fun e w'=>e=.returned (.tuple #[])/\aj (fun j=>j=g) w w'/\∃zs:List Pr,zs.Perm xs/\zs.Pairwise (fun a b=>¬Pl.bE b.key a.key<0)/\w'.ownsRow B 80 3 (.slice (some ⟨g,0,none⟩) zs.length cap) zs.length (bM zs):=by
 have hH:=wN ho h0 hok
 have aq:g<w.heap.size:=by
  obtain ⟨_,_,e,_,aq⟩:=ho.form h0
  cases e
  exact aq
 have eg:∀args w,(callFunc 179 args).run Tryz.prog w=.ok (.enter 179 args) w:=enters_of Tryz.func179 (by kernel_rfl) rfl
 have hcon:=AnyQ.slices_SortFunc Tryz.sortPair 3 Tryz.isAgg80 Tryz.sizeOf80 iE (fun _=>rfl) (fun x v hv=>by simp [iE,Pr.vals] at hv;rcases hv with rfl | rfl | rfl<;> rfl) sw (DY (fun x:qd=>x.1.key) fun x=>x.2.1) 179 #[] g 0 cap (Af xs hok) w eg (I9 g 0 _ w) hH aq (by rw [Ja];omega)
 rw [Ja] at hcon
 refine hcon.mono ?_
 rintro e w' ⟨he,d',n,os,hp,hd,hw⟩
 obtain ⟨hs,_,hperm⟩:=hp
 rw [Ja] at hs
 have e1:(Af xs hok).extract 0 xs.length=Af xs hok:=by rw [<-Ja xs hok];simp
 have e2:d'.extract 0 xs.length=d':=by rw [<-hs];simp
 rw [e1,e2] at hperm
 have hlen:(d'.toList.map qd.val).length=xs.length:=by simp [hs]
 obtain ⟨hr,hO⟩:=y6O (w:=Sort.ahead w n) (show (Sort.ahead w n).ownsRow B 80 3 _ _ _ from ho) h0 (flatK iE 3 d') (by rw [size_flatK,hs])
 have fL:aj (fun j=>j=g) w (putRow id (Sort.ahead w n) g 0 (flatK iE 3 d')):=(aj.mono (show aj (fun j=>j=g) w (Sort.ahead w n) from ⟨rfl,rfl,rfl,zZ3 _,fun _ _ _=>rfl⟩) (fun _ h=> .inl h)).then hO
 have hG:ae (putRow id (Sort.ahead w n) g 0 (flatK iE 3 d')) w':=by
  rw [hw]
  refine ⟨rfl,rfl,rfl,?_,?_⟩
  · unfold sortWorldK grow putRowK;simp
  · intro k hk
    show (_++os)[k]? =_
    rw [Array.getElem?_append]
    exact zZ1 hk
 refine ⟨he,fL.cm hG,d'.toList.map qd.val,?_,?_,?_⟩
 · have:=hperm.map qd.val
   rwa [U3] at this
 · rw [List.pairwise_map,zX0]
   intro i j hi hj hij
   have:=hd i j (Nat.zero_le _) hij (by simpa [hs] using hj)
   rw [getElem!_pos d' i (by simpa using hi),getElem!_pos d' j (by simpa using hj)] at this
   unfold ltOf sw at this
   simpa using this
 · rw [hlen,<-U2]
   exact gI hG hr
end
section
open Go.RowKit Go.Shelf Go.Lib Go.Sort Go.Maps
attribute [local go_sem] Oper.semAt_some
namespace Pl
def Mr (zs:List Pr):Prop:=zs.Pairwise fun a b=>¬bE b.key a.key<0
end Pl
theorem z4D (w:World) (B:Nat) (a:Option Addr) (n cap:Nat) (xs:List Pr) (hn:n=xs.length) (ho:w.ownsRow B 80 3 (.slice a n cap) n (bM xs)) (hbig:n<=1000000) (hok:∀c∈xs,Pl.Ok c.key/\c.key.size<=70368744177664):
    Calls Tryz.prog 178 #[.slice a n cap,.func (.func 179) #[] #[]] w fun e w'=>e=.returned (.tuple #[])/\aj (fun j=>some j=Value.ownBlock (.slice a n cap)) w w'/\∃zs:List Pr,zs.Perm xs/\Pl.Mr zs/\w'.ownsRow B 80 3 (.slice a n cap) n (bM zs):=by
 subst hn
 rcases zX9 xs.length with h0 | h0
 · have e:=zX1 h0
   subst e
   refine (AnyF.slices_SortFunc_none Tryz.sortPair a cap (.func (.func 179) #[] #[]) w).mono ?_
   rintro e w' ⟨rfl,rfl⟩
   exact ⟨rfl,⟨rfl,rfl,rfl,zZ3 _,fun _ _ _=>rfl⟩,[],.refl _,List.Pairwise.nil,ho⟩
 · obtain ⟨g,cap',e,_⟩:=ho.form h0
   cases e
   refine (z3i w B g cap xs ho h0 hbig hok).mono ?_
   rintro e w' ⟨rfl,hO,zs,hp,hs,hr⟩
   refine ⟨rfl,hO.mono fun j hj=> .inl (by rw [hj];rfl),zs,hp,hs,?_⟩
   rwa [hp.length_eq] at hr
theorem z0s {a b:ByteArray} (h:a.toList=b.toList):a=b:=by
 rw [zQ3,zQ3] at h
 obtain ⟨⟨a⟩⟩:=a
 obtain ⟨⟨b⟩⟩:=b
 exact congrArg (fun l:List UInt8=>(⟨⟨l⟩⟩:ByteArray)) h
def Ag (w:World) (F:Nat->Prop) (tb:Nat) (v:Value) (ys:List Pr) (e:Ending) (w':World):Prop:=
 ∃zs:List Pr,zs.Perm ys/\Pl.Mr zs/\((Pl.jw zs=true/\e=.returned v/\ae w w')\/(Pl.jw zs=false/\e=.returned .nilIface/\nj w F tb zs w'))
theorem z3Z {w w3:World} {F:Nat->Prop} {tb:Nat} {xs zs ys:List Pr} {v:Value} (h:bo w F tb xs) (g:ae w w3) (hr:w3.ownsRow w.heap.size 80 3 v zs.length (bM zs)) (hp:zs.Perm ys) (hz:Pl.Mr zs) (hd:Pl.jw zs=false) (hk:∀c∈ys,Pl.aF c.key=0/\c.key.size<=70368744177664):
    nj w F tb zs (w3.setCell ⟨tb,0,none⟩ v):=by
 have dR:tb<w.heap.size:=nP h _ (LY h)
 have o5:=aj.setCell w3 ⟨tb,0,none⟩ v
 obtain ⟨v0,hT⟩:=h
 have hc:=(g.cells.1 _ 0 dR).trans hT.cell
 have hf:=(g.cells.2 _ 0 dR).trans hT.fz
 have hk':∀c∈zs,Pl.aF c.key=0/\c.key.size<=70368744177664:=fun c hc=>hk c (hp.mem_iff.1 hc)
 refine ⟨(g.only F).then (o5.mono fun j hj=> .inl (by subst hj;exact hT.bg)),_,LZ (B:=w.heap.size) (v:=v) (by simp [World.cell?_setCell_same,hc]) (by rw [World.frozen?_setCell];exact hf) (A6 hr o5 (fun b hb e=>by have:=(hr.lt b hb).1;simp at e;omega)) (.inl dR) (Pl.ZI (fun c hc=>(hk' c hc).1) hz hd) (fun c hc=>(hk' c hc).2),?_⟩
 rintro j (rfl | ⟨_,hj⟩)
 · exact .inl hT.bg
 · exact .inr hj
theorem z3z {S:Nat->Bool} (E:Nat->Addr) (DZ:S 18=true) {w:World} (hE:aY S E w) {F G:Nat->Prop} {tb ob:Nat} {xs ys:List Pr} (h:bo w F tb xs) (k:bo w G ob ys) (hx:xs.length+ys.length<=1000000):
    Calls Tryz.prog 150 #[.pointer (some ⟨tb,0,none⟩),.pointer (some ⟨ob,0,none⟩)] w fun e w'=>Ag w F tb (.iface 337 (.pointer (some (E 18)))) (xs++ys) e w':=by
 have HT:=af h
 have hok:∀c∈xs++ys,Pl.aF c.key=0/\c.key.size<=70368744177664:=fun c hc=>by
  rcases List.mem_append.1 hc with hc | hc
  · exact ⟨(FM h).key c hc,LX h c hc⟩
  · exact ⟨(FM k).key c hc,LX k c hc⟩
 have cB:=af (fun (w3:World) (v:Value) (zs:List Pr) (g:ae w w3) hr hp hz hd=>z3Z (w3:=w3) (zs:=zs) (v:=v) h g hr hp hz hd hok)
 have mf:=af (fun c hc=>And.intro (Pl.iF (hok c hc).1) (hok c hc).2)
 have dR:tb<w.heap.size:=nP h _ (LY h)
 have gL:ob<w.heap.size:=nP k _ (LY k)
 have g18:w.cell? ⟨17,0,none⟩=some (.iface 337 (.pointer (some (E 18)))):=hE.cell 18 DZ
 have U4:17<w.heap.size:=aN g18
 obtain ⟨v1,h⟩:=h
 obtain ⟨v2,k⟩:=k
 obtain ⟨a1,c1,rfl,A1⟩:=lJ h.row
 obtain ⟨a2,c2,rfl,A2⟩:=lJ k.row
 have F1:=FE h.row
 have F2:=FE k.row
 have C1:=h.cell
 have C2:=k.cell
 have fz:=h.fz
 have HC:=af (fun (W:World) (g:ae w W) vb h1 h2=>zz W vb a1 a2 c1 c2 xs ys h1 h2 (A1.ag g) (A2.ag g) F1 F2 (by omega) (by omega))
 clear h k hE A1 A2 F1 F2 hok
 have E1:=aU C1
 have E2:=aU C2
 go_in
 go_wp2_with fail
 refine gJ 8 [] (ae w) Eq (fun _ _ x=>x=w.drew) (fun _ a=>a) (by kernel_rfl) (by kernel_rfl) (fun _ _=>rfl) rfl (fun _ _ x h=>by rw [h];exact (ae.rf w).drew) (fun _=>rfl) (fun _ _ _ _ h g=>g▸h) ?_
 repeat (first
  | refine gy ?_
  | (refine gB ?_;intro K hK;go_big_quiet_op;go_big_quiet_on)
  | (refine gz ?_;simp only [Act.put,sA,sB,sC]))
 refine jX (by rfl) ⟨trivial,?_⟩
 rintro f0 x rfl
 dsimp only [List.drop]
 go_wp2_with fail
 refine (HC.out _ (((ae.rf w).drew).alloc _) w.heap.size (by simp [go_sem]) (by simp [go_sem])).mono ?_
 rintro e w1 ⟨a,cap,rfl,hr,hg⟩
 have jr:ae w w1:=(((ae.rf w).drew).alloc _).trans hg
 have hB1:w.heap.size<=(w.drew.alloc (.cells #[.slice a1 xs.length c1,.slice a2 ys.length c2] 84)).heap.size:=(((ae.rf w).drew).alloc _).size
 have hr1:w1.ownsRow w.heap.size 80 3 (.slice a (xs.length+ys.length) cap) (xs.length+ys.length) (bM (xs++ys)):=by
  refine ⟨hr.1,?_⟩
  rcases hr.2 with h | ⟨b,c,cur,e1,h5,h6⟩
  · exact .inl h
  · exact .inr ⟨b,c,cur,e1,by simp at h5;omega,h6⟩
 have hnl:Hid (xs.length+ys.length=(xs++ys).length):=zX8.symm
 have wO:=af (z4D w1 w.heap.size a (xs.length+ys.length) cap (xs++ys) hnl.out hr1 hx mf.out)
 have aD:∀j,some j=Value.ownBlock (.slice a (xs.length+ys.length) cap)->w.heap.size<=j:=fun j hj=>(hr1.lt j hj.symm).1
 have HOWN:=af aD
 have bI:=af jr
 clear hr hg hB1 hr1 aD jr HC E1 E2
 obtain ⟨L,hL⟩:∃L,L=xs++ys:=⟨_,rfl⟩
 have HL:=af hL
 rw [<-hL] at wO hnl cB mf
 clear hL
 generalize xs.length+ys.length=n at *
 go_wp2_with fail
 refine wO.out.mono ?_
 rintro e w2 ⟨rfl,hO,zs,hp,hz,hr2⟩
 have bD:ae w w2:=((bI.out.only _).then hO).ag HOWN.out
 obtain ⟨a',cap',e',A2⟩:=lJ (show w2.ownsRow w.heap.size 80 3 (.slice a n cap) zs.length (bM zs) by rw [hp.length_eq,<-hnl.out];exact hr2)
 cases e'
 have Ms:=af A2
 have ik:=af hr2
 have HP:=af hp
 have HZ:=af hz
 have HG2:=af bD
 clear hr2 hp hz hO A2 hnl wO HOWN
 have U5:=(bD.cells.1 _ 0 dR).trans C1
 have U6:=(bD.cells.2 _ 0 dR).trans fz
 have PY:=(bD.cells.1 _ 0 U4).trans g18
 have Jb:=ltT dR bD.size
 have PZ:=ltT U4 bD.size
 have hzB:(zs.length:Int)<=1000000:=by omega
 clear C1 C2 g18 bD fz
 go_wp2_with fail
 go_loopw [21] (fun i wr=>∃k:Nat,k<=zs.length/\i=.int .i64 k/\Hid (∀j,j+1<k->(ay zs j).key≠(ay zs (j+1)).key)/\ae w2 wr) (fun i _=>zs.length - (intOf i).toNat)
 case atStart=>exact ⟨0,Nat.zero_le _,rfl,fun j hj=>absurd hj (by omega),ae.rf _⟩
 case round=>
  obtain ⟨k,hk1,rfl,HN,pZ⟩:=hrel
  have j0e:=(pZ.cells.1 _ 0 PZ).trans PY
  by_cases aq:k<zs.length
  · rcases Ms.out with h0 | ⟨b,off,rfl,hb,hR⟩
    · rw [h0] at aq;simp at aq
    have Ia:(k:Int)<(zs.length:Int):=by omega
    cases k with
    | zero=>
     clear hR
     go_wp2_with fail
     go_quiet (fail)
     all_goals (
      go_wp2_with fail
      go_roundw
      case rel=>exact ⟨0+1,by omega,by go_num,fun j hj=>absurd hj (by omega),pZ.drewN _⟩
      case measure=>simp [intOf];omega)
    | succ m=>
     have q0:=(pZ.cells.1 b (off+(m+1)*3) hb).trans (hR.key (m+1) aq)
     have p0:=(pZ.cells.1 b (off+m*3) hb).trans (hR.key m (by omega))
     have HD:Hid ((ay zs m).key=(ay zs (m+1)).key->Pl.jw zs=true):=fun h=>Pl.vC m aq h
     have eI:Hid ((ay zs m).key≠(ay zs (m+1)).key->∀j,j+1<m+1+1->(ay zs j).key≠(ay zs (j+1)).key):=fun h j hj=>by
      by_cases hjm:j=m
      · subst hjm;exact h
      · exact HN.out j (by omega)
     clear hR
     generalize (ay zs m).key=x0 at *
     generalize (ay zs (m+1)).key=x1 at *
     have i2:((m:Int)+1) - 1=(m:Int):=by omega
     have i3:(m:Int)<(zs.length:Int):=by omega
     have i5:m<zs.length:=by omega
     have i6:IntKind.i64.wrap (m:Int)=(m:Int):=IntWalk.i64_in _ (by omega)
     have hd2:decide ((0:Int)<(m:Int)+1)=true:=decide_eq_true (by omega)
     by_cases heq:x0=x1
     · have Ea:=af (HD.out heq)
       subst heq
       have hbb:(x0.toList==x0.toList)=true:=beq_self_eq_true _
       go_wp2_with fail
       go_quiet (fail)
       all_goals (
        go_wp2_with fail
        go_ret
        exact ⟨zs,HL.out▸HP.out,HZ.out,.inl ⟨Ea.out,rfl,(HG2.out.trans pZ).drewN _⟩⟩)
     · have Mt:=af (eI.out heq)
       have hbb:(x1.toList==x0.toList)=false:=beq_eq_false_iff_ne.2 fun h=>heq (z0s h).symm
       clear HD eI
       go_wp2_with fail
       go_quiet (fail)
       all_goals (
        go_wp2_with fail
        go_roundw
        case rel=>exact ⟨m+1+1,by omega,by go_num,Mt,pZ.drewN _⟩
        case measure=>simp [intOf];omega)
  · obtain rfl:k=zs.length:=by omega
    have Ea:Hid (Pl.jw zs=false):=Pl.T6 fun i hi=>HN.out i hi
    have IB:=af (cB.out wr _ zs (HG2.out.trans pZ) (gI pZ ik.out) HP.out HZ.out Ea.out)
    have C1k:=(pZ.cells.1 _ 0 Jb).trans U5
    have fk:=(pZ.cells.2 _ 0 Jb).trans U6
    clear U5 U6
    go_wp2_with fail
    go_ret
    exact ⟨zs,HL.out▸HP.out,HZ.out,.inr ⟨Ea.out,rfl,IB.out⟩⟩
end
section
open Go.RowKit
def MQ (v:ByteArray×ByteArray) (n:Nat) (w:World) (e:Ending) (w':World):Prop:=
 e=.returned (.tuple #[.agg #[.string v.1,.string v.2],.int .i64 (n:Nat)])/\ae w w'
theorem Rc (bY bS bZ bJ:ByteArray) (w:World) (h1:bY.size<=16777216) (h2:bS.size<=16777216) (h3:bZ.size<=16777216) (h4:bJ.size<=16777216):
    Calls Tryz.prog 135 #[.agg #[.string bY,.string bS],.agg #[.string bZ,.string bJ]] w (MQ (Pl.aH (Pl.dV bY bS) (Pl.dV bZ bJ) bY bS bZ bJ) (Pl.aK (Pl.dV bY bS) (Pl.dV bZ bJ) bY bS bZ bJ) w):=by
 cases r1:Pl.dV bY bS with
 | false=>
  have hn:Pl.aK false (Pl.dV bZ bJ) bY bS bZ bJ=4:=by unfold Pl.aK;rw [zZ1 (Or.inl rfl)]
  have hv:Pl.aH false (Pl.dV bZ bJ) bY bS bZ bJ=(bO,bO):=by unfold Pl.aH;rw [zZ1 (Or.inl rfl)]
  rw [hn,hv]
  clear hn hv
  go_in
  go_wp2_with fail
  refine (jJ bY bS _ h1 h2).mono ?_
  rintro e w1 ⟨rfl,hg⟩
  have hG:ae w w1:=((((ae.rf w).alloc _).alloc _).alloc _).trans hg
  have hz:w.heap.size+1+1<w1.heap.size:=by have:=hg.size;simp at this;omega
  obtain ⟨hc,hf⟩:=hg.cells
  go_wp2_with fail
  refine bodyPost_ret (v:=.tuple #[.agg #[.string bO,.string bO],.int .i64 4]) (by simp [results,Tryz.results135,go_sem,hc]) rfl ⟨rfl,?_⟩
  exact ((hG.setCell (by simp;omega) _).setCell (by simp;omega) _)
 | true=>
  cases r2:Pl.dV bZ bJ with
  | false=>
   have hn:Pl.aK true false bY bS bZ bJ=4:=by unfold Pl.aK;rw [zZ1 (Or.inr rfl)]
   have hv:Pl.aH true false bY bS bZ bJ=(bO,bO):=by unfold Pl.aH;rw [zZ1 (Or.inr rfl)]
   rw [hn,hv]
   clear hn hv
   go_in
   go_wp2_with fail
   refine (jJ bY bS _ h1 h2).mono ?_
   rintro e w1 ⟨rfl,hg⟩
   have hG:ae w w1:=((((ae.rf w).alloc _).alloc _).alloc _).trans hg
   have hz:w.heap.size+1<w1.heap.size/\w.heap.size+1+1<w1.heap.size:=by have:=hg.size;simp at this;omega
   obtain ⟨hz1,hz2⟩:=hz
   obtain ⟨hc,hf⟩:=hg.cells
   go_wp2_with fail
   refine (jJ bZ bJ _ h3 h4).mono ?_
   rintro e w2 ⟨rfl,aB⟩
   have bD:ae w w2:=hG.trans aB
   obtain ⟨hc2,hf2⟩:=aB.cells
   go_wp2_with fail
   refine bodyPost_ret (v:=.tuple #[.agg #[.string bO,.string bO],.int .i64 4]) (by simp [results,Tryz.results135,go_sem,hc,hc2,hz2]) rfl ⟨rfl,?_⟩
   exact ((bD.setCell (by simp;omega) _).setCell (by simp;omega) _)
  | true=>
   cases cX:bS.toList.isEmpty with
   | true=>
    have uH:bS.toList=[]:=by simpa using cX
    cases bU:bJ.toList.isEmpty with
    | true=>
     have kQ:bJ.toList=[]:=by simpa using bU
     have hn:Pl.aK true true bY bS bZ bJ=1:=by unfold Pl.aK;rw [zZ0 (by simp),zZ0 (fun h=>by have:=h.1;unfold Pl.aP at this;rw [cX] at this;cases this),zZ0 (fun h=>by have:=h.1;unfold Pl.aP at this;rw [bU] at this;cases this)]
     have hv:Pl.aH true true bY bS bZ bJ=(bO,bO):=by unfold Pl.aH;rw [zZ0 (by simp),zZ0 (fun h=>by have:=h.1;unfold Pl.aP at this;rw [cX] at this;cases this),zZ0 (fun h=>by have:=h.1;unfold Pl.aP at this;rw [bU] at this;cases this)]
     rw [hn,hv]
     clear hn hv
     go_in
     go_wp2_with fail
     refine (jJ bY bS _ (by omega) (by omega)).mono ?_
     rintro e w1 ⟨rfl,hg⟩
     have hG:ae w w1:=((((ae.rf w).alloc _).alloc _).alloc _).trans hg
     have hz:w.heap.size<w1.heap.size/\w.heap.size+1<w1.heap.size/\w.heap.size+1+1<w1.heap.size:=by have:=hg.size;simp at this;omega
     obtain ⟨hz0,hz1,hz2⟩:=hz
     obtain ⟨hc,hf⟩:=hg.cells
     go_wp2_with fail
     refine (jJ bZ bJ _ (by omega) (by omega)).mono ?_
     rintro e w2 ⟨rfl,aB⟩
     have bD:ae w w2:=hG.trans aB
     obtain ⟨hc2,hf2⟩:=aB.cells
     go_wp2_with fail
     refine bodyPost_ret (v:=.tuple #[.agg #[.string bO,.string bO],(.int .i64 1)]) (by simp [results,Tryz.results135,go_sem,hc,hc2,hz2]) rfl ⟨rfl,?_⟩
     exact ((bD.setCell (by simp;omega) _).setCell (by simp;omega) _)
    | false=>
     have kQ:¬bJ.toList=[]:=by simpa using bU
     have uI:(!bJ.toList.isEmpty)=true:=by rw [bU];rfl
     by_cases q2:bJ.toList=bY.toList
     · have q2':(bJ.toList==bY.toList)=true:=by simpa using q2
       have hn:Pl.aK true true bY bS bZ bJ=0:=by unfold Pl.aK;rw [zZ0 (by simp),zZ0 (fun h=>by have:=h.1;unfold Pl.aP at this;rw [cX] at this;cases this),zZ1 ⟨bU,q2⟩]
       have hv:Pl.aH true true bY bS bZ bJ=(bZ,bS):=by unfold Pl.aH;rw [zZ0 (by simp),zZ0 (fun h=>by have:=h.1;unfold Pl.aP at this;rw [cX] at this;cases this),zZ1 ⟨bU,q2⟩]
       rw [hn,hv]
       clear hn hv
       clear q2
       go_in
       go_wp2_with fail
       refine (jJ bY bS _ (by omega) (by omega)).mono ?_
       rintro e w1 ⟨rfl,hg⟩
       have hG:ae w w1:=((((ae.rf w).alloc _).alloc _).alloc _).trans hg
       have hz:w.heap.size<w1.heap.size/\w.heap.size+1<w1.heap.size/\w.heap.size+1+1<w1.heap.size:=by have:=hg.size;simp at this;omega
       obtain ⟨hz0,hz1,hz2⟩:=hz
       obtain ⟨hc,hf⟩:=hg.cells
       go_wp2_with fail
       refine (jJ bZ bJ _ (by omega) (by omega)).mono ?_
       rintro e w2 ⟨rfl,aB⟩
       have bD:ae w w2:=hG.trans aB
       obtain ⟨hc2,hf2⟩:=aB.cells
       go_wp2_with fail
       refine bodyPost_ret (v:=.tuple #[.agg #[.string bZ,.string bS],(.int .i64 0)]) (by simp [results,Tryz.results135,go_sem,hc,hc2,hz2]) rfl ⟨rfl,?_⟩
       exact ((bD.setCell (by simp;omega) _).setCell (by simp;omega) _)
     · have q2':(bJ.toList==bY.toList)=false:=by simpa using q2
       have hn:Pl.aK true true bY bS bZ bJ=1:=by unfold Pl.aK;rw [zZ0 (by simp),zZ0 (fun h=>by have:=h.1;unfold Pl.aP at this;rw [cX] at this;cases this),zZ0 (fun h=>q2 h.2)]
       have hv:Pl.aH true true bY bS bZ bJ=(bO,bO):=by unfold Pl.aH;rw [zZ0 (by simp),zZ0 (fun h=>by have:=h.1;unfold Pl.aP at this;rw [cX] at this;cases this),zZ0 (fun h=>q2 h.2)]
       rw [hn,hv]
       clear hn hv
       clear q2
       go_in
       go_wp2_with fail
       refine (jJ bY bS _ (by omega) (by omega)).mono ?_
       rintro e w1 ⟨rfl,hg⟩
       have hG:ae w w1:=((((ae.rf w).alloc _).alloc _).alloc _).trans hg
       have hz:w.heap.size<w1.heap.size/\w.heap.size+1<w1.heap.size/\w.heap.size+1+1<w1.heap.size:=by have:=hg.size;simp at this;omega
       obtain ⟨hz0,hz1,hz2⟩:=hz
       obtain ⟨hc,hf⟩:=hg.cells
       go_wp2_with fail
       refine (jJ bZ bJ _ (by omega) (by omega)).mono ?_
       rintro e w2 ⟨rfl,aB⟩
       have bD:ae w w2:=hG.trans aB
       obtain ⟨hc2,hf2⟩:=aB.cells
       go_wp2_with fail
       refine bodyPost_ret (v:=.tuple #[.agg #[.string bO,.string bO],(.int .i64 1)]) (by simp [results,Tryz.results135,go_sem,hc,hc2,hz2]) rfl ⟨rfl,?_⟩
       exact ((bD.setCell (by simp;omega) _).setCell (by simp;omega) _)
   | false=>
    have uH:¬bS.toList=[]:=by simpa using cX
    have GY:(!bS.toList.isEmpty)=true:=by rw [cX];rfl
    by_cases q1:bS.toList=bZ.toList
    · have q1':(bS.toList==bZ.toList)=true:=by simpa using q1
      have hn:Pl.aK true true bY bS bZ bJ=0:=by unfold Pl.aK;rw [zZ0 (by simp),zZ1 ⟨cX,q1⟩]
      have hv:Pl.aH true true bY bS bZ bJ=(bY,bJ):=by unfold Pl.aH;rw [zZ0 (by simp),zZ1 ⟨cX,q1⟩]
      rw [hn,hv]
      clear hn hv
      clear q1
      go_in
      go_wp2_with fail
      refine (jJ bY bS _ (by omega) (by omega)).mono ?_
      rintro e w1 ⟨rfl,hg⟩
      have hG:ae w w1:=((((ae.rf w).alloc _).alloc _).alloc _).trans hg
      have hz:w.heap.size<w1.heap.size/\w.heap.size+1<w1.heap.size/\w.heap.size+1+1<w1.heap.size:=by have:=hg.size;simp at this;omega
      obtain ⟨hz0,hz1,hz2⟩:=hz
      obtain ⟨hc,hf⟩:=hg.cells
      go_wp2_with fail
      refine (jJ bZ bJ _ (by omega) (by omega)).mono ?_
      rintro e w2 ⟨rfl,aB⟩
      have bD:ae w w2:=hG.trans aB
      obtain ⟨hc2,hf2⟩:=aB.cells
      go_wp2_with fail
      refine bodyPost_ret (v:=.tuple #[.agg #[.string bY,.string bJ],(.int .i64 0)]) (by simp [results,Tryz.results135,go_sem,hc,hc2,hz2]) rfl ⟨rfl,?_⟩
      exact ((bD.setCell (by simp;omega) _).setCell (by simp;omega) _)
    · have q1':(bS.toList==bZ.toList)=false:=by simpa using q1
      cases bU:bJ.toList.isEmpty with
      | true=>
       have kQ:bJ.toList=[]:=by simpa using bU
       have hn:Pl.aK true true bY bS bZ bJ=1:=by unfold Pl.aK;rw [zZ0 (by simp),zZ0 (fun h=>q1 h.2),zZ0 (fun h=>by have:=h.1;unfold Pl.aP at this;rw [bU] at this;cases this)]
       have hv:Pl.aH true true bY bS bZ bJ=(bO,bO):=by unfold Pl.aH;rw [zZ0 (by simp),zZ0 (fun h=>q1 h.2),zZ0 (fun h=>by have:=h.1;unfold Pl.aP at this;rw [bU] at this;cases this)]
       rw [hn,hv]
       clear hn hv
       clear q1
       go_in
       go_wp2_with fail
       refine (jJ bY bS _ (by omega) (by omega)).mono ?_
       rintro e w1 ⟨rfl,hg⟩
       have hG:ae w w1:=((((ae.rf w).alloc _).alloc _).alloc _).trans hg
       have hz:w.heap.size<w1.heap.size/\w.heap.size+1<w1.heap.size/\w.heap.size+1+1<w1.heap.size:=by have:=hg.size;simp at this;omega
       obtain ⟨hz0,hz1,hz2⟩:=hz
       obtain ⟨hc,hf⟩:=hg.cells
       go_wp2_with fail
       refine (jJ bZ bJ _ (by omega) (by omega)).mono ?_
       rintro e w2 ⟨rfl,aB⟩
       have bD:ae w w2:=hG.trans aB
       obtain ⟨hc2,hf2⟩:=aB.cells
       go_wp2_with fail
       refine bodyPost_ret (v:=.tuple #[.agg #[.string bO,.string bO],(.int .i64 1)]) (by simp [results,Tryz.results135,go_sem,hc,hc2,hz2]) rfl ⟨rfl,?_⟩
       exact ((bD.setCell (by simp;omega) _).setCell (by simp;omega) _)
      | false=>
       have kQ:¬bJ.toList=[]:=by simpa using bU
       have uI:(!bJ.toList.isEmpty)=true:=by rw [bU];rfl
       by_cases q2:bJ.toList=bY.toList
       · have q2':(bJ.toList==bY.toList)=true:=by simpa using q2
         have hn:Pl.aK true true bY bS bZ bJ=0:=by unfold Pl.aK;rw [zZ0 (by simp),zZ0 (fun h=>q1 h.2),zZ1 ⟨bU,q2⟩]
         have hv:Pl.aH true true bY bS bZ bJ=(bZ,bS):=by unfold Pl.aH;rw [zZ0 (by simp),zZ0 (fun h=>q1 h.2),zZ1 ⟨bU,q2⟩]
         rw [hn,hv]
         clear hn hv
         clear q2
         clear q1
         go_in
         go_wp2_with fail
         refine (jJ bY bS _ (by omega) (by omega)).mono ?_
         rintro e w1 ⟨rfl,hg⟩
         have hG:ae w w1:=((((ae.rf w).alloc _).alloc _).alloc _).trans hg
         have hz:w.heap.size<w1.heap.size/\w.heap.size+1<w1.heap.size/\w.heap.size+1+1<w1.heap.size:=by have:=hg.size;simp at this;omega
         obtain ⟨hz0,hz1,hz2⟩:=hz
         obtain ⟨hc,hf⟩:=hg.cells
         go_wp2_with fail
         refine (jJ bZ bJ _ (by omega) (by omega)).mono ?_
         rintro e w2 ⟨rfl,aB⟩
         have bD:ae w w2:=hG.trans aB
         obtain ⟨hc2,hf2⟩:=aB.cells
         go_wp2_with fail
         refine bodyPost_ret (v:=.tuple #[.agg #[.string bZ,.string bS],(.int .i64 0)]) (by simp [results,Tryz.results135,go_sem,hc,hc2,hz2]) rfl ⟨rfl,?_⟩
         exact ((bD.setCell (by simp;omega) _).setCell (by simp;omega) _)
       · have q2':(bJ.toList==bY.toList)=false:=by simpa using q2
         have hn:Pl.aK true true bY bS bZ bJ=1:=by unfold Pl.aK;rw [zZ0 (by simp),zZ0 (fun h=>q1 h.2),zZ0 (fun h=>q2 h.2)]
         have hv:Pl.aH true true bY bS bZ bJ=(bO,bO):=by unfold Pl.aH;rw [zZ0 (by simp),zZ0 (fun h=>q1 h.2),zZ0 (fun h=>q2 h.2)]
         rw [hn,hv]
         clear hn hv
         clear q2
         clear q1
         go_in
         go_wp2_with fail
         refine (jJ bY bS _ (by omega) (by omega)).mono ?_
         rintro e w1 ⟨rfl,hg⟩
         have hG:ae w w1:=((((ae.rf w).alloc _).alloc _).alloc _).trans hg
         have hz:w.heap.size<w1.heap.size/\w.heap.size+1<w1.heap.size/\w.heap.size+1+1<w1.heap.size:=by have:=hg.size;simp at this;omega
         obtain ⟨hz0,hz1,hz2⟩:=hz
         obtain ⟨hc,hf⟩:=hg.cells
         go_wp2_with fail
         refine (jJ bZ bJ _ (by omega) (by omega)).mono ?_
         rintro e w2 ⟨rfl,aB⟩
         have bD:ae w w2:=hG.trans aB
         obtain ⟨hc2,hf2⟩:=aB.cells
         go_wp2_with fail
         refine bodyPost_ret (v:=.tuple #[.agg #[.string bO,.string bO],(.int .i64 1)]) (by simp [results,Tryz.results135,go_sem,hc,hc2,hz2]) rfl ⟨rfl,?_⟩
         exact ((bD.setCell (by simp;omega) _).setCell (by simp;omega) _)
end
end Go.Proofs.YtbnofojapimfcaaGreatDoor
