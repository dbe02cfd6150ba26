/- Part 23 of the proof. -/
import Derived.Test.YtbnofojapimfcaaGreatDoorFinWatchStepsQ20
import Derived.Test.YtbnofojapimfcaaGreatDoorFinWatchStepsQ21
set_option linter.unusedVariables false
set_option linter.unusedSectionVars false
set_option linter.unusedSimpArgs false
set_option maxRecDepth 100000
set_option maxHeartbeats 16000000
namespace Go.Proofs.YtbnofojapimfcaaGreatDoor
section
open Go.RowKit Go.Maps
attribute [local go_sem] Oper.semAt_some
theorem y8W (w:World):(w.alloc (.cells #[] 80)).ownsRow w.heap.size 80 3 (.slice (some ⟨w.heap.size,0,none⟩) 0 0) 0 (bM []):=by
 have HO:=af (fun (t:TypeId) (h:t=80)=>show (w.alloc (.cells #[] t)).ownsRow w.heap.size 80 3 (.slice (some ⟨w.heap.size,0,none⟩) 0 0) 0 [] from by
  subst h
  exact na (cur:=[]) (zZ3 _) (heap_alloc_new w _) (zZ3 _) (by decide) rfl rfl)
 exact HO.out _ rfl
theorem Ur {w:World} {G:Nat->Prop} {tb:Nat} {xs:List Pr} (h:cL w G tb xs) (hx:xs.length<=1000000):
    Calls Tryz.prog 38 #[.pointer (some ⟨tb,0,none⟩)] w fun e w'=>(∃cb G',e=.returned (.pointer (some ⟨cb,0,none⟩))/\cL w' G' cb xs/\∀j,G' j->w.heap.size<=j)/\ae w w':=by
 obtain ⟨v,h⟩:=h
 obtain ⟨a,cap,rfl,hA⟩:=lJ h.row
 have c0:=h.c0
 have hsl:=FE h.row
 have dR:=aN c0
 have HA:=af hA
 have HS:=af hsl
 clear hA hsl h
 have HOWN:=af (y8W w)
 go_in
 go_wp2_with (at_builtin;refine Ud rfl _ _ rfl rfl HOWN.out rfl rfl (HA.out.ag ((ae.rf w).alloc _)) HS.out (by omega) (by simp) ?_)
 intro a' cap' w3 aI hgr how
 have km:ae w w3:=by
  have h1:=((ae.rf w).alloc (.cells #[] 80))
  refine ((h1.only _).then (aj.of_grownBy hgr)).ag fun j hj=>?_
  simp [Value.ownBlock] at hj
  omega
 have HF:Hid ((∃G',cL (w3.alloc (.cells #[.slice a' xs.length cap'] 100)) G' w3.heap.size xs/\∀j,G' j->w.heap.size<=j)/\ae w (w3.alloc (.cells #[.slice a' xs.length cap'] 100))):=by
  have hG:ae w3 (w3.alloc (.cells #[.slice a' xs.length cap'] 100)):=(ae.rf w3).alloc _
  refine ⟨⟨fun j=>j=w3.heap.size\/Value.ownBlock (.slice a' xs.length cap')=some j,⟨_,by simp [go_sem],by simp [go_sem],Fy (Nat.zero_le _) (gI hG aI),.inl rfl,fun g hg=>⟨.inr hg,?_⟩,fun j hj=>?_⟩,fun j hj=>?_⟩,km.trans hG⟩
  · have:=(aI.lt g hg).2;omega
  · rcases hj with rfl | hj
    · simp
    · have:=(aI.lt j hj).2;have:=hG.size;omega
  · rcases hj with rfl | hj
    · exact km.size
    · exact (aI.lt j hj).1
 clear aI hgr how km
 go_wp2_with fail
 go_ret
 obtain ⟨⟨G',h1,h2⟩,h3⟩:=HF.out
 exact ⟨⟨_,G',rfl,h1,h2⟩,h3⟩
structure iL (w:World) (G:Nat->Prop) (ms tb sb:Nat) (lo hi:ByteArray) (D:List Pr) (S:Int->Option An):Prop where
 c0:w.cell? ⟨ms,0,none⟩=some (.string lo)
 c1:w.cell? ⟨ms,1,none⟩=some (.string hi)
 c2:w.cell? ⟨ms,2,none⟩=some (.pointer (some ⟨tb,0,none⟩))
 c3:w.cell? ⟨ms,3,none⟩=some (.pointer (some ⟨sb,0,none⟩))
 f0:w.frozen? ⟨ms,0,none⟩=false
 f1:w.frozen? ⟨ms,1,none⟩=false
 f2:w.frozen? ⟨ms,2,none⟩=false
 tab:cL w G tb D
 seen:cF w sb S
 ne:ms≠sb
 apart:∀j,G j->j≠ms/\j≠sb
def dY (w:World) (G:Nat->Prop) (ms sb:Nat) (lo hi:ByteArray) (D:List Pr) (S:Int->Option An):Prop:=∃tb,iL w G ms tb sb lo hi D S
section
variable {w w':World} {G T:Nat->Prop} {ms tb sb:Nat} {lo hi:ByteArray} {D:List Pr} {S:Int->Option An}
theorem iL.kept (h:iL w G ms tb sb lo hi D S) (g:aj T w w') (h1:∀j,G j->¬T j) (h2:¬T ms) (h3:¬T sb):iL w' G ms tb sb lo hi D S where
 c0:=(g.cell (aN h.c0) h2 0).trans h.c0
 c1:=(g.cell (aN h.c0) h2 1).trans h.c1
 c2:=(g.cell (aN h.c0) h2 2).trans h.c2
 c3:=(g.cell (aN h.c0) h2 3).trans h.c3
 f0:=(g.frozen (aN h.c0) h2 0).trans h.f0
 f1:=(g.frozen (aN h.c0) h2 1).trans h.f1
 f2:=(g.frozen (aN h.c0) h2 2).trans h.f2
 tab:=h.tab.kept g h1
 seen:=h.seen.kept g h3
 ne:=h.ne
 apart:=h.apart
theorem dY.kept (h:dY w G ms sb lo hi D S) (g:aj T w w') (h1:∀j,G j->¬T j) (h2:¬T ms) (h3:¬T sb):dY w' G ms sb lo hi D S:=by
 obtain ⟨tb,h⟩:=h
 exact ⟨tb,h.kept g h1 h2 h3⟩
theorem dY.ag (h:dY w G ms sb lo hi D S) (g:ae w w'):dY w' G ms sb lo hi D S:=h.kept (g.only fun _=>False) (fun _ _ h=>h) (fun h=>h) (fun h=>h)
theorem dY.lt (h:dY w G ms sb lo hi D S):ms<w.heap.size/\sb<w.heap.size/\∀j,G j->j<w.heap.size:=by
 obtain ⟨tb,h⟩:=h
 exact ⟨aN h.c0,h.seen.lt,h.tab.lt⟩
end
def oG (w:World) (G:Nat->Prop) (ms sb:Nat) (lo hi:ByteArray) (D:List Pr) (S:Int->Option An) (w':World):Prop:=
 aj (fun j=>j=ms\/j=sb\/G j) w w'/\∃G',dY w' G' ms sb lo hi D S/\∀j,G' j->G j\/w.heap.size<=j
theorem oG.b9 {w w':World} {G:Nat->Prop} {ms sb:Nat} {lo hi:ByteArray} {D:List Pr} {S:Int->Option An} (h:dY w G ms sb lo hi D S) (g:ae w w'):oG w G ms sb lo hi D S w':=⟨g.only _,G,h.ag g,fun _ hj=> .inl hj⟩
theorem z1U (w:World) (lo hi:ByteArray) (T1 T2:TypeId):dY (((w.alloc (.cells #[.slice none 0 0] T1)).alloc (.cells #[.int .i64 0,.int .i64 0,.int .i64 0,.int .i64 0,.int .i64 0,.int .i64 0,.int .i64 0,.int .i64 0,.int .i64 0,.int .i64 0,.int .i64 0,.int .i64 0,.int .i64 0,.int .i64 0,.int .i64 0] T2)).alloc (.cells #[.string lo,.string hi,.pointer (some ⟨w.heap.size,0,none⟩),.pointer (some ⟨w.heap.size+1,0,none⟩)] 126)) (fun j=>j=w.heap.size) (w.heap.size+1+1) (w.heap.size+1) lo hi [] (fun _=>none):=by
 have hA:cL (w.alloc (.cells #[.slice none 0 0] T1)) (fun j=>j=w.heap.size) w.heap.size []:=⟨.slice none 0 0,by simp [go_sem],by simp [go_sem],World.ownsRow_nil _ _ _ _,rfl,(fun g h=>by cases h),fun j hj=>by rw [hj];simp⟩
 have hB:=cF.new (w.alloc (.cells #[.slice none 0 0] T1)) T2
 have hs:(w.alloc (.cells #[.slice none 0 0] T1)).heap.size=w.heap.size+1:=by simp
 rw [hs] at hB
 refine ⟨w.heap.size,by simp [go_sem],by simp [go_sem],by simp [go_sem],by simp [go_sem],by simp [go_sem],by simp [go_sem],by simp [go_sem],(hA.ag ((ae.rf _).alloc _)).ag ((ae.rf _).alloc _),hB.ag ((ae.rf _).alloc _),by omega,fun j hj=>⟨by omega,by omega⟩⟩
theorem z3h (w:World) (lo hi:ByteArray):
    Calls Tryz.prog 70 #[.agg #[.string lo,.string hi]] w fun e w'=>∃ms sb G,e=.returned (.pointer (some ⟨ms,0,none⟩))/\dY w' G ms sb lo hi [] (fun _=>none)/\w.heap.size<=ms/\w.heap.size<=sb/\(∀j,G j->w.heap.size<=j)/\ae w w':=by
 go_in
 go_wp2_with fail
 go_ret
 have h:=z1U (w.alloc (.cells #[.string lo,.string hi] 23)) lo hi 100 212
 have hs:(w.alloc (.cells #[.string lo,.string hi] 23)).heap.size=w.heap.size+1:=by simp
 rw [hs] at h
 exact ⟨_,_,_,rfl,h,by omega,by omega,fun j hj=>by omega,((((ae.rf w).alloc _).alloc _).alloc _).alloc _⟩
end
section
open Go.RowKit Go.Maps
attribute [local go_sem] Oper.semAt_some aT
def Pj (y:World) (f:Nat->Value) (x:World):Prop:=∃cb Fc,f 0=.pointer (some ⟨cb,0,none⟩)/\bo x Fc cb []/\∀j,Fc j->y.heap.size<=j
def Iw (y:World) (f:Nat->Value) (x:World):Prop:=∃db Gs,f 2=.pointer (some ⟨db,0,none⟩)/\jI x Gs db 0 (fun _=>none)/\∀j,Gs j->y.heap.size<=j
def Ix (y:World) (f:Nat->Value) (x:World):Prop:=∃cb Fc db Gs,f 0=.pointer (some ⟨cb,0,none⟩)/\bo x Fc cb []/\(∀j,Fc j->y.heap.size<=j)/\f 2=.pointer (some ⟨db,0,none⟩)/\jI x Gs db 0 (fun _=>none)/\(∀j,Gs j->y.heap.size<=j)/\∀j,Fc j->¬Gs j
structure pV (y:World) (L:Nat->Bool) (f:Nat->Value) (x:World):Prop where
 ag:ae y x
 tab:L 0=true->Pj y f x
 seen:L 2=true->Iw y f x
 both:L 0=true->L 2=true->Ix y f x
theorem pV.one {y x x':World} {L:Nat->Bool} {f:Nat->Value} (h:pV y L f x) (hL:L 0=false) {cb:Nat} {Fc:Nat->Prop} (hT:bo x' Fc cb []) (hF:∀j,Fc j->x.heap.size<=j) (g:ae x x'):
    pV y (plus L 0) (bB f 0 (.pointer (some ⟨cb,0,none⟩))) x':=by
 have hF2:∀j,Fc j->y.heap.size<=j:=fun j hj=>zQ0 h.ag.size (hF j hj)
 have hs:plus L 0 2=true->L 2=true:=fun h=>by rwa [rq (by decide)] at h
 refine ⟨h.ag.trans g,fun _=>⟨cb,Fc,fT _ _ _,hT,hF2⟩,fun h2=>?_,fun _ h2=>?_⟩
 · obtain ⟨db,Gs,e,hS,hG⟩:=h.seen (hs h2)
   exact ⟨db,Gs,by rw [gg (by decide)];exact e,hS.ag g,hG⟩
 · obtain ⟨db,Gs,e,hS,hG⟩:=h.seen (hs h2)
   exact ⟨cb,Fc,db,Gs,fT _ _ _,hT,hF2,by rw [gg (by decide)];exact e,hS.ag g,hG,fun j hj FN=>by have:=hF j hj;have:=hS.lt j FN;omega⟩
theorem pV.two {y x x':World} {L:Nat->Bool} {f:Nat->Value} (h:pV y L f x) (hL:L 2=false) {db:Nat} {Gs:Nat->Prop} (hT:jI x' Gs db 0 (fun _=>none)) (hF:∀j,Gs j->x.heap.size<=j) (g:ae x x'):
    pV y (plus L 2) (bB f 2 (.pointer (some ⟨db,0,none⟩))) x':=by
 have hF2:∀j,Gs j->y.heap.size<=j:=fun j hj=>zQ0 h.ag.size (hF j hj)
 have hs:plus L 2 0=true->L 0=true:=fun h=>by rwa [rq (by decide)] at h
 refine ⟨h.ag.trans g,fun h2=>?_,fun _=>⟨db,Gs,fT _ _ _,hT,hF2⟩,fun h2 _=>?_⟩
 · obtain ⟨cb,Fc,e,hS,hG⟩:=h.tab (hs h2)
   exact ⟨cb,Fc,by rw [gg (by decide)];exact e,hS.ag g,hG⟩
 · obtain ⟨cb,Fc,e,hS,hG⟩:=h.tab (hs h2)
   exact ⟨cb,Fc,db,Gs,by rw [gg (by decide)];exact e,hS.ag g,hG,fT _ _ _,hT,hF2,fun j hj FN=>by have:=hF j FN;have:=nP hS j hj;omega⟩
theorem z4f:Pl.bf ⟨#[]⟩ ⟨#[]⟩=true:=by kernel_rfl
theorem wh (S:Nat->Bool) (E:Nat->Addr) (hS:jP S) (lo hi:ByteArray) (w:World) (hl:lo.size<=70368744177664) (hh:hi.size<=70368744177664) (hE:aY S E w) (hr:Pl.bf lo hi=true) (BC:Pl.Good []):
    Calls Tryz.prog 42 #[.agg #[.string lo,.string hi]] w fun e w'=>∃cb Gt Gs,e=.returned (.tuple #[.pointer (some ⟨cb,0,none⟩),.nilIface])/\cY w' Gt Gs cb 0 lo hi [] (fun _=>none)/\(∀j,Gt j->w.heap.size<=j)/\(∀j,Gs j->w.heap.size<=j)/\w.heap.size<=cb/\ae w w':=by
 have HR:=af (fun W (g:ae w W)=>jm S E hS lo hi W hl hh (hE.ag g))
 rw [hr] at HR
 have HG:=af BC
 clear hE hr BC hS hl hh
 go_in
 go_wp2_with fail
 refine (HR.out _ ((ae.rf w).alloc _)).mono ?_
 rintro e w1 ⟨rfl,aA⟩
 have bI:=af (((ae.rf w).alloc _).trans aA)
 have C0:=aU (w:=w1) (show w1.cell? ⟨w.heap.size,0,none⟩=some (.string lo) from (aA.cells.1 _ _ (by simp)).trans (by simp [go_sem]))
 have C1:=aU (w:=w1) (show w1.cell? ⟨w.heap.size,1,none⟩=some (.string hi) from (aA.cells.1 _ _ (by simp)).trans (by simp [go_sem]))
 clear HR aA
 go_wp2_with fail
 refine kW 3 [0,2] (ae w1) Eq (pV w1) (fun f a=>(a.put (some 8) (f 0)).put (some 10) (f 2)) (by kernel_rfl) (by kernel_rfl) (fun _ _=>rfl) ⟨(ae.rf w1).drew,(fun h=>by cases h),(fun h=>by cases h),(fun h=>by cases h)⟩ (fun _ _ _ h=>h.ag) (fun _=>rfl) (fun _ _ _ _ h g=>g▸h) ?_
 repeat (first
  | refine kV ?_
  | (refine fF ?_;intro K hK;go_big_quiet_op;go_big_quiet_on)
  | (refine fE ?_;simp only [Act.put,sA,sB,sC]))
 refine iH (by rfl) ⟨⟨bH rfl (fun _ a=>a) (fun _ _=>rfl) (fun _=>rfl) ?_,bH rfl (fun f a=>a.put (some 8) (f 0)) (fun _ _=>rfl) (fun _=>rfl) ?_,trivial⟩,?_⟩
 · intro L f x hJ hL hd
   have HJ:=af hJ
   have HL:=af hL
   clear hJ hL hd C0 C1
   go_simp
   refine (LS x).mono ?_
   rintro e x' ⟨rfl,hg,hT⟩
   exact ⟨_,rfl,HJ.out.one HL.out hT (fun j hj=>by rw [hj];exact zZ3 _) hg⟩
 · intro L f x hJ hL hd
   have HJ:=af hJ
   have HL:=af hL
   clear hJ hL hd C0 C1
   go_simp
   refine (uV x).mono ?_
   rintro e x' ⟨sb,F,rfl,hT,hF,hg⟩
   exact ⟨_,rfl,HJ.out.two HL.out hT hF hg⟩
 intro f x hJ
 obtain ⟨cb,Fc,db,Gs,e0,hT,hF,e2,hS,bD,Iy⟩:=hJ.both rfl rfl
 have hgx:=hJ.ag
 have HF:Hid (cY (x.alloc (.cells #[.pointer (some ⟨cb,0,none⟩),.string lo,.string hi,.pointer (some ⟨db,0,none⟩)] 134)) Fc Gs x.heap.size 0 lo hi [] (fun _=>none)/\ae w (x.alloc (.cells #[.pointer (some ⟨cb,0,none⟩),.string lo,.string hi,.pointer (some ⟨db,0,none⟩)] 134))/\w.heap.size<=x.heap.size/\(∀j,Fc j->w.heap.size<=j)/\∀j,Gs j->w.heap.size<=j):=by
  have gA:ae x (x.alloc (.cells #[.pointer (some ⟨cb,0,none⟩),.string lo,.string hi,.pointer (some ⟨db,0,none⟩)] 134)):=(ae.rf x).alloc _
  have gW:=bI.out.trans hgx
  refine ⟨⟨cb,db,by simp [go_sem],by simp [go_sem],by simp [go_sem],by simp [go_sem],fun i=>by simp [go_sem],hT.ag gA,hS.ag gA,HG.out,fun j hj=>⟨Iy j hj,fun e=>?_⟩,fun j hj e=>?_⟩,gW.trans gA,gW.size,fun j hj=>zQ0 bI.out.size (hF j hj),fun j hj=>zQ0 bI.out.size (bD j hj)⟩
  · have:=nP hT j hj;omega
  · have:=hS.lt j hj;omega
 clear hT hF hS bD Iy hgx hJ C0 C1
 dsimp only [List.drop]
 simp only [Act.put,sA,sC,sB]
 rw [e0,e2]
 clear e0 e2
 go_wp2_with fail
 go_ret2
 exact ⟨_,Fc,Gs,rfl,HF.out.1,HF.out.2.2.2.1,HF.out.2.2.2.2,HF.out.2.2.1,HF.out.2.1⟩
end
section
open Go.RowKit Go.Maps
end
section
open Go.RowKit Go.Maps
attribute [local go_sem] Oper.semAt_some
structure sI (y:World) (A C:List Value) (k n:Nat) (L:Nat->Bool) (f:Nat->Value) (x:World):Prop where
 ag:ae y x
 o8:L 6=true->L 1=true
 Dr:L 11=true->L 6=true
 r1:L 1=true->L 6=false->x.ownsRow y.heap.size 80 3 (f 1) 0 []
 r8:L 6=true->L 11=false->x.ownsRow y.heap.size 80 3 (f 6) k A
 r16:L 11=true->x.ownsRow y.heap.size 80 3 (f 11) n (A++C)
section
variable {y x x':World} {A C:List Value} {k n:Nat} {L:Nat->Bool} {f:Nat->Value}
theorem sI.start (y:World):sI y A C k n (fun _=>false) f y.drew:=
 ⟨(ae.rf y).drew,(fun h=>by cases h),(fun h=>by cases h),(fun h=>by cases h),(fun h=>by cases h),(fun h=>by cases h)⟩
theorem sI.s1 (h:sI y A C k n L f x) (hL:L 1=false):sI y A C k n (plus L 1) (bB f 1 (.slice (some ⟨x.heap.size,0,none⟩) 0 0)) (x.alloc (.cells #[] 80)):=by
 have l8:L 6=false:=qY fun h8=>by rw [h.o8 h8] at hL;cases hL
 have zH:L 11=false:=qY fun iA=>by rw [h.Dr iA] at l8;cases l8
 refine ⟨h.ag.alloc _,fun _=>rfl,h.Dr,fun _ _=>?_,fun h8=>?_,fun iA=>?_⟩
 · exact ⟨rfl,.inr ⟨x.heap.size,0,#[],rfl,h.ag.size,heap_alloc_new x _,zZ3 _,Nat.zero_le _,rfl,rfl⟩⟩
 · change L 6=true at h8;rw [l8] at h8;cases h8
 · change L 11=true at iA;rw [zH] at iA;cases iA
theorem sI.s8 (h:sI y A C k n L f x) (hL:L 6=false) (h1:L 1=true) {r:Value} (aI:x'.ownsRow y.heap.size 80 3 r k A) (hg:x.grownBy x' (f 1).ownBlock):sI y A C k n (plus L 6) (bB f 6 r) x':=by
 have zH:L 11=false:=qY fun iA=>by rw [h.Dr iA] at hL;cases hL
 have hr1:=h.r1 h1 hL
 have hG:ae y x':=((h.ag.only _).then (aj.of_grownBy hg)).ag fun j hj=>(hr1.lt j hj.symm).1
 refine ⟨hG,fun _=>h1,fun iA=>?_,(fun _ h8=>by cases h8),fun _ _=>aI,fun iA=>?_⟩
 · change L 11=true at iA;rw [zH] at iA;cases iA
 · change L 11=true at iA;rw [zH] at iA;cases iA
theorem sI.OW (h:sI y A C k n L f x) (hL:L 11=false) (h8:L 6=true) {r:Value} (aI:x'.ownsRow y.heap.size 80 3 r n (A++C)) (hg:x.grownBy x' (f 6).ownBlock):sI y A C k n (plus L 11) (bB f 11 r) x':=by
 have hG:ae y x':=((h.ag.only _).then (aj.of_grownBy hg)).ag fun j hj=>((h.r8 h8 hL).lt j hj.symm).1
 refine ⟨hG,h.o8,fun _=>h8,fun _ Ds=>?_,(fun _ iA=>by cases iA),fun _=>aI⟩
 change L 6=false at Ds;rw [h8] at Ds;cases Ds
end
theorem Wl {w:World} {G G2:Nat->Prop} {tb ob:Nat} {xs ys:List Pr} (h:cL w G tb xs) (h2:cL w G2 ob ys) (hx:xs.length<=500000) (hy:ys.length<=500000) (hno:∀p∈ys,b7 (Pl.isK p.key) xs= -1):
    Calls Tryz.prog 58 #[.pointer (some ⟨tb,0,none⟩),.pointer (some ⟨ob,0,none⟩)] w fun e w'=>e=.returned (.int .i64 0)/\lM w G tb (xs++ys) w':=by
 have HF:=af (fun W (g:ae w W) k=>OD (h.ag g).read (by omega) k)
 obtain ⟨v,h⟩:=h
 obtain ⟨a,cap,rfl,hA⟩:=lJ h.row
 obtain ⟨v2,h2⟩:=h2
 obtain ⟨a2,cap2,rfl,hA2⟩:=lJ h2.row
 have c0:=h.c0
 have c2:=h2.c0
 have dR:=aN c0
 have gL:=aN c2
 have HS:=af (FE h.row)
 have dt:=af (FE h2.row)
 have HH:=af h
 have HA:=af hA
 have Ms:=af hA2
 have yJ:=af hno
 have hyI:(ys.length:Int)<=500000:=by omega
 clear h h2 hA hA2 hno
 go_in
 go_wp2_with fail
 go_loopw [12] (fun i wr=>∃k:Nat,k<=ys.length/\i=.int .i64 k/\Hid (ae w wr)) (fun i _=>ys.length - (intOf i).toNat)
 case atStart=>exact ⟨0,Nat.zero_le _,rfl,ae.rf w⟩
 case round=>
  obtain ⟨k,hk1,rfl,HG⟩:=hrel
  obtain ⟨wo,rfl⟩:∃wo:World,wo=wr:=⟨_,rfl⟩
  by_cases aq:k<ys.length
  · rcases Ms.out with h0 | ⟨b,off,rfl,hb,hR⟩
    · rw [h0] at aq;simp at aq
    have q0:=(HG.out.cells.1 _ _ hb).trans (hR.key k aq)
    have q1:=(HG.out.cells.1 _ _ hb).trans (hR.val k aq)
    have q2:=(HG.out.cells.1 _ _ hb).trans (hR.di k aq)
    have hi:=yJ.out (ay ys k) (by rw [jt ys k aq];exact zQ5 aq)
    have Re:=af (fun W (g:ae w W)=>HF.out W g (ay ys k).key)
    rw [hi] at Re
    clear hR hi
    generalize ay ys k=e at *
    obtain ⟨ek,ev,en⟩:=e
    dsimp only at *
    go_wp2_with fail
    refine (Re.out _ (HG.out.alloc _)).mono ?_
    rintro r w1 ⟨rfl,aA⟩
    have bI:=af ((HG.out.alloc _).trans aA)
    clear aA Re q0 q1 q2
    go_wp2_with fail
    go_roundw
    case rel=>exact ⟨k+1,by omega,by go_num,bI⟩
    case measure=>simp [intOf];omega
  · obtain rfl:k=ys.length:=by omega
    have C0:=aU ((HG.out.cells.1 _ _ dR).trans c0)
    have C2:=aU ((HG.out.cells.1 _ _ gL).trans c2)
    obtain ⟨nx,hnx⟩:∃nx,nx=xs.length:=⟨_,rfl⟩
    have kg:=af hnx
    rw [<-hnx] at C0 hx
    clear hnx
    go_upto_region 7 with fail
    refine gJ 12 [1,6,11] (ae wo) Eq (sI wo (bM xs) (bM ys) nx (nx+ys.length)) (fun f a=>((a.put (some 23) (f 1)).put (some 28) (f 6)).put (some 33) (f 11)) (by kernel_rfl) (by kernel_rfl) (fun _ _=>rfl) (sI.start wo) (fun L f x h=>h.ag) (fun _=>rfl) (fun _ _ _ _ h g=>g▸h) ?_
    repeat (first
     | refine gy ?_
     | (refine gB ?_;intro K hK;go_big_quiet_op;go_big_quiet_on)
     | (refine gz ?_;simp only [Act.put,sA,sB,sC]))
    refine jX (by rfl) ⟨⟨bH rfl (fun _ a=>a) (fun _ _=>rfl) (fun _=>rfl) ?_,bH rfl (fun f a=>a.put (some 23) (f 1)) (fun _ _=>rfl) (fun _=>rfl) ?_,bH rfl (fun f a=>a.put (some 28) (f 6)) (fun _ _=>rfl) (fun _=>rfl) ?_,trivial⟩,?_⟩
    · intro L f x hJ hL hd
      have hm:=af (hJ.s1 hL)
      clear C0 C2 hJ
      go_simp
      exact hm.out
    · intro L f x hJ hL hd
      clear C0 C2
      have h1:=hd 1 rfl (by decide)
      refine yx _ _ rfl (B:=wo.heap.size) (v:=f 1) (m:=0) (ys:=[]) (xs:=xs) rfl (hJ.r1 h1 hL) (ao:=a) (n:=nx) (cap:=cap) rfl kg.out (HA.out.ag (HG.out.trans hJ.ag)) HS.out (by omega) hJ.ag.size ?_
      intro r x' aI hgr how
      refine hJ.s8 hL h1 ?_ hgr
      simpa using aI
    · intro L f x hJ hL hd
      clear C0 C2
      have h8:=hd 6 rfl (by decide)
      refine yx _ _ rfl (B:=wo.heap.size) (v:=f 6) (m:=nx) (ys:=xs) (xs:=ys) rfl (hJ.r8 h8 hL) (ao:=a2) (n:=ys.length) (cap:=cap2) rfl rfl (Ms.out.ag (HG.out.trans hJ.ag)) dt.out (by omega) hJ.ag.size ?_
      intro r x' aI hgr how
      refine hJ.OW hL h8 ?_ hgr
      rw [jZ] at aI
      exact aI
    rintro f x hJ
    clear C0 C2
    have r16:=hJ.r16 rfl
    have hform:∃a' cap',f 11=.slice a' (nx+ys.length) cap':=by
     rcases r16.2 with ⟨h1,h2⟩ | ⟨g',c',cur,h1,_⟩
     · have hz:=r16.1
       rw [h2] at hz
       simp at hz
       rw [h1]
       exact ⟨none,0,by first | rw [hz] | (rw [<-hz]) | simp_all⟩
     · exact ⟨_,_,h1⟩
    obtain ⟨a',cap',e16⟩:=hform
    rw [e16] at r16
    rw [e16]
    have ju:=HG.out.trans hJ.ag
    have HK:=HH.out.kept (ju.only fun _=>False) (fun _ _ h=>h)
    have cx:=HK.c0
    have fx:=HK.f0
    have Ig:=aN cx
    have dS:Hid (lM w G tb (xs++ys) (x.setCell ⟨tb,0,none⟩ (.slice a' (nx+ys.length) cap'))):=by
     refine HH.out.store (ju.only _) ⟨_,cx⟩ fx ?_ fun g hg=>?_
     · have hl:(xs++ys).length=nx+ys.length:=by rw [zX8,kg.out]
       rw [hl,jZ]
       exact Fy (Nat.zero_le _) r16
     · have h1:=r16.lt g hg
       have h2:=HG.out.size
       exact ⟨.inr (by omega),by omega,h1.2⟩
    clear hJ e16 r16 HK ju
    dsimp only [List.drop]
    go_wp2_with fail
    all_goals (go_ret;exact ⟨rfl,dS.out⟩)
end
section
open Go.RowKit Go.Maps
attribute [local go_sem] Oper.semAt_some aT
structure Rh (w:World) (v:ByteArray×ByteArray) (s:Nat) (f:Nat->Value) (u:World):Prop where
 ag:ae w u
 box:1<=s->∃bb,f 12=.pointer (some ⟨bb,0,none⟩)/\w.heap.size<=bb/\bb<u.heap.size/\(∃a,u.cell? ⟨bb,0,none⟩=some a)/\(∃a,u.cell? ⟨bb,1,none⟩=some a)/\u.frozen? ⟨bb,0,none⟩=false/\u.frozen? ⟨bb,1,none⟩=false/\(2<=s->u.cell? ⟨bb,0,none⟩=some (.string v.1)/\u.cell? ⟨bb,1,none⟩=some (.string v.2))
theorem z0r {w:World} {G G2:Nat->Prop} {ms tb sb mo wzz so:Nat} {lo hi pO hi2:ByteArray} {D D2:List Pr} {S S2:Int->Option An} (h:iL w G ms tb sb lo hi D S) (k:iL w G2 mo wzz so pO hi2 D2 S2) (hap:∀j,(j=ms\/j=sb\/G j)->¬(j=mo\/j=so\/G2 j)) (hx:D.length<=100000) (hy:D2.length<=100000) (hno:∀p∈D2,b7 (Pl.isK p.key) D= -1) (h1:lo.size<=300) (h2:hi.size<=300) (h3:pO.size<=300) (h4:hi2.size<=300) (hz:Pl.aK (Pl.dV lo hi) (Pl.dV pO hi2) lo hi pO hi2=0):
    Calls Tryz.prog 92 #[.pointer (some ⟨ms,0,none⟩),.pointer (some ⟨mo,0,none⟩)] w fun e w'=>e=.returned (.int .i64 0)/\oG w G ms sb (Pl.aH (Pl.dV lo hi) (Pl.dV pO hi2) lo hi pO hi2).1 (Pl.aH (Pl.dV lo hi) (Pl.dV pO hi2) lo hi pO hi2).2 (D++D2) (dI S S2 5) w':=by
 have HJ:=af (fun W=>Rc lo hi pO hi2 W (by omega) (by omega) (by omega) (by omega))
 unfold MQ at HJ
 rw [hz] at HJ
 generalize Pl.aH (Pl.dV lo hi) (Pl.dV pO hi2) lo hi pO hi2=v at *
 have C0:=aU h.c0
 have C1:=aU h.c1
 have K0:=aU k.c0
 have K1:=aU k.c1
 have H:=af h
 have K:=af k
 have lh:=af hap
 have yJ:=af hno
 clear h k hap hno hz
 have O3:=af (fun W (g:ae w W)=>(HJ.out W).mono fun e w' q=>q)
 go_in
 go_upto_region 1 with fail
 refine kW 14 [12,13] (ae w) ae (JC [12,13] (Rh w v)) (fun f a=>a.put (some 5) (f 12)) (by kernel_rfl) (by kernel_rfl) (fun _ _=>rfl) (JC.start ⟨(ae.rf w).drew,fun e=>by omega⟩) (fun _ _ _ h=>by obtain ⟨s,_,_,h⟩:=h.ex;exact h.ag) ae.rf (fun L f x x' h g=>?_) ?_
 · obtain ⟨s,e1,e2,e3⟩:=h.ex
   refine ⟨s,e1,e2,e3.ag.trans g,fun q=>?_⟩
   obtain ⟨bb,a1,a2,a3,⟨_,a4⟩,⟨_,a5⟩,a6,a7,a8⟩:=e3.box q
   exact ⟨bb,a1,a2,ltT a3 g.size,⟨_,(g.cells.1 _ _ a3).trans a4⟩,⟨_,(g.cells.1 _ _ a3).trans a5⟩,(g.cells.2 _ _ a3).trans a6,(g.cells.2 _ _ a3).trans a7,fun r=>⟨(g.cells.1 _ _ a3).trans (a8 r).1,(g.cells.1 _ _ a3).trans (a8 r).2⟩⟩
 repeat (first
  | refine kV ?_
  | (refine fF ?_;intro K hK;go_big_quiet_op;go_big_quiet_on)
  | (refine zq (fun _=>by kernel_rfl) (fun u hu=>O3.out u hu) ?_;simp only [Act.put,sA,sB,sC])
  | (refine fE ?_;simp only [Act.put,sA,sB,sC]))
 refine iH (by rfl) ⟨⟨bH rfl (fun _ a=>a) (fun _ _=>rfl) (fun _=>rfl) ?_,bH rfl (fun f a=>a.put (some 5) (f 12)) (fun _ _=>rfl) (fun _=>rfl) ?_,trivial⟩,?_⟩
 · intro L f u hJ hL hd
   have hp:∀k,0=k+1->∃i',([12,13]:List Nat)[k]? =some i'/\L i'=true:=fun k e=>by omega
   have HM:=af (hJ.stage 0 12 rfl hL hp).2
   have dH:=af (fun u' v' (h:Rh w v 1 (bB f 12 v') u')=>hJ.put (by decide) 0 12 rfl hL hp h)
   clear hJ hL hd hp C0 C1 K0 K1
   go_simp
   exact dH.out _ _ ⟨HM.out.ag.alloc _,fun _=>⟨u.heap.size,fT _ _ _,HM.out.ag.size,by simp,⟨.string ⟨#[]⟩,by simp [go_sem]⟩,⟨.string ⟨#[]⟩,by simp [go_sem]⟩,by simp [go_sem],by simp [go_sem],fun e=>by omega⟩⟩
 · intro L f u hJ hL hd
   have hp:∀k,1=k+1->∃i',([12,13]:List Nat)[k]? =some i'/\L i'=true:=fun k e=>by obtain rfl:k=0:=(by omega);exact ⟨12,rfl,hd 12 rfl (by decide)⟩
   have HM:=af (hJ.stage 1 13 rfl hL hp).2
   have dH:=af (fun u' v' (h:Rh w v 2 (bB f 13 v') u')=>hJ.put (by decide) 1 13 rfl hL hp h)
   obtain ⟨bb,e1,b1,b2,⟨x3,b3⟩,⟨x4,b4⟩,b5,b6,_⟩:=HM.out.box (zZ3 _)
   have HE1:=af e1
   clear hJ hL hd hp C0 C1 K0 K1
   rw [e1]
   clear e1
   go_simp
   refine dH.out _ _ ⟨(HM.out.ag.setCell b1 _).setCell b1 _,fun _=>⟨bb,by rw [gg (by decide)];exact HE1.out,b1,by simp;exact b2,⟨.string v.1,by simp [go_sem,b3]⟩,⟨.string v.2,by simp [go_sem,b4]⟩,by simp [go_sem,b5],by simp [go_sem,b6],fun _=>⟨by simp [go_sem,b3],by simp [go_sem,b4]⟩⟩⟩
 intro f u hJ
 have hM:=hJ.done (fun i hi=>by simpa using hi)
 obtain ⟨bb,e1,b1,b2,_,_,_,_,b8⟩:=hM.box (show 1<=2 from by omega)
 obtain ⟨b3,b4⟩:=b8 (zZ3 2)
 have kJ:=af hM.ag
 clear hJ hM b8 C0 C1 K0 K1
 dsimp only [List.drop]
 simp only [Act.put,sA,sC,sB]
 rw [e1]
 clear e1
 have yI:ms<w.heap.size:=aN H.out.c0
 have hmo:mo<w.heap.size:=aN K.out.c0
 have m0:=(kJ.out.cells.1 _ 0 yI).trans H.out.c0
 have m1:=(kJ.out.cells.1 _ 1 yI).trans H.out.c1
 have z0:=(kJ.out.cells.2 _ 0 yI).trans H.out.f0
 have z1:=(kJ.out.cells.2 _ 1 yI).trans H.out.f1
 have hbm:¬bb=ms:=by omega
 have m2:=(kJ.out.cells.1 _ 2 yI).trans H.out.c2
 have m3:=(kJ.out.cells.1 _ 3 yI).trans H.out.c3
 have k2:=(kJ.out.cells.1 _ 2 hmo).trans K.out.c2
 have k3:=(kJ.out.cells.1 _ 3 hmo).trans K.out.c3
 have f2:=(kJ.out.cells.2 _ 2 yI).trans H.out.f2
 have hmm:¬mo=ms:=fun e=>lh.out ms (.inl rfl) (.inl e.symm)
 go_upto_region 5 with fail
 obtain ⟨Z,hZ⟩:∃Z,Z=(u.setCell ⟨ms,0,none⟩ (.string v.1)).setCell ⟨ms,1,none⟩ (.string v.2):=⟨_,rfl⟩
 have hO:aj (fun j=>j=ms) u Z:=by rw [hZ];exact (aj.setCell u ⟨ms,0,none⟩ _).then (aj.setCell _ ⟨ms,1,none⟩ _)
 have d0:Z.cell? ⟨ms,0,none⟩=some (.string v.1):=by rw [hZ];simp [go_sem,m0]
 have d1:Z.cell? ⟨ms,1,none⟩=some (.string v.2):=by rw [hZ];simp [go_sem,m1]
 have d2:Z.cell? ⟨ms,2,none⟩=some (.pointer (some ⟨tb,0,none⟩)):=by rw [hZ];simp [go_sem,m2]
 have d3:Z.cell? ⟨ms,3,none⟩=some (.pointer (some ⟨sb,0,none⟩)):=by rw [hZ];simp [go_sem,m3]
 have q2:Z.cell? ⟨mo,2,none⟩=some (.pointer (some ⟨wzz,0,none⟩)):=(hO.cell (ltT hmo kJ.out.size) hmm 2).trans k2
 have q3:Z.cell? ⟨mo,3,none⟩=some (.pointer (some ⟨so,0,none⟩)):=(hO.cell (ltT hmo kJ.out.size) hmm 3).trans k3
 have J1:Z.frozen? ⟨ms,0,none⟩=false:=by rw [hZ,World.frozen?_setCell,World.frozen?_setCell];exact z0
 have J2:Z.frozen? ⟨ms,1,none⟩=false:=by rw [hZ,World.frozen?_setCell,World.frozen?_setCell];exact z1
 have J4:Z.frozen? ⟨ms,2,none⟩=false:=by rw [hZ,World.frozen?_setCell,World.frozen?_setCell];exact f2
 rw [<-hZ]
 clear hZ m0 m1 z0 z1 b3 b4 m2 m3 k2 k3 f2
 have HO:=af (show aj (fun j=>j=ms) w Z from (kJ.out.only _).then hO)
 have HD:=af (And.intro d0 (And.intro d1 (And.intro d2 (And.intro d3 (And.intro J1 (And.intro J2 J4))))))
 have HQ:=af q3
 have tH:=af (H.out.tab.kept HO.out (fun j hj e=>(H.out.apart j hj).1 e))
 have tz:=af (K.out.tab.kept HO.out (fun j hj e=>lh.out ms (.inl rfl) (.inr (.inr (by rw [<-e];exact hj)))))
 have nS:=af (H.out.seen.kept HO.out (fun e=>H.out.ne e.symm))
 have dt:=af (K.out.seen.kept HO.out (fun e=>lh.out ms (.inl rfl) (.inr (.inl e.symm))))
 have D2':=aU d2
 have Q2:=aU q2
 have BU:=aN d0
 clear hO d0 d1 d2 d3 q2 q3 J1 J2 J4
 refine lH 8 (by kernel_rfl) (by kernel_rfl) (fun _ _=>rfl) ?_
 repeat (first
  | (refine fF ?_;intro K hK;go_big_quiet_op;go_big_quiet_on)
  | (refine fE ?_;simp only [Act.put,sA,sB,sC]))
 refine iH (by rfl) fun w2 g2=>?_
 clear D2' Q2
 dsimp only [List.drop]
 go_wp2_with fail
 refine (Wl (tH.out.ag g2) (tz.out.ag g2) (by omega) (by omega) yJ.out).mono ?_
 rintro r w3 ⟨rfl,mV,G3,Wq,km⟩
 have ia:sb<w.heap.size:=H.out.seen.lt
 have hwZ:=HO.out.size
 have EG:=g2.size
 have rE:∀j,G j->j≠ms/\j≠sb:=H.out.apart
 have BV:aj G Z w3:=(g2.only G).then mV
 have e3:w3.cell? ⟨ms,3,none⟩=some (.pointer (some ⟨sb,0,none⟩)):=(BV.cell BU (fun q=>(rE ms q).1 rfl) 3).trans HD.out.2.2.2.1
 have n3:w3.cell? ⟨mo,3,none⟩=some (.pointer (some ⟨so,0,none⟩)):=(BV.cell (ltT hmo hwZ) (fun q=>lh.out mo (.inr (.inr q)) (.inl rfl)) 3).trans HQ.out
 have LB:=af BV
 have HT3:=af Wq
 have ey:=af km
 have HS3:=af (nS.out.kept BV (fun q=>(rE sb q).2 rfl))
 have HS4:=af (dt.out.kept BV (fun q=>lh.out so (.inr (.inr q)) (.inr (.inl rfl))))
 have hne:sb≠so:=fun e=>lh.out sb (.inr (.inl rfl)) (.inr (.inl e))
 have E3:=aU e3
 have N3:=aU n3
 clear BV mV Wq km e3 n3 rE
 go_upto_region 6 with fail
 refine lH 8 (by kernel_rfl) (by kernel_rfl) (fun _ _=>rfl) ?_
 repeat (first
  | (refine fF ?_;intro K hK;go_big_quiet_op;go_big_quiet_on)
  | (refine fE ?_;simp only [Act.put,sA,sB,sC]))
 refine iH (by rfl) fun w4 g4=>?_
 clear E3 N3
 dsimp only [List.drop]
 go_wp2_with fail
 refine (y9z (HS3.out.ag g4) (HS4.out.ag g4) hne).mono ?_
 rintro r w5 ⟨rfl,Ri,Ws⟩
 have h34:=LB.out.size
 have HF:Hid (oG w G ms sb v.1 v.2 (D++D2) (dI S S2 5) w5):=by
  obtain ⟨d0,d1,d2,d3,z0,z1,z2⟩:=HD.out
  have rE:=H.out.apart
  have Wu:∀j,G3 j->j≠ms/\j≠sb:=fun j hj=>by
   rcases ey.out j hj with q | q
   · exact rE j q
   · omega
  have o1:aj (fun j=>j=sb\/G j) Z w5:=(LB.out.mono fun j hj=> .inl (.inr hj)).then ((g4.only _).then (Ri.mono fun j hj=> .inl (.inl hj)))
  have hno:¬(ms=sb\/G ms):=fun q=>by
   rcases q with q | q
   · exact H.out.ne q
   · exact (rE ms q).1 rfl
  refine ⟨(HO.out.mono fun j hj=> .inl (.inl hj)).then (o1.mono fun j hj=> .inl (.inr hj)),G3,⟨tb,(o1.cell BU hno 0).trans d0,(o1.cell BU hno 1).trans d1,(o1.cell BU hno 2).trans d2,(o1.cell BU hno 3).trans d3,(o1.frozen BU hno 0).trans z0,(o1.frozen BU hno 1).trans z1,(o1.frozen BU hno 2).trans z2,(HT3.out.ag g4).kept Ri (fun j hj e=>(Wu j hj).2 e),Ws,H.out.ne,Wu⟩,fun j hj=>?_⟩
  rcases ey.out j hj with q | q
  · exact .inl q
  · exact .inr (by omega)
 clear Ri Ws
 go_wp2_with fail
 go_ret
 exact ⟨rfl,HF.out⟩
end
end Go.Proofs.YtbnofojapimfcaaGreatDoor
