/- Part 19 of the proof. -/
import Derived.Test.YtbnofojapimfcaaGreatDoorFinWatchStepsQ18
set_option linter.unusedVariables false
set_option linter.unusedSectionVars false
set_option linter.unusedSimpArgs false
set_option maxRecDepth 100000
set_option maxHeartbeats 16000000
namespace Go.Proofs.YtbnofojapimfcaaGreatDoor
section
open Go.RowKit Go.Maps
attribute [local go_sem] Oper.semAt_some aT
section
variable {S:Nat->Bool} (hS:fZ S) (E:Nat->Addr) {w:World} (hE:aY S E w) {F:Nat->Prop} {sb:Nat} {xs:List Sh} {used:Nat->Bool} {ne:Nat} {evs:List Value} (h:fh w F sb xs used ne evs) (hx:xs.length<=1000) (e:En) (hA:bG w e) (hkey:e.key.size<=70368744177664)
include hS hE h hx hA hkey
theorem Y4 (hne:ne<=1000000) (at':Int) (iy:Pl.eQ xs used e at'=true) (k2:e.kind=3) (i:Nat) (hi:i<xs.length) (hf:Pl.ax xs e.ai=(i:Nat)) (o1:1<=e.other) (o2:e.other<=12) (hcut:Pl.cU (Pl.bf (ah xs i).lo (ah xs i).hi) (Pl.aF e.key) (Pl.aL (ah xs i).lo (ah xs i).hi e.key) (ah xs i).lo e.key=0):
    Calls Tryz.prog 50 #[.pointer (some ⟨sb,0,none⟩),e.agg,.int .i64 at'] w fun r w'=>r=.returned (.bool true)/\qT w F sb (Pl.iU xs i e.key e.other e.server at') (Pl.pP used e.other.toNat) (ne+1) (evs++jf at' e) w':=by
 have HC:=af (fun W (g:ae w W)=>Lq hS E (hE.ag g) (h.ag g) (by omega:xs.length<=1000000) e (hA.ag g) hkey)
 have hap:=iy
 unfold Pl.eQ at hap
 simp only [Bool.and_eq_true,decide_eq_true_eq] at hap
 obtain ⟨⟨hc,ha0⟩,ha1⟩:=hap
 have HP:=af (fun W (g:ae w W)=>YW hS E (hE.ag g) (h.ag g) hx e hkey at' ha0 (by omega) i hi hf o1 o2 hcut)
 have pR:Hid (∀j,F j->j<w.heap.size):=by obtain ⟨_,_,h⟩:=h;exact h.lt
 have GR:sb<w.heap.size:=by obtain ⟨_,_,h⟩:=h;exact h.blt
 have og:¬at'<0:=by omega
 have oh:¬4096<=at':=by omega
 rw [hc] at HC
 have HW:=af (eK.dQ w e 39)
 have HV:=af (LF at' e)
 have hvl:(jf at' e).length=13:=rfl
 have C6:Hid (jf at' e=.int .i64 at'::e.vals):=rfl
 clear iy hc hA hE h hi hf o1 o2 hcut
 generalize (Pl.iU xs i e.key e.other e.server at')=XS at *
 have b2:(e.kind==2)=false:=by rw [k2];rfl
 have b3:(e.kind==3)=true:=by rw [k2];rfl
 clear k2
 unfold En.agg at *
 go_in
 unfold En.vals at HC HP ⊢
 go_wp2_with fail
 refine (HC.out _ ((ae.rf w).alloc _)).mono ?_
 rintro r w1 ⟨rfl,hg⟩
 have hz:w.heap.size<w1.heap.size:=by have:=hg.size;simp at this;omega
 have HG:=af (((ae.rf w).alloc _).trans hg)
 have bl:=af (HW.out.ag hg (by simp))
 obtain ⟨d0,d1,d2,d3,d4,d5,d6,d7,d8,d9,d10,d11⟩:=bl.out.cells
 clear hg HC
 go_wp2_with fail
 refine (HP.out w1 HG.out).mono ?_
 rintro r w2 ⟨rfl,o2,F2,⟨v2,fM,h2⟩,hF2⟩
 have hnF:¬F w.heap.size:=fun h=>Nat.lt_irrefl _ (pR.out _ h)
 have jg:=af (bl.out.only o2 hz hnF)
 have hz2:w.heap.size<w2.heap.size:=ltT hz o2.size
 have aD:∀g,fM.ownBlock=some g->g≠w.heap.size:=by
  intro g hg e0
  rcases hF2 g (h2.bu g hg).1 with h | h
  · exact hnF (e0▸h)
  · omega
 have jq:=af h2
 have kp:=af hF2
 have tA:=af o2
 have bz:¬some w.heap.size=fM.ownBlock:=fun e0=>aD _ e0.symm rfl
 have ia:¬some sb=fM.ownBlock:=fun e0=>(h2.bu sb e0.symm).2.1 rfl
 have kU:sb<w2.heap.size:=h2.blt
 clear d0 d1 d2 d3 d4 d5 d6 d7 d8 d9 d10 d11 HP o2 hF2 h2 aD
 obtain ⟨d0,d1,d2,d3,d4,d5,d6,d7,d8,d9,d10,d11⟩:=jg.out.cells
 go_wp2_with fail
 have C0:=aV (S:=fun j=>some j=fM.ownBlock) jq.out.ev ia
 have D0:=aV (S:=fun j=>some j=fM.ownBlock) d0 bz
 have D1:=aV (S:=fun j=>some j=fM.ownBlock) d1 bz
 have D2:=aV (S:=fun j=>some j=fM.ownBlock) d2 bz
 have D3:=aV (S:=fun j=>some j=fM.ownBlock) d3 bz
 have D4:=aV (S:=fun j=>some j=fM.ownBlock) d4 bz
 have D5:=aV (S:=fun j=>some j=fM.ownBlock) d5 bz
 have D6:=aV (S:=fun j=>some j=fM.ownBlock) d6 bz
 have D7:=aV (S:=fun j=>some j=fM.ownBlock) d7 bz
 have D8:=aV (S:=fun j=>some j=fM.ownBlock) d8 bz
 have D9:=aV (S:=fun j=>some j=fM.ownBlock) d9 bz
 have oo:=aV (S:=fun j=>some j=fM.ownBlock) d10 bz
 have oq:=aV (S:=fun j=>some j=fM.ownBlock) d11 bz
 clear d0 d1 d2 d3 d4 d5 d6 d7 d8 d9 d10 d11
 obtain ⟨i0,hi0,hz0,hz1,hz3⟩:=info_parts TB
 refine gJ 10 [8,9] (aj (fun j=>some j=fM.ownBlock) w2) Eq (dO 159 8 9 w2 (jf at' e) (jo 159 13 fM ne evs (jf at' e))) (fun f a=>(a.put (some 55) (f 8)).put (some 56) (f 9)) (by kernel_rfl) (by kernel_rfl) (fun _ _=>rfl) (dO.start w2) (fun L f x h=>h.only fun _ _ _ h=>h.only) (fun _=>rfl) (fun _ _ _ _ h g=>g▸h) ?_
 repeat (first
  | refine gy ?_
  | (refine gB ?_;intro K hK;go_big_quiet_op;go_big_quiet_on)
  | (refine gz ?_;simp only [Act.put,sA,sB,sC]))
 refine jX (by rfl) ⟨⟨bH rfl (fun _ a=>a) (fun _ _=>rfl) (fun _=>rfl) ?_,bH rfl (fun f a=>a.put (some 55) (f 8)) (fun _ _=>rfl) (fun _=>rfl) ?_,trivial⟩,?_⟩
 · intro L f x hJ hL hd
   clear C0 D0 D1 D2 D3 D4 D5 D6 D7 D8 D9 oo oq
   have hm:=hJ.make (by decide) hL
   have hm2:=af hm
   clear hm hJ
   rw [C6.out] at hm2
   unfold En.vals at hm2
   go_simp
   exact hm2.out
 · intro L f x hJ hL hd
   clear C0 D0 D1 D2 D3 D4 D5 D6 D7 D8 D9 oo oq
   have h8:=hd 8 rfl (by decide)
   obtain ⟨vb,q8,tv,hvb⟩:=hJ.made h8 hL
   refine yu (.tmp 51) (.tmp 55) _ rfl 159 i0 _ 13 144 Tryz.underlying151 hi0 hz0 hz1 hz3 LD (by omega) fM ne evs rfl ?_ vb 1 (jf at' e) ?_ hvl hvb HV.out (by unfold maxLen;omega) (by omega) ?_
   · exact gI (hJ.ag hL) jq.out.iX
   · exact q8
   · intro r w' hD
     exact hJ.call (by decide) hL h8 hD
 rintro f x hJ
 clear C0 D0 D1 D2 D3 D4 D5 D6 D7 D8 D9 oo oq
 obtain ⟨x0,g0,g3,c3,q9,aI,hgr,hat⟩:=hJ.done rfl
 rw [q9]
 have ho1:aj (fun j=>some j=fM.ownBlock) w2 x:=(g0.only _).then (aj.of_grownBy hgr)
 have C3:x.cell? ⟨sb,14,none⟩=some fM:=(ho1.cell kU ia 14).trans jq.out.ev
 have F3:x.frozen? ⟨sb,14,none⟩=false:=(ho1.frozen kU ia 14).trans (jq.out.fz 14 (by omega))
 have HT:=af (jq.out.kT ho1 (r:=.slice (some ⟨g3,0,none⟩) (ne+1) c3) (fun g hg=>by
  cases hg
  rcases hat with h | h
  · exact .inl h
  · exact .inr (by rw [h];exact g0.size)) aI (Nat.succ_pos _))
 clear hJ q9 aI hgr hat ho1 g0
 dsimp only [List.drop]
 go_wp2_with fail
 go_ret
 refine ⟨rfl,qT.trans ((HG.out.only F).then tA.out) (fun j hj=>?_) HT.out⟩
 rcases kp.out j hj with h | h
 · exact .inl h
 · exact .inr (zQ0 HG.out.size h)
end
end
section
open Go.RowKit Go.Maps
attribute [local go_sem] Oper.semAt_some aT
section
variable {S:Nat->Bool} (hS:fZ S) (E:Nat->Addr) {w:World} (hE:aY S E w) {F:Nat->Prop} {sb:Nat} {xs:List Sh} {used:Nat->Bool} {ne:Nat} {evs:List Value} (h:fh w F sb xs used ne evs) (hx:xs.length<=1000) (e:En) (hA:bG w e) (hkey:e.key.size<=70368744177664)
include hS hE h hx hA hkey
theorem Y5 (hne:ne<=1000000) (at':Int) (iy:Pl.eQ xs used e at'=true) (k2:e.kind=4) (i:Nat) (hi:i<xs.length) (hf:Pl.ax xs e.ai=(i:Nat)) (j:Nat) (hj:j<xs.length) (kF:Pl.ax xs e.other=(j:Nat)) (nZ:Pl.aK (Pl.bf (ah xs i).lo (ah xs i).hi) (Pl.bf (ah xs j).lo (ah xs j).hi) (ah xs i).lo (ah xs i).hi (ah xs j).lo (ah xs j).hi=0):
    Calls Tryz.prog 50 #[.pointer (some ⟨sb,0,none⟩),e.agg,.int .i64 at'] w fun r w'=>r=.returned (.bool true)/\qT w F sb (Pl.ja xs i j (Pl.aH (Pl.bf (ah xs i).lo (ah xs i).hi) (Pl.bf (ah xs j).lo (ah xs j).hi) (ah xs i).lo (ah xs i).hi (ah xs j).lo (ah xs j).hi) at') used (ne+1) (evs++jf at' e) w':=by
 have HC:=af (fun W (g:ae w W)=>Lq hS E (hE.ag g) (h.ag g) (by omega:xs.length<=1000000) e (hA.ag g) hkey)
 have hap:=iy
 unfold Pl.eQ at hap
 simp only [Bool.and_eq_true,decide_eq_true_eq] at hap
 obtain ⟨⟨hc,ha0⟩,ha1⟩:=hap
 have HP:=af (fun W (g:ae w W)=>Y0 hS E (hE.ag g) (h.ag g) hx e at' ha0 (by omega) i hi hf j hj kF nZ)
 have pR:Hid (∀j,F j->j<w.heap.size):=by obtain ⟨_,_,h⟩:=h;exact h.lt
 have GR:sb<w.heap.size:=by obtain ⟨_,_,h⟩:=h;exact h.blt
 have og:¬at'<0:=by omega
 have oh:¬4096<=at':=by omega
 rw [hc] at HC
 have HW:=af (eK.dQ w e 39)
 have HV:=af (LF at' e)
 have hvl:(jf at' e).length=13:=rfl
 have C6:Hid (jf at' e=.int .i64 at'::e.vals):=rfl
 clear iy hc hA hE h hi hf hj kF nZ
 generalize (Pl.ja xs i j (Pl.aH (Pl.bf (ah xs i).lo (ah xs i).hi) (Pl.bf (ah xs j).lo (ah xs j).hi) (ah xs i).lo (ah xs i).hi (ah xs j).lo (ah xs j).hi) at')=XS at *
 have b2:(e.kind==2)=false:=by rw [k2];rfl
 have b3:(e.kind==3)=false:=by rw [k2];rfl
 have b4:(e.kind==4)=true:=by rw [k2];rfl
 clear k2
 unfold En.agg at *
 go_in
 unfold En.vals at HC HP ⊢
 go_wp2_with fail
 refine (HC.out _ ((ae.rf w).alloc _)).mono ?_
 rintro r w1 ⟨rfl,hg⟩
 have hz:w.heap.size<w1.heap.size:=by have:=hg.size;simp at this;omega
 have HG:=af (((ae.rf w).alloc _).trans hg)
 have bl:=af (HW.out.ag hg (by simp))
 obtain ⟨d0,d1,d2,d3,d4,d5,d6,d7,d8,d9,d10,d11⟩:=bl.out.cells
 clear hg HC
 go_wp2_with fail
 refine (HP.out w1 HG.out).mono ?_
 rintro r w2 ⟨rfl,o2,F2,⟨v2,fM,h2⟩,hF2⟩
 have hnF:¬F w.heap.size:=fun h=>Nat.lt_irrefl _ (pR.out _ h)
 have jg:=af (bl.out.only o2 hz hnF)
 have hz2:w.heap.size<w2.heap.size:=ltT hz o2.size
 have aD:∀g,fM.ownBlock=some g->g≠w.heap.size:=by
  intro g hg e0
  rcases hF2 g (h2.bu g hg).1 with h | h
  · exact hnF (e0▸h)
  · omega
 have jq:=af h2
 have kp:=af hF2
 have tA:=af o2
 have bz:¬some w.heap.size=fM.ownBlock:=fun e0=>aD _ e0.symm rfl
 have ia:¬some sb=fM.ownBlock:=fun e0=>(h2.bu sb e0.symm).2.1 rfl
 have kU:sb<w2.heap.size:=h2.blt
 clear d0 d1 d2 d3 d4 d5 d6 d7 d8 d9 d10 d11 HP o2 hF2 h2 aD
 obtain ⟨d0,d1,d2,d3,d4,d5,d6,d7,d8,d9,d10,d11⟩:=jg.out.cells
 go_wp2_with fail
 have C0:=aV (S:=fun j=>some j=fM.ownBlock) jq.out.ev ia
 have D0:=aV (S:=fun j=>some j=fM.ownBlock) d0 bz
 have D1:=aV (S:=fun j=>some j=fM.ownBlock) d1 bz
 have D2:=aV (S:=fun j=>some j=fM.ownBlock) d2 bz
 have D3:=aV (S:=fun j=>some j=fM.ownBlock) d3 bz
 have D4:=aV (S:=fun j=>some j=fM.ownBlock) d4 bz
 have D5:=aV (S:=fun j=>some j=fM.ownBlock) d5 bz
 have D6:=aV (S:=fun j=>some j=fM.ownBlock) d6 bz
 have D7:=aV (S:=fun j=>some j=fM.ownBlock) d7 bz
 have D8:=aV (S:=fun j=>some j=fM.ownBlock) d8 bz
 have D9:=aV (S:=fun j=>some j=fM.ownBlock) d9 bz
 have oo:=aV (S:=fun j=>some j=fM.ownBlock) d10 bz
 have oq:=aV (S:=fun j=>some j=fM.ownBlock) d11 bz
 clear d0 d1 d2 d3 d4 d5 d6 d7 d8 d9 d10 d11
 obtain ⟨i0,hi0,hz0,hz1,hz3⟩:=info_parts TB
 refine gJ 10 [8,9] (aj (fun j=>some j=fM.ownBlock) w2) Eq (dO 159 8 9 w2 (jf at' e) (jo 159 13 fM ne evs (jf at' e))) (fun f a=>(a.put (some 55) (f 8)).put (some 56) (f 9)) (by kernel_rfl) (by kernel_rfl) (fun _ _=>rfl) (dO.start w2) (fun L f x h=>h.only fun _ _ _ h=>h.only) (fun _=>rfl) (fun _ _ _ _ h g=>g▸h) ?_
 repeat (first
  | refine gy ?_
  | (refine gB ?_;intro K hK;go_big_quiet_op;go_big_quiet_on)
  | (refine gz ?_;simp only [Act.put,sA,sB,sC]))
 refine jX (by rfl) ⟨⟨bH rfl (fun _ a=>a) (fun _ _=>rfl) (fun _=>rfl) ?_,bH rfl (fun f a=>a.put (some 55) (f 8)) (fun _ _=>rfl) (fun _=>rfl) ?_,trivial⟩,?_⟩
 · intro L f x hJ hL hd
   clear C0 D0 D1 D2 D3 D4 D5 D6 D7 D8 D9 oo oq
   have hm:=hJ.make (by decide) hL
   have hm2:=af hm
   clear hm hJ
   rw [C6.out] at hm2
   unfold En.vals at hm2
   go_simp
   exact hm2.out
 · intro L f x hJ hL hd
   clear C0 D0 D1 D2 D3 D4 D5 D6 D7 D8 D9 oo oq
   have h8:=hd 8 rfl (by decide)
   obtain ⟨vb,q8,tv,hvb⟩:=hJ.made h8 hL
   refine yu (.tmp 51) (.tmp 55) _ rfl 159 i0 _ 13 144 Tryz.underlying151 hi0 hz0 hz1 hz3 LD (by omega) fM ne evs rfl ?_ vb 1 (jf at' e) ?_ hvl hvb HV.out (by unfold maxLen;omega) (by omega) ?_
   · exact gI (hJ.ag hL) jq.out.iX
   · exact q8
   · intro r w' hD
     exact hJ.call (by decide) hL h8 hD
 rintro f x hJ
 clear C0 D0 D1 D2 D3 D4 D5 D6 D7 D8 D9 oo oq
 obtain ⟨x0,g0,g3,c3,q9,aI,hgr,hat⟩:=hJ.done rfl
 rw [q9]
 have ho1:aj (fun j=>some j=fM.ownBlock) w2 x:=(g0.only _).then (aj.of_grownBy hgr)
 have C3:x.cell? ⟨sb,14,none⟩=some fM:=(ho1.cell kU ia 14).trans jq.out.ev
 have F3:x.frozen? ⟨sb,14,none⟩=false:=(ho1.frozen kU ia 14).trans (jq.out.fz 14 (by omega))
 have HT:=af (jq.out.kT ho1 (r:=.slice (some ⟨g3,0,none⟩) (ne+1) c3) (fun g hg=>by
  cases hg
  rcases hat with h | h
  · exact .inl h
  · exact .inr (by rw [h];exact g0.size)) aI (Nat.succ_pos _))
 clear hJ q9 aI hgr hat ho1 g0
 dsimp only [List.drop]
 go_wp2_with fail
 go_ret
 refine ⟨rfl,qT.trans ((HG.out.only F).then tA.out) (fun j hj=>?_) HT.out⟩
 rcases kp.out j hj with h | h
 · exact .inl h
 · exact .inr (zQ0 HG.out.size h)
end
end
section
open Go.RowKit Go.Maps
attribute [local go_sem] Oper.semAt_some
theorem Wv {W:World} {B:Nat} {v:Value} {xs:List Sh} (h:W.ownsRow B 191 5 v xs.length (dC xs)):∃a cap,v=.slice a xs.length cap/\iR W a xs:=by
 rcases zX9 xs.length with h0 | h0
 · have hx:xs=[]:=zX1 h0
   rcases h.2 with ⟨rfl,_⟩ | ⟨g,cap,cur,rfl,_,hg,_⟩
   · exact ⟨none,0,by rw [h0],.inl hx⟩
   · exact ⟨_,_,rfl,.inl hx⟩
 · obtain ⟨g,cap,rfl,_,aq⟩:=h.form h0
   refine ⟨_,_,rfl,.inr ⟨g,0,rfl,aq,?_⟩⟩
   have hc:∀j,j<xs.length->∀i,i<5->W.cell? ⟨g,j*5+i,none⟩=(ah xs j).vals[i]? :=fun j hj i hi=>by
    rw [h.cellAt (j*5+i) (by omega)];exact mH i hi xs j hj
   refine ⟨fun j hj=>?_,fun j hj=>?_,fun j hj=>?_,fun j hj=>?_,fun j hj=>?_⟩<;> rw [zK0]
   · exact hc j hj 0 (by omega)
   · exact hc j hj 1 (by omega)
   · exact hc j hj 2 (by omega)
   · exact hc j hj 3 (by omega)
   · exact hc j hj 4 (by omega)
def AA (us:List Int):List Value:=us.map fun n=> .int .i64 n
structure eG (w:World) (F:Nat->Prop) (mb:Nat) (vl vu ve:Value) (xs:List Sh) (us:List Int) (ne:Nat) (evs:List Value):Prop where
 live:w.cell? ⟨mb,0,none⟩=some vl
 used:w.cell? ⟨mb,1,none⟩=some vu
 ev:w.cell? ⟨mb,2,none⟩=some ve
 fz:∀i,i<3->w.frozen? ⟨mb,i,none⟩=false
 row:w.ownsRow 0 191 5 vl xs.length (dC xs)
 qy:w.ownsRow 0 3 1 vu us.length (AA us)
 iX:w.ownsRow 0 187 13 ve ne evs
 bg:F mb
 aJ:∀g,vl.ownBlock=some g->F g/\g≠mb
 bu:∀g,vu.ownBlock=some g->F g/\g≠mb/\vl.ownBlock≠some g
 bX:∀g,ve.ownBlock=some g->F g/\g≠mb/\vl.ownBlock≠some g/\vu.ownBlock≠some g
 lt:∀j,F j->j<w.heap.size
structure bj where
 xs:List Sh
 us:List Int
 ne:Nat
 evs:List Value
def dU (w:World) (F:Nat->Prop) (mb:Nat) (s:bj):Prop:=∃vl vu ve,eG w F mb vl vu ve s.xs s.us s.ne s.evs
section
variable {w w':World} {F S:Nat->Prop} {mb:Nat} {vl vu ve:Value} {xs:List Sh} {us:List Int} {ne:Nat} {evs:List Value} {s:bj}
theorem eG.blt (h:eG w F mb vl vu ve xs us ne evs):mb<w.heap.size:=aN h.live
theorem eG.kept (h:eG w F mb vl vu ve xs us ne evs) (g:aj S w w') (hS:∀j,F j->¬S j):eG w' F mb vl vu ve xs us ne evs where
 live:=(g.cell h.blt (hS _ h.bg) 0).trans h.live
 used:=(g.cell h.blt (hS _ h.bg) _).trans h.used
 ev:=(g.cell h.blt (hS _ h.bg) _).trans h.ev
 fz i hi:=(g.frozen h.blt (hS _ h.bg) _).trans (h.fz i hi)
 row:=iY g h.row (fun b hb=>hS b (h.aJ b hb).1)
 qy:=iY g h.qy (fun b hb=>hS b (h.bu b hb).1)
 iX:=iY g h.iX (fun b hb=>hS b (h.bX b hb).1)
 bg:=h.bg
 aJ:=h.aJ
 bu:=h.bu
 bX:=h.bX
 lt j hj:=ltT (h.lt j hj) g.size
theorem eG.ag (h:eG w F mb vl vu ve xs us ne evs) (g:ae w w'):eG w' F mb vl vu ve xs us ne evs:=h.kept (g.only fun _=>False) (fun _ _ h=>h)
theorem dU.kept (h:dU w F mb s) (g:aj S w w') (hS:∀j,F j->¬S j):dU w' F mb s:=by
 obtain ⟨a,b,c,h⟩:=h;exact ⟨a,b,c,h.kept g hS⟩
theorem dU.ag (h:dU w F mb s) (g:ae w w'):dU w' F mb s:=by
 obtain ⟨a,b,c,h⟩:=h;exact ⟨a,b,c,h.ag g⟩
end
def bj.init:bj:=⟨[Fz],[1],0,[]⟩
theorem z2Y (w:World):Calls Tryz.prog 69 #[] w fun e w'=>∃mb,e=.returned (.pointer (some ⟨mb,0,none⟩))/\ae w w'/\w.heap.size<=mb/\∃F,dU w' F mb bj.init/\∀j,F j->w.heap.size<=j:=by
 go_in
 go_wp2_with fail
 go_ret
 generalize ho1:Obj.cells #[.int .i64 1,.int .i64 1,.int .i64 0,.string ⟨#[]⟩,.string ⟨#[]⟩] 191=o1
 generalize ho2:Obj.cells #[.int .i64 1] 3=o2
 generalize BV:Obj.cells #[.slice (some ⟨w.heap.size,0,none⟩) 1 1,.slice (some ⟨w.heap.size+1,0,none⟩) 1 1,.slice none 0 0] 186=o3
 have e1:(w.alloc o1).heap.size=w.heap.size+1:=by simp
 have e2:((w.alloc o1).alloc o2).heap.size=w.heap.size+1+1:=by simp
 have hr:=gI (((ae.rf (w.alloc o1)).alloc o2).alloc o3) (by rw [<-ho1];exact World.ownsRow_lit (base:=0) (size:=5) w #[.int .i64 1,.int .i64 1,.int .i64 0,.string ⟨#[]⟩,.string ⟨#[]⟩] 1 (Nat.zero_le _) (by decide) rfl:(w.alloc o1).ownsRow 0 191 5 (.slice (some ⟨w.heap.size,0,none⟩) 1 1) 1 _)
 have hu:=gI ((ae.rf ((w.alloc o1).alloc o2)).alloc o3) (by rw [<-ho2];exact World.ownsRow_lit (base:=0) (size:=1) (w.alloc o1) #[.int .i64 1] 1 (Nat.zero_le _) (by decide) rfl:((w.alloc o1).alloc o2).ownsRow 0 3 1 (.slice (some ⟨(w.alloc o1).heap.size,0,none⟩) 1 1) 1 _)
 rw [e1] at hu
 have hb:=heap_alloc_new ((w.alloc o1).alloc o2) o3
 rw [e2] at hb
 subst BV
 refine ⟨w.heap.size+1+1,rfl,(((ae.rf w).alloc _).alloc _).alloc _,by omega,fun j=>j=w.heap.size\/j=w.heap.size+1\/j=w.heap.size+1+1,⟨_,_,_,⟨?_,?_,?_,?_,hr,hu,World.ownsRow_nil _ _ _ _,.inr (.inr rfl),?_,?_,(fun g hg=>by cases hg),?_⟩⟩,?_⟩
 · rw [cell_of_row _ _ _ _ _ _ hb];rfl
 · rw [cell_of_row _ _ _ _ _ _ hb];rfl
 · rw [cell_of_row _ _ _ _ _ _ hb];rfl
 · intro i _
   exact frozen_of_row _ _ i _ _ hb
 · intro g hg
   cases hg
   exact ⟨.inl rfl,by dsimp only;omega⟩
 · intro g hg
   cases hg
   exact ⟨.inr (.inl rfl),by dsimp only;omega,fun e=>by simp [Value.ownBlock] at e⟩
 · intro j hj
   simp
   omega
 · intro j hj;omega
theorem Gu {w:World} {F:Nat->Prop} {mb:Nat} {s:bj} (h:dU w F mb s) (hx:s.xs.length<=1000000) (id:Int):
    Calls Tryz.prog 133 #[.pointer (some ⟨mb,0,none⟩),.int .i64 id] w fun e w'=>e=.returned (.int .i64 (Pl.ax s.xs id))/\ae w w':=by
 obtain ⟨xs,us,ne,evs⟩:=s
 obtain ⟨vl,vu,ve,h⟩:=h
 dsimp only at *
 obtain ⟨a,cap,rfl,hA⟩:=Wv h.row
 have c0:=h.live
 have hb:=h.blt
 have HA:=af hA
 unfold Pl.ax
 clear h hA
 go_in
 go_wp2_with fail
 go_loopw [12] (fun i wr=>∃k:Nat,k<=xs.length/\i=.int .i64 k/\Hid ((xs.take k).all (fun c=>!(c.id==id))=true)/\ae w wr) (fun i _=>xs.length - (intOf i).toNat)
 case atStart=>exact ⟨0,Nat.zero_le _,rfl,rfl,ae.rf w⟩
 case round=>
  obtain ⟨k,hk1,rfl,HN,hG⟩:=hrel
  by_cases aq:k<xs.length
  · rcases HA.out with h0 | ⟨b,off,rfl,hb,hR⟩
    · rw [h0] at aq;simp at aq
    have q0:=(hG.cells.1 b (off+k*5) hb).trans (hR.id k aq)
    have q1:=(hG.cells.1 b (off+k*5+1) hb).trans (hR.server k aq)
    have q2:=(hG.cells.1 b (off+k*5+2) hb).trans (hR.since k aq)
    have q3:=(hG.cells.1 b (off+k*5+3) hb).trans (hR.lo k aq)
    have q4:=(hG.cells.1 b (off+k*5+4) hb).trans (hR.hi k aq)
    have hat:ah xs k=xs[k]:=kD xs k aq
    have mF:=af hat
    clear hR hat
    have HS:=af (tU (fun c:Sh=>c.id==id) xs k aq HN.out)
    have eI:=af (yR (fun c:Sh=>c.id==id) xs k aq HN.out)
    rw [<-mF.out] at HS eI
    generalize ah xs k=c at *
    clear mF
    obtain ⟨c0',c1,c2,c3,c4⟩:=c
    dsimp only at *
    cases hpc:(c0'==id) with
    | true=>
     have dt:=af (HS.out hpc)
     clear HS eI
     go_wp2_with fail
     go_ret
     exact ⟨fV dt.out.symm,hG.alloc _⟩
    | false=>
     have dt:=af (eI.out hpc)
     clear HS eI
     go_wp2_with fail
     go_roundw
     case rel=>exact ⟨k+1,by omega,by go_num,dt,hG.alloc _⟩
     case measure=>simp [intOf];omega
  · obtain rfl:k=xs.length:=by omega
    have HE:=af (rL (fun c:Sh=>c.id==id) xs (by have:=HN.out;rwa [zQ2] at this))
    go_wp2_with fail
    go_ret
    exact ⟨fV HE.out.symm,hG⟩
def J5 (W:World) (a:Option Addr) (us:List Int):Prop:=us=[]\/∃b off,a=some ⟨b,off,none⟩/\b<W.heap.size/\∀j,j<us.length->W.cell? ⟨b,off+j,none⟩=some (.int .i64 (us[j]?.getD 0))
theorem J5.ag {W W':World} {a:Option Addr} {us:List Int} (h:J5 W a us) (g:ae W W'):J5 W' a us:=by
 rcases h with h | ⟨b,off,e,hb,h⟩
 · exact .inl h
 · exact .inr ⟨b,off,e,ltT hb g.size,fun j hj=>(g.cells.1 _ _ hb).trans (h j hj)⟩
theorem z3w {W:World} {B:Nat} {v:Value} {us:List Int} (h:W.ownsRow B 3 1 v us.length (AA us)):∃a cap,v=.slice a us.length cap/\J5 W a us:=by
 rcases zX9 us.length with h0 | h0
 · have hx:us=[]:=zX1 h0
   rcases h.2 with ⟨rfl,_⟩ | ⟨g,cap,cur,rfl,_,hg,_⟩
   · exact ⟨none,0,by rw [h0],.inl hx⟩
   · exact ⟨_,_,rfl,.inl hx⟩
 · obtain ⟨g,cap,rfl,_,aq⟩:=h.form h0
   refine ⟨_,_,rfl,.inr ⟨g,0,rfl,aq,fun j hj=>?_⟩⟩
   rw [zK0,h.cellAt j (by omega)]
   unfold AA
   rw [List.getElem?_map,List.getElem?_eq_getElem hj]
   rfl
theorem EH (w:World) (a:Option Addr) (cap:Nat) (us:List Int) (hA:J5 w a us) (hx:us.length<=1000000) (n:Int):
    Calls Tryz.prog 169 #[.slice a us.length cap,.int .i64 n] w fun e w'=>e=.returned (.bool (us.any fun u=>u==n))/\ae w w':=by
 have HA:=af hA
 clear hA
 go_in
 go_wp2_with fail
 go_loopw [9] (fun i wr=>∃k:Nat,k<=us.length/\i=.int .i64 k/\Hid ((us.take k).any (fun u=>u==n)=false)/\ae w wr) (fun i _=>us.length - (intOf i).toNat)
 case atStart=>exact ⟨0,Nat.zero_le _,rfl,rfl,ae.rf w⟩
 case round=>
  obtain ⟨k,hk1,rfl,HN,hG⟩:=hrel
  by_cases aq:k<us.length
  · rcases HA.out with h0 | ⟨b,off,rfl,hb,hR⟩
    · rw [h0] at aq;simp at aq
    have q0:=(hG.cells.1 b (off+k) hb).trans (hR k aq)
    have hat:us[k]?.getD 0=us[k]:=by rw [List.getElem?_eq_getElem aq];rfl
    rw [hat] at q0
    have HY:=af (fun (h:(us[k]==n)=true)=>show true=us.any (fun u=>u==n) from (zZ5.2 ⟨us[k],zQ5 aq,h⟩).symm)
    have kg:=af (fun (h:(us[k]==n)=false)=>show (us.take (k+1)).any (fun u=>u==n)=false by
     rw [zZ6 aq,List.any_append,HN.out];simp [h])
    clear hR hat
    generalize us[k]=u at *
    cases hpc:(u==n) with
    | true=>
     have dt:=af (HY.out hpc)
     clear HY kg
     go_wp2_with fail
     go_ret
     exact ⟨bt dt.out,hG⟩
    | false=>
     have dt:=af (kg.out hpc)
     clear HY kg
     go_wp2_with fail
     go_roundw
     case rel=>exact ⟨k+1,by omega,by go_num,dt,hG⟩
     case measure=>simp [intOf];omega
  · obtain rfl:k=us.length:=by omega
    have HE:Hid (false=us.any fun u=>u==n):=by have:=HN.out;rw [zQ2] at this;exact this.symm
    go_wp2_with fail
    go_ret
    exact ⟨bt HE.out,hG⟩
end
section
open Go.RowKit Go.Maps
def lA (w:World) (F:Nat->Prop) (mb:Nat) (s:bj) (w':World):Prop:=aj F w w'/\∃F',dU w' F' mb s/\∀j,F' j->F j\/w.heap.size<=j
section
variable {w u:World} {F:Nat->Prop} {mb:Nat} {vl vu ve:Value} {xs ys:List Sh} {us:List Int} {ne:Nat} {evs:List Value} {s s':bj}
theorem lA.b9 (h:dU w F mb s) (g:ae w u):lA w F mb s u:=⟨g.only F,F,h.ag g,fun _=> .inl⟩
theorem lA.trans {w1 w2:World} {F1:Nat->Prop} (o1:aj F w w1) (iT:∀j,F1 j->F j\/w.heap.size<=j) (h:lA w1 F1 mb s w2):lA w F mb s w2:=by
 obtain ⟨h1,F',h2,h3⟩:=h
 refine ⟨o1.trans h1 iT,F',h2,fun j hj=>?_⟩
 rcases h3 j hj with h | h
 · exact iT j h
 · exact .inr (zQ0 o1.size h)
theorem sK (h:eG w F mb vl vu ve xs us ne evs) {b cap:Nat} (hv:vl=.slice (some ⟨b,0,none⟩) xs.length cap) (i:Nat) (hi:i<xs.length) (k:Nat) (hk:k<5):w.cell? ⟨b,i*5+k,none⟩=(ah xs i).vals[k]? :=by
 subst hv
 have:=h.row.cellAt (i*5+k) (by omega)
 rw [mH k hk xs i hi] at this
 exact this
theorem eG.ir (h:eG w F mb vl vu ve xs us ne evs) (ho:aj (fun j=>some j=vl.ownBlock) w u) (hr:u.ownsRow 0 191 5 vl ys.length (dC ys)):eG u F mb vl vu ve ys us ne evs:=by
 have n0:¬some mb=vl.ownBlock:=fun e=>(h.aJ mb e.symm).2 rfl
 refine ⟨(ho.cell h.blt n0 0).trans h.live,(ho.cell h.blt n0 _).trans h.used,(ho.cell h.blt n0 _).trans h.ev,fun i hi=>(ho.frozen h.blt n0 _).trans (h.fz i hi),hr,?_,?_,h.bg,h.aJ,h.bu,h.bX,fun j hj=>ltT (h.lt j hj) ho.size⟩
 · exact iY ho h.qy (fun b hb e=>(h.bu b hb).2.2 e.symm)
 · exact iY ho h.iX (fun b hb e=>(h.bX b hb).2.2.1 e.symm)
theorem eG.uO {b cap:Nat} (h:eG w F mb (.slice (some ⟨b,0,none⟩) xs.length cap) vu ve xs us ne evs) (i:Nat) (hi:i<xs.length) (lo hi':ByteArray) (n:Int):
    eG (((w.setCell ⟨b,i*5+3,none⟩ (.string lo)).setCell ⟨b,i*5+4,none⟩ (.string hi')).setCell ⟨b,i*5+2,none⟩ (.int .i64 n)) F mb (.slice (some ⟨b,0,none⟩) xs.length cap) vu ve (xs.set i ⟨(ah xs i).id,(ah xs i).server,n,lo,hi'⟩) us ne evs:=by
 obtain ⟨r1,g1⟩:=h.row.stored (i*5+3) (.string lo)
 obtain ⟨r2,g2⟩:=r1.stored (i*5+4) (.string hi')
 obtain ⟨r3,g3⟩:=r2.stored (i*5+2) (.int .i64 n)
 have hlen:(xs.set i ⟨(ah xs i).id,(ah xs i).server,n,lo,hi'⟩).length=xs.length:=List.length_set
 refine h.ir ((aj.of_grownBy (g1.trans (g2.trans g3))).mono fun j hj=> .inl hj) ?_
 · rw [hlen]
   have e:dC (xs.set i ⟨(ah xs i).id,(ah xs i).server,n,lo,hi'⟩)=(((dC xs).set (i*5+3) (.string lo)).set (i*5+4) (.string hi')).set (i*5+2) (.int .i64 n):=by
    rw [Ls xs i hi]
    have hfl:(dC xs).length=xs.length*5:=sZ xs
    have g0:=mH 0 (by omega) xs i hi
    have g1:=mH 1 (by omega) xs i hi
    generalize ah xs i=c at *
    obtain ⟨c0,c1,c2,c3,c4⟩:=c
    generalize dC xs=L at *
    simp only [Sh.vals,zK4,zK5,zX3] at g0 g1
    apply zK1
    intro j
    rw [List.getElem?_append,List.getElem?_append,List.getElem?_take,List.getElem?_drop,zK2,zK2,zK2]
    simp only [zX8,List.length_take,List.length_set,Sh.vals,List.length_cons,zK3]
    rw [zX4 (show i*5<=L.length by omega)]
    by_cases h1:j<i*5
    · rw [zZ1 (by omega),zZ1 h1,zZ1 h1,zZ0 (by omega),zZ0 (by omega),zZ0 (by omega)]
    · by_cases h2:j=i*5
      · subst h2;rw [zZ1 (by omega),zZ0 h1,zZ0 (by omega),zZ0 (by omega),zZ0 (by omega),g0];simp
      · by_cases h3:j=i*5+1
        · subst h3;rw [zZ1 (by omega),zZ0 h1,zZ0 (by omega),zZ0 (by omega),zZ0 (by omega),g1];simp
        · by_cases h4:j=i*5+2
          · subst h4;rw [zZ1 (by omega),zZ0 h1,zZ1 rfl,zZ1 (by omega)];simp
          · by_cases h5:j=i*5+3
            · subst h5;rw [zZ1 (by omega),zZ0 h1,zZ0 (by omega),zZ0 (by omega),zZ1 rfl,zZ1 (by omega)];simp
            · by_cases h6:j=i*5+4
              · subst h6;rw [zZ1 (by omega),zZ0 h1,zZ0 (by omega),zZ1 rfl,zZ1 (by omega)];simp
              · rw [zZ0 (by omega),zZ0 (by omega),zZ0 (by omega),zZ0 (by omega)]
                congr 1;omega
   rw [e]
   exact r3
theorem eG.CT {b cap:Nat} (h:eG w F mb (.slice (some ⟨b,0,none⟩) xs.length cap) vu ve xs us ne evs) (i:Nat) (hi:i<xs.length) (n:Int):
    eG (w.setCell ⟨b,i*5+1,none⟩ (.int .i64 n)) F mb (.slice (some ⟨b,0,none⟩) xs.length cap) vu ve (xs.set i ⟨(ah xs i).id,n,(ah xs i).since,(ah xs i).lo,(ah xs i).hi⟩) us ne evs:=by
 obtain ⟨r1,g1⟩:=h.row.stored (i*5+1) (.int .i64 n)
 have hlen:(xs.set i ⟨(ah xs i).id,n,(ah xs i).since,(ah xs i).lo,(ah xs i).hi⟩).length=xs.length:=List.length_set
 refine h.ir ((aj.of_grownBy g1).mono fun j hj=> .inl hj) ?_
 · rw [hlen]
   have e:dC (xs.set i ⟨(ah xs i).id,n,(ah xs i).since,(ah xs i).lo,(ah xs i).hi⟩)=(dC xs).set (i*5+1) (.int .i64 n):=by
    rw [Ls xs i hi]
    have hfl:(dC xs).length=xs.length*5:=sZ xs
    have g0:=mH 0 (by omega) xs i hi
    have g2:=mH 2 (by omega) xs i hi
    have g3:=mH 3 (by omega) xs i hi
    have g4:=mH 4 (by omega) xs i hi
    generalize ah xs i=c at *
    obtain ⟨c0,c1,c2,c3,c4⟩:=c
    generalize dC xs=L at *
    simp only [Sh.vals,zK4,zK5,zX3] at g0 g2 g3 g4
    apply zK1
    intro j
    rw [List.getElem?_append,List.getElem?_append,List.getElem?_take,List.getElem?_drop,zK2]
    simp only [zX8,List.length_take,Sh.vals,List.length_cons,zK3]
    rw [zX4 (show i*5<=L.length by omega)]
    by_cases h1:j<i*5
    · rw [zZ1 (by omega),zZ1 h1,zZ1 h1,zZ0 (by omega)]
    · by_cases h2:j=i*5
      · subst h2;rw [zZ1 (by omega),zZ0 h1,zZ0 (by omega),g0];simp
      · by_cases h3:j=i*5+1
        · subst h3;rw [zZ1 (by omega),zZ0 h1,zZ1 rfl,zZ1 (by omega)];simp
        · by_cases h4:j=i*5+2
          · subst h4;rw [zZ1 (by omega),zZ0 h1,zZ0 (by omega),g2];simp
          · by_cases h5:j=i*5+3
            · subst h5;rw [zZ1 (by omega),zZ0 h1,zZ0 (by omega),g3];simp
            · by_cases h6:j=i*5+4
              · subst h6;rw [zZ1 (by omega),zZ0 h1,zZ0 (by omega),g4];simp
              · rw [zZ0 (by omega),zZ0 (by omega)]
                congr 1;omega
   rw [e]
   exact r1
theorem eG.iu (h:eG w F mb vl vu ve xs us ne evs) {ys:List Sh} (ho:aj (fun j=>some j=vl.ownBlock) w u) {r:Value} (hform:∀g,r.ownBlock=some g->vl.ownBlock=some g\/w.heap.size<=g) (hr:u.ownsRow 0 191 5 r ys.length (dC ys)):
    lA w F mb ⟨ys,us,ne,evs⟩ (u.setCell ⟨mb,0,none⟩ r):=by
 have h1:∀g,vl.ownBlock=some g->g<w.heap.size:=fun g hg=>h.lt g (h.aJ g hg).1
 have h2:∀g,vu.ownBlock=some g->g<w.heap.size:=fun g hg=>h.lt g (h.bu g hg).1
 have h3:∀g,ve.ownBlock=some g->g<w.heap.size:=fun g hg=>h.lt g (h.bX g hg).1
 have rF:∀g,vl.ownBlock=some g->F g/\g≠mb:=fun g hg=>h.aJ g hg
 have n0:¬some mb=vl.ownBlock:=fun e=>(rF mb e.symm).2 rfl
 have hb:=h.blt
 have hc:u.cell? ⟨mb,0,none⟩=some vl:=(ho.cell hb n0 _).trans h.live
 have o2:=aj.setCell u ⟨mb,0,none⟩ r
 have pd:∀g,r.ownBlock=some g->g≠mb:=by
  intro g hg
  rcases hform g hg with h4 | h4
  · exact (rF g h4).2
  · omega
 have aq:∀g,r.ownBlock=some g->g<u.heap.size:=by
  intro g hg
  rcases hr.2 with ⟨e,_⟩ | ⟨b,c,cur,e,_,hh,_⟩
  · rw [e] at hg;cases hg
  · rw [e] at hg;cases hg;exact (zZ2.1 hh).1
 have nN:∀k,k≠0->(u.setCell ⟨mb,0,none⟩ r).cell? ⟨mb,k,none⟩=u.cell? ⟨mb,k,none⟩:=fun k hk=>World.cell?_setCell_other _ _ _ _ (fun e=>hk (by injection e with _ e2;exact e2.symm))
 refine ⟨(ho.mono fun j hj=> .inl (rF j hj.symm).1).then (o2.mono fun j hj=> .inl (by subst hj;exact h.bg)),fun j=>F j\/r.ownBlock=some j,⟨r,vu,ve,?_⟩,?_⟩
 · refine ⟨by simp [World.cell?_setCell_same,hc],by rw [nN _ (by omega)];exact (ho.cell hb n0 _).trans h.used,by rw [nN _ (by omega)];exact (ho.cell hb n0 _).trans h.ev,fun i hi=>by rw [World.frozen?_setCell];exact (ho.frozen hb n0 _).trans (h.fz i hi),?_,?_,?_,.inl h.bg,fun g hg=>?_,fun g hg=>?_,fun g hg=>?_,?_⟩
   · exact iY o2 hr (fun b hb e=>pd b hb e)
   · exact iY o2 (iY ho h.qy (fun b hb e=>(h.bu b hb).2.2 e.symm)) (fun b hb e=>(h.bu b hb).2.1 e)
   · exact iY o2 (iY ho h.iX (fun b hb e=>(h.bX b hb).2.2.1 e.symm)) (fun b hb e=>(h.bX b hb).2.1 e)
   · exact ⟨.inr hg,pd g hg⟩
   · exact ⟨.inl (h.bu g hg).1,(h.bu g hg).2.1,(fun e=>by rcases hform g e with h4 | h4;exact (h.bu g hg).2.2 h4;have:=h2 g hg;omega)⟩
   · exact ⟨.inl (h.bX g hg).1,(h.bX g hg).2.1,(fun e=>by rcases hform g e with h4 | h4;exact (h.bX g hg).2.2.1 h4;have:=h3 g hg;omega),(h.bX g hg).2.2.2⟩
   · intro j hj
     rcases hj with hj | hj
     · exact ltT (h.lt j hj) (zQ0 ho.size o2.size)
     · exact ltT (aq j hj) o2.size
 · intro j hj
   rcases hj with hj | hj
   · exact .inl hj
   · rcases hform j hj with h4 | h4
     · exact .inl (rF j h4).1
     · exact .inr h4
theorem eG.kR (h:eG w F mb vl vu ve xs us ne evs) {us':List Int} (ho:aj (fun j=>some j=vu.ownBlock) w u) {r:Value} (hform:∀g,r.ownBlock=some g->vu.ownBlock=some g\/w.heap.size<=g) (hr:u.ownsRow 0 3 1 r us'.length (AA us')):
    lA w F mb ⟨xs,us',ne,evs⟩ (u.setCell ⟨mb,1,none⟩ r):=by
 have h1:∀g,vl.ownBlock=some g->g<w.heap.size:=fun g hg=>h.lt g (h.aJ g hg).1
 have h2:∀g,vu.ownBlock=some g->g<w.heap.size:=fun g hg=>h.lt g (h.bu g hg).1
 have h3:∀g,ve.ownBlock=some g->g<w.heap.size:=fun g hg=>h.lt g (h.bX g hg).1
 have rF:∀g,vu.ownBlock=some g->F g/\g≠mb:=fun g hg=>⟨(h.bu g hg).1,(h.bu g hg).2.1⟩
 have n0:¬some mb=vu.ownBlock:=fun e=>(rF mb e.symm).2 rfl
 have hb:=h.blt
 have hc:u.cell? ⟨mb,1,none⟩=some vu:=(ho.cell hb n0 _).trans h.used
 have o2:=aj.setCell u ⟨mb,1,none⟩ r
 have pd:∀g,r.ownBlock=some g->g≠mb:=by
  intro g hg
  rcases hform g hg with h4 | h4
  · exact (rF g h4).2
  · omega
 have aq:∀g,r.ownBlock=some g->g<u.heap.size:=by
  intro g hg
  rcases hr.2 with ⟨e,_⟩ | ⟨b,c,cur,e,_,hh,_⟩
  · rw [e] at hg;cases hg
  · rw [e] at hg;cases hg;exact (zZ2.1 hh).1
 have nN:∀k,k≠1->(u.setCell ⟨mb,1,none⟩ r).cell? ⟨mb,k,none⟩=u.cell? ⟨mb,k,none⟩:=fun k hk=>World.cell?_setCell_other _ _ _ _ (fun e=>hk (by injection e with _ e2;exact e2.symm))
 refine ⟨(ho.mono fun j hj=> .inl (rF j hj.symm).1).then (o2.mono fun j hj=> .inl (by subst hj;exact h.bg)),fun j=>F j\/r.ownBlock=some j,⟨vl,r,ve,?_⟩,?_⟩
 · refine ⟨by rw [nN _ (by omega)];exact (ho.cell hb n0 _).trans h.live,by simp [World.cell?_setCell_same,hc],by rw [nN _ (by omega)];exact (ho.cell hb n0 _).trans h.ev,fun i hi=>by rw [World.frozen?_setCell];exact (ho.frozen hb n0 _).trans (h.fz i hi),?_,?_,?_,.inl h.bg,fun g hg=>?_,fun g hg=>?_,fun g hg=>?_,?_⟩
   · exact iY o2 (iY ho h.row (fun b hb e=>(h.bu b e.symm).2.2 hb)) (fun b hb e=>(h.aJ b hb).2 e)
   · exact iY o2 hr (fun b hb e=>pd b hb e)
   · exact iY o2 (iY ho h.iX (fun b hb e=>(h.bX b hb).2.2.2 e.symm)) (fun b hb e=>(h.bX b hb).2.1 e)
   · exact ⟨.inl (h.aJ g hg).1,(h.aJ g hg).2⟩
   · exact ⟨.inr hg,pd g hg,(fun e=>by rcases hform g hg with h4 | h4;exact (h.bu g h4).2.2 e;have:=h1 g e;omega)⟩
   · exact ⟨.inl (h.bX g hg).1,(h.bX g hg).2.1,(h.bX g hg).2.2.1,(fun e=>by rcases hform g e with h4 | h4;exact (h.bX g hg).2.2.2 h4;have:=h3 g hg;omega)⟩
   · intro j hj
     rcases hj with hj | hj
     · exact ltT (h.lt j hj) (zQ0 ho.size o2.size)
     · exact ltT (aq j hj) o2.size
 · intro j hj
   rcases hj with hj | hj
   · exact .inl hj
   · rcases hform j hj with h4 | h4
     · exact .inl (rF j h4).1
     · exact .inr h4
theorem eG.kT (h:eG w F mb vl vu ve xs us ne evs) {ne':Nat} {rV:List Value} (ho:aj (fun j=>some j=ve.ownBlock) w u) {r:Value} (hform:∀g,r.ownBlock=some g->ve.ownBlock=some g\/w.heap.size<=g) (hr:u.ownsRow 0 187 13 r ne' rV):
    lA w F mb ⟨xs,us,ne',rV⟩ (u.setCell ⟨mb,2,none⟩ r):=by
 have h1:∀g,vl.ownBlock=some g->g<w.heap.size:=fun g hg=>h.lt g (h.aJ g hg).1
 have h2:∀g,vu.ownBlock=some g->g<w.heap.size:=fun g hg=>h.lt g (h.bu g hg).1
 have h3:∀g,ve.ownBlock=some g->g<w.heap.size:=fun g hg=>h.lt g (h.bX g hg).1
 have rF:∀g,ve.ownBlock=some g->F g/\g≠mb:=fun g hg=>⟨(h.bX g hg).1,(h.bX g hg).2.1⟩
 have n0:¬some mb=ve.ownBlock:=fun e=>(rF mb e.symm).2 rfl
 have hb:=h.blt
 have hc:u.cell? ⟨mb,2,none⟩=some ve:=(ho.cell hb n0 _).trans h.ev
 have o2:=aj.setCell u ⟨mb,2,none⟩ r
 have pd:∀g,r.ownBlock=some g->g≠mb:=by
  intro g hg
  rcases hform g hg with h4 | h4
  · exact (rF g h4).2
  · omega
 have aq:∀g,r.ownBlock=some g->g<u.heap.size:=by
  intro g hg
  rcases hr.2 with ⟨e,_⟩ | ⟨b,c,cur,e,_,hh,_⟩
  · rw [e] at hg;cases hg
  · rw [e] at hg;cases hg;exact (zZ2.1 hh).1
 have nN:∀k,k≠2->(u.setCell ⟨mb,2,none⟩ r).cell? ⟨mb,k,none⟩=u.cell? ⟨mb,k,none⟩:=fun k hk=>World.cell?_setCell_other _ _ _ _ (fun e=>hk (by injection e with _ e2;exact e2.symm))
 refine ⟨(ho.mono fun j hj=> .inl (rF j hj.symm).1).then (o2.mono fun j hj=> .inl (by subst hj;exact h.bg)),fun j=>F j\/r.ownBlock=some j,⟨vl,vu,r,?_⟩,?_⟩
 · refine ⟨by rw [nN _ (by omega)];exact (ho.cell hb n0 _).trans h.live,by rw [nN _ (by omega)];exact (ho.cell hb n0 _).trans h.used,by simp [World.cell?_setCell_same,hc],fun i hi=>by rw [World.frozen?_setCell];exact (ho.frozen hb n0 _).trans (h.fz i hi),?_,?_,?_,.inl h.bg,fun g hg=>?_,fun g hg=>?_,fun g hg=>?_,?_⟩
   · exact iY o2 (iY ho h.row (fun b hb e=>(h.bX b e.symm).2.2.1 hb)) (fun b hb e=>(h.aJ b hb).2 e)
   · exact iY o2 (iY ho h.qy (fun b hb e=>(h.bX b e.symm).2.2.2 hb)) (fun b hb e=>(h.bu b hb).2.1 e)
   · exact iY o2 hr (fun b hb e=>pd b hb e)
   · exact ⟨.inl (h.aJ g hg).1,(h.aJ g hg).2⟩
   · exact ⟨.inl (h.bu g hg).1,(h.bu g hg).2.1,(h.bu g hg).2.2⟩
   · exact ⟨.inr hg,pd g hg,(fun e=>by rcases hform g hg with h4 | h4;exact (h.bX g h4).2.2.1 e;have:=h1 g e;omega),(fun e=>by rcases hform g hg with h4 | h4;exact (h.bX g h4).2.2.2 e;have:=h2 g e;omega)⟩
   · intro j hj
     rcases hj with hj | hj
     · exact ltT (h.lt j hj) (zQ0 ho.size o2.size)
     · exact ltT (aq j hj) o2.size
 · intro j hj
   rcases hj with hj | hj
   · exact .inl hj
   · rcases hform j hj with h4 | h4
     · exact .inl (rF j h4).1
     · exact .inr h4
end
end
end Go.Proofs.YtbnofojapimfcaaGreatDoor
