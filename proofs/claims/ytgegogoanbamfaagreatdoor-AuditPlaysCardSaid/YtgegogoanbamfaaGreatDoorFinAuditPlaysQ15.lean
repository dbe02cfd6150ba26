/- Part 15. -/
import Derived.Test.YtgegogoanbamfaaGreatDoorFinAuditPlaysQ8
import Derived.Test.YtgegogoanbamfaaGreatDoorFinAuditPlaysQ9
import Derived.Test.YtgegogoanbamfaaGreatDoorFinAuditPlaysQ12
import Derived.Test.YtgegogoanbamfaaGreatDoorFinAuditPlaysQ14
set_option linter.unusedVariables false
set_option linter.unusedSectionVars false
set_option linter.unusedSimpArgs false
set_option maxRecDepth 100000
set_option maxHeartbeats 16000000
namespace Go.Proofs.YtgegogoanbamfaaGreatDoor
namespace Pl
end Pl
open Pl Go.Proofs.Tryz Go.RowKit Go.Maps
attribute [local go_sem] Oper.semAt_some
section
attribute [local go_sem] bl
theorem Zg:(prog.info? 124).map (fun i=>(i.zero,i.size,i.bytes))=some (some (.agg #[.int .i64 0,.int .i64 0,.int .i64 0,.int .i64 0,.int .i64 0,.int .i64 0,.int .i64 0,.slice none 0 0,.string ⟨#[]⟩,.int .i64 0,.int .i64 0,.int .i64 0,.slice none 0 0]),13,144):=by kernel_rfl
theorem QZ:(Value.cells (.agg #[.int .i64 0,.int .i64 0,.int .i64 0,.int .i64 0,.int .i64 0,.int .i64 0,.int .i64 0,.slice none 0 0,.string ⟨#[]⟩,.int .i64 0,.int .i64 0,.int .i64 0,.slice none 0 0])).size=13:=by kernel_rfl
def ja (at':Int)(e:En):List Value:=.int .i64 at'::e.vals
theorem KQ (at':Int)(e:En):∀u∈ja at' e,u.oneCell'=true:=by
 intro u hu;simp only[ja,En.vals,zX0,yX6,or_false]at hu;rcases hu with rfl | rfl | rfl | rfl | rfl | rfl | rfl | rfl | rfl | rfl | rfl | rfl | rfl<;> rfl
section
variable {w u:World}{F:Nat->Prop}{sb:Nat}{v ve:Value}{xs:List Sh}{aD:Nat->Bool}{ne:Nat}{evs:List Value}
theorem fK.nK {ne':Nat}{vQ:List Value}(h:fK w F sb v ve xs aD ne evs)(ho:ar (fun j=>some j=ve.ownBlock) w u){r:Value}(cF:∀g,r.ownBlock=some g->ve.ownBlock=some g\/w.heap.size<=g)(hr:u.ownsRow 0 124 13 r ne' vQ)(tA:0<ne'):
    uG w F sb xs aD ne' vQ (u.setCell ⟨sb,14,none⟩ r):=by
 have n0:¬some sb=ve.ownBlock:=fun e=>(h.bR sb e.symm).2.1 rfl;have hb:=h.blt;have hb2:sb<u.heap.size:=xA9 hb ho.size;have hc:u.cell? ⟨sb,14,none⟩=some ve:=(ho.cell hb n0 14).trans h.ev;have o2:=ar.setCell u ⟨sb,14,none⟩ r;have yC:∀g,r.ownBlock=some g->g≠sb:=by
  intro g hg;rcases cF g hg with h1 | h1
  . exact(h.bR g h1).2.1
  . omega
 have az:∀g,r.ownBlock=some g->g<u.heap.size:=by
  intro g hg;rcases hr.2 with⟨e,_⟩ | ⟨b,c,cur,e,_,hh,_⟩
  . rw[e]at hg;cases hg
  . rw[e]at hg;cases hg;exact(zZ2.1 hh).1
 have qF:∀k,k≠14->(u.setCell ⟨sb,14,none⟩ r).cell? ⟨sb,k,none⟩=u.cell? ⟨sb,k,none⟩:=fun k hk=>World.cell?_setCell_other _ _ _ _ (fun e=>hk (by injection e with _ e2;exact e2.symm));refine⟨(ho.mono fun j hj=> .inl (h.bR j hj.symm).1).then (o2.mono fun j hj=> .inl (by subst hj;exact h.bH)),fun j=>F j\/r.ownBlock=some j,⟨v,r,?_⟩,?_⟩
 . refine⟨?_,fun i hi=>?_,by simp[World.cell?_setCell_same,hc],fun i hi=>?_,?_,?_,h.sz,.inl h.bH,fun g hg=>⟨.inl (h.aY g hg).1,(h.aY g hg).2⟩,fun g hg=>⟨.inr hg,yC g hg,fun e=>?_⟩,?_,fun e0=>absurd e0 (Nat.ne_of_gt tA)⟩
   . rw[qF _ (by omega)];exact(ho.cell hb n0 _).trans h.bZ
   . rw[qF _ (by omega)];exact(ho.cell hb n0 _).trans (h.aD i hi)
   . rw[World.frozen?_setCell];exact(ho.frozen hb n0 _).trans (h.fz i hi)
   . have hl:=kH ho h.row (fun b hb e=>(h.bR b e.symm).2.2 hb);exact kH o2 hl (fun b hb e=>(h.aY b hb).2 e)
   . exact kH o2 hr (fun b hb e=>yC b hb e)
   . rcases cF g hg with h4 | h4
     . exact(h.bR g h4).2.2 e
     . have:=h.lt g (h.aY g e).1;omega
   . intro j hj;rcases hj with hj | hj
     . exact xA9 (h.lt j hj) (zZ6 ho.size o2.size)
     . exact xA9 (az j hj) o2.size
 . intro j hj;rcases hj with hj | hj
   . exact .inl hj
   . rcases cF j hj with h1 | h1
     . exact .inl (h.bR j h1).1
     . exact .inr h1
end
def eW (w:World)(b:Nat)(e:En):Prop:=∀k v,e.vals[k]? =some v->w.cell? ⟨b,k,none⟩=some v
theorem eW.eC (w:World)(e:En)(t:TypeId):eW (w.alloc (.cells e.vals.toArray t)) w.heap.size e:=by
 intro k v hv;have hb:(w.alloc (Obj.cells e.vals.toArray t)).heap[w.heap.size]? =some (Obj.cells e.vals.toArray t):=by
  show(w.heap.push _)[w.heap.size]? =_;simp
 simp only[World.cell?,hb];simpa using hv
theorem eW.only {w w':World}{b:Nat}{e:En}{S:Nat->Prop}(h:eW w b e)(g:ar S w w')(hb:b<w.heap.size)(hS:¬S b):eW w' b e:=fun k v hv=>(g.cell hb hS k).trans (h k v hv)
theorem eW.ah {w w':World}{b:Nat}{e:En}(h:eW w b e)(g:ae w w')(hb:b<w.heap.size):eW w' b e:=h.only (g.only fun _=>False) hb (fun h=>h)
theorem eW.cells {w:World}{b:Nat}{e:En}(h:eW w b e):w.cell? ⟨b,0,none⟩=some (.int .i64 e.ax)/\w.cell? ⟨b,1,none⟩=some (.int .i64 e.aj)/\w.cell? ⟨b,2,none⟩=some (.int .i64 e.ak)/\w.cell? ⟨b,3,none⟩=some (.int .i64 e.aq)/\w.cell? ⟨b,4,none⟩=some (.int .i64 e.aw)/\w.cell? ⟨b,5,none⟩=some (.int .i64 e.seq)/\w.cell? ⟨b,6,none⟩=some (.slice e.aN e.ops.length e.aS)/\w.cell? ⟨b,7,none⟩=some (.string e.key)/\w.cell? ⟨b,8,none⟩=some (.int .i64 e.aM)/\w.cell? ⟨b,9,none⟩=some (.int .i64 e.aL)/\w.cell? ⟨b,10,none⟩=some (.int .i64 e.aA)/\w.cell? ⟨b,11,none⟩=some (.slice e.aF e.aB e.aG):=
 ⟨h 0 _ rfl,h 1 _ rfl,h 2 _ rfl,h 3 _ rfl,h 4 _ rfl,h 5 _ rfl,h 6 _ rfl,h 7 _ rfl,h 8 _ rfl,h 9 _ rfl,h 10 _ rfl,h 11 _ rfl⟩
namespace Pl
def gp (xs:List Sh)(aD:Nat->Bool)(e:En)(at':Int):Bool:=jG xs aD e && decide (0<=at') && decide (at'<4096)
end Pl
section
variable {S:Nat->Bool}(hS:iM S)(E:Nat->Addr){w:World}(hE:bz S E w){F:Nat->Prop}{sb:Nat}{xs:List Sh}{aD:Nat->Bool}{ne:Nat}{evs:List Value}(h:gR w F sb xs aD ne evs)(hx:xs.length<=1000)(e:En)(hA:b7 w e)(bX:e.key.size<=70368744177664)
include hS hE h hx hA bX
theorem Zh (at':Int)(hno:gp xs aD e at'=false):
    Calls prog 32 #[.pointer (some ⟨sb,0,none⟩),e.agg,.int .i64 at'] w fun r w'=>r=.returned (.bool false)/\ae w w':=by
 have HC:=af (fun W (g:ae w W)=>QN hS E (hE.ah g) (h.ah g) (by omega:xs.length<=1000000) e (hA.ah g) bX);have hb:sb<w.heap.size:=by obtain⟨_,_,h⟩:=h;exact h.blt
 cases hc:Pl.jG xs aD e with
 | false=>
  rw[hc]at HC;clear hc hno hA hE h;unfold En.agg En.vals at *;go_in;go_wp2_with fail;refine(HC _ ((ae.rf w).alloc _)).mono ?_;rintro r w1 ⟨rfl,hg⟩;have hG:=hg.jy;clear hg;go_wp2_with fail;go_ret;exact⟨rfl,hG⟩
 | true=>
  rw[hc]at HC;have hat:at'<0\/(0<=at'/\4096<=at'):=by
   unfold gp at hno;rw[hc]at hno;simp at hno;omega
  clear hc hno hA hE h;unfold En.agg En.vals at *;rcases hat with ha | ⟨ha,ha2⟩
  . go_in;go_wp2_with fail;refine(HC _ ((ae.rf w).alloc _)).mono ?_;rintro r w1 ⟨rfl,hg⟩;have hG:=hg.jy;clear hg;go_wp2_with fail;go_ret;exact⟨rfl,hG⟩
  . have ha':¬at'<0:=(by omega);go_in;go_wp2_with fail;refine(HC _ ((ae.rf w).alloc _)).mono ?_;rintro r w1 ⟨rfl,hg⟩;have hG:=hg.jy;clear hg;go_wp2_with fail;go_ret;exact⟨rfl,hG⟩
theorem z4o (at':Int)(jM:gp xs aD e at'=true)(k2:e.ax=2)(i:Nat)(hi:i<xs.length)(hf:Pl.aK xs e.aj=(i:Nat)):
    Calls prog 32 #[.pointer (some ⟨sb,0,none⟩),e.agg,.int .i64 at'] w fun r w'=>r=.returned (.bool true)/\uG w F sb (xs.set i ⟨(ai xs i).id,e.aq,(ai xs i).cJ,(ai xs i).lo,(ai xs i).hi⟩) aD ne evs w':=by
 have HC:=af (fun W (g:ae w W)=>QN hS E (hE.ah g) (h.ah g) (by omega:xs.length<=1000000) e (hA.ah g) bX);have ic:=af (fun W (g:ae w W)=>yr (h.ah g) (by omega:xs.length<=1000000) e.aj);obtain⟨v,ve,h⟩:=h;obtain⟨b,cap,rfl,_,eT⟩:=h.row.form (by omega:0<xs.length);have c0:=h.bZ;have hb:=h.blt;have pd:b≠sb:=(h.aY b rfl).2;rw[hf]at ic;have tu:¬((i:Int)<0):=by omega
 have BR:(i:Int)<(xs.length:Int):=by omega
 have HS:=af h;have HI:=af hi;have hap:=jM;unfold gp at hap;simp only[zZ7,wZ2]at hap;obtain⟨⟨hc,ha0⟩,ha1⟩:=hap;have rr:¬at'<0:=by omega
 have ru:¬4096<=at':=by omega
 rw[hc]at HC;clear jM hc hA hE hf h hi;unfold En.agg En.vals at *;obtain⟨ax,aj,ak,aq,aw,seq,key,aM,aL,aA,ops,aN,aS,aF,aB,aG⟩:=e;dsimp only at *;subst k2;go_in;go_wp2_with fail;refine(HC _ ((ae.rf w).alloc _)).mono ?_;rintro r w1 ⟨rfl,hg⟩;have hG:=hg.jy;have hcc:=hg.cells.1;have hz:w.heap.size<w1.heap.size:=by have:=hg.size;simp at this;omega
 have HG:=af hG;have E0:w1.cell? ⟨w.heap.size,0,none⟩=some (.int .i64 2):=(hcc _ _ (by simp)).trans (by simp[go_sem]);have E1:=bj ((hcc w.heap.size 1 (by simp)).trans (by simp[go_sem]:_=some (.int .i64 aj)));have E3:=bj ((hcc w.heap.size 3 (by simp)).trans (by simp[go_sem]:_=some (.int .i64 aq)));clear hg hG hcc;go_wp2_with fail;have hb1:sb<w1.heap.size:=xA9 hb HG.size;have vN:b<w1.heap.size:=xA9 eT HG.size;have C0:=bj ((HG.cells.1 _ _ hb).trans c0);clear HC c0;refine jA 10 [] (ae w1) ae (fun _ _ x=>ae w1 x) (fun _ a=>a) (ae.rf w1).drew (fun _ _ _ h=>h) ae.rf (fun _ _ _ _ h g=>h.trans g) ?_;repeat (first|refine iX ?_|(refine iZ ?_;intros;go_big_quiet_op;go_big_quiet_on)|(refine sx (fun _=>by kernel_rfl) (fun u hu=>ic u (HG.trans hu)) ?_;simp only[Act.put,xB9,xC9,xD9])|(refine iY ?_;simp only[Act.put,xB9,xC9,xD9]))
 refine mi (by rfl) ⟨trivial,?_⟩;rintro f0 x hgx;have HX:=af (HS.ah (HG.trans hgx));have ke:=af (HG.trans hgx);have s1:=qE HX rfl i HI 1 (by omega);simp only[Sh.vals,zJ1,zJ2]at s1;have f1:x.frozen? ⟨b,i*5+1,none⟩=false:=HX.row.frozenAt _;clear E0 E1 E3 C0 hgx ic;dsimp only[List.drop];go_wp2_with fail;go_ret;refine⟨rfl,?_⟩;have yK:=HX.Hv i HI aq;refine⟨(ke.only F).then ((ar.setCell x ⟨b,i*5+1,none⟩ _).mono fun j hj=> .inl (by subst hj;exact(HS.aY _ rfl).1)),F,⟨_,_,yK⟩,fun _=> .inl⟩
end
end
section
attribute [local go_sem] bl
section
variable {S:Nat->Bool}(hS:iM S)(E:Nat->Addr){w:World}(hE:bz S E w){F:Nat->Prop}{sb:Nat}{xs:List Sh}{aD:Nat->Bool}{ne:Nat}{evs:List Value}(h:gR w F sb xs aD ne evs)(hx:xs.length<=1000)(e:En)(hA:b7 w e)(bX:e.key.size<=70368744177664)
include hS hE h hx hA bX
theorem z1V (hne:ne<=1000000)(at':Int)(jM:gp xs aD e at'=true)(k2:e.ax=3)(i:Nat)(hi:i<xs.length)(hf:Pl.aK xs e.aj=(i:Nat))(o1:1<=e.ak)(o2:e.ak<=12)(hcut:Pl.eA (Pl.bD (ai xs i).lo (ai xs i).hi) (Pl.aT e.key) (Pl.bk (ai xs i).lo (ai xs i).hi e.key) (ai xs i).lo e.key=0):
    Calls prog 32 #[.pointer (some ⟨sb,0,none⟩),e.agg,.int .i64 at'] w fun r w'=>r=.returned (.bool true)/\uG w F sb (Pl.kz xs i e.key e.ak e.aq at') (tz aD e.ak.toNat) (ne+1) (evs++ja at' e) w':=by
 have HC:=af (fun W (g:ae w W)=>QN hS E (hE.ah g) (h.ah g) (by omega:xs.length<=1000000) e (hA.ah g) bX);have hap:=jM;unfold gp at hap;simp only[zZ7,wZ2]at hap;obtain⟨⟨hc,ha0⟩,ha1⟩:=hap;have HP:=af (fun W (g:ae w W)=>z6p hS E (hE.ah g) (h.ah g) hx e bX at' ha0 (by omega) i hi hf o1 o2 hcut);have tB:Hid (∀j,F j->j<w.heap.size):=by obtain⟨_,_,h⟩:=h;exact h.lt
 have Mc:sb<w.heap.size:=by obtain⟨_,_,h⟩:=h;exact h.blt
 have rr:¬at'<0:=by omega
 have ru:¬4096<=at':=by omega
 rw[hc]at HC;have HW:=af (eW.eC w e 36);have HV:=af (KQ at' e);have Hy:(ja at' e).length=13:=rfl;have Hz:Hid (ja at' e=.int .i64 at'::e.vals):=rfl;clear jM hc hA hE h hi hf o1 o2 hcut;generalize (Pl.kz xs i e.key e.ak e.aq at')=XS at *;have b2:(e.ax==2)=false:=by rw[k2];rfl
 have b3:(e.ax==3)=true:=by rw[k2];rfl
 clear k2;unfold En.agg at *;go_in;unfold En.vals at HC HP ⊢;go_wp2_with fail;refine(HC _ ((ae.rf w).alloc _)).mono ?_;rintro r w1 ⟨rfl,hg⟩;have hz:w.heap.size<w1.heap.size:=by have:=hg.size;simp at this;omega
 have HG:=af (((ae.rf w).alloc _).trans hg);have bM:=af (HW.ah hg (by simp));obtain⟨d0,d1,d2,d3,d4,d5,d6,d7,d8,d9,d10,d11⟩:=bM.cells;clear hg HC;go_wp2_with fail;refine(HP w1 HG).mono ?_;rintro r w2 ⟨rfl,o2,F2,⟨v2,iv,h2⟩,hF2⟩;have tC:¬F w.heap.size:=fun h=>yX2 _ (tB.out _ h);have kT:=af (bM.only o2 hz tC);have hz2:w.heap.size<w2.heap.size:=xA9 hz o2.size;have aH:∀g,iv.ownBlock=some g->g≠w.heap.size:=by
  intro g hg e0;rcases hF2 g (h2.bR g hg).1 with h | h
  . exact tC (e0▸h)
  . omega
 have j4:=af h2;have nC:=af hF2;have uJ:=af o2;have b9:¬some w.heap.size=iv.ownBlock:=fun e0=>aH _ e0.symm rfl;have iA:¬some sb=iv.ownBlock:=fun e0=>(h2.bR sb e0.symm).2.1 rfl;have nL:sb<w2.heap.size:=h2.blt;clear d0 d1 d2 d3 d4 d5 d6 d7 d8 d9 d10 d11 HP o2 hF2 h2 aH;obtain⟨d0,d1,d2,d3,d4,d5,d6,d7,d8,d9,d10,d11⟩:=kT.cells;go_wp2_with fail;have C0:=bu (S:=fun j=>some j=iv.ownBlock) j4.out.ev iA;have D0:=bu (S:=fun j=>some j=iv.ownBlock) d0 b9;have D1:=bu (S:=fun j=>some j=iv.ownBlock) d1 b9;have D2:=bu (S:=fun j=>some j=iv.ownBlock) d2 b9;have D3:=bu (S:=fun j=>some j=iv.ownBlock) d3 b9;have D4:=bu (S:=fun j=>some j=iv.ownBlock) d4 b9;have D5:=bu (S:=fun j=>some j=iv.ownBlock) d5 b9;have D6:=bu (S:=fun j=>some j=iv.ownBlock) d6 b9;have D7:=bu (S:=fun j=>some j=iv.ownBlock) d7 b9;have D8:=bu (S:=fun j=>some j=iv.ownBlock) d8 b9;have D9:=bu (S:=fun j=>some j=iv.ownBlock) d9 b9;have tD:=bu (S:=fun j=>some j=iv.ownBlock) d10 b9;have tE:=bu (S:=fun j=>some j=iv.ownBlock) d11 b9;clear d0 d1 d2 d3 d4 d5 d6 d7 d8 d9 d10 d11;obtain⟨i0,dA,hz0,hz1,hz3⟩:=wZ8 Zg;refine jA 10 [8,9] (ar (fun j=>some j=iv.ownBlock) w2) Eq (fL 124 8 9 w2 (ja at' e) (lR 124 13 iv ne evs (ja at' e))) (fun f a=>(a.put (some 55) (f 8)).put (some 56) (f 9)) (fL.aX w2) (fun L f x h=>h.only fun _ _ _ h=>h.only) (fun _=>rfl) (fun _ _ _ _ h g=>g▸h) ?_;repeat (first|refine iX ?_|(refine iZ ?_;intros;go_big_quiet_op;go_big_quiet_on)|(refine iY ?_;simp only[Act.put,xB9,xC9,xD9]))
 refine mi (by rfl) ⟨⟨bL rfl (fun _ a=>a) ?_,bL rfl (fun f a=>a.put (some 55) (f 8)) ?_,trivial⟩,?_⟩
 . intro L f x hJ hL hd;clear C0 D0 D1 D2 D3 D4 D5 D6 D7 D8 D9 tD tE;have hm:=hJ.make (by decide) hL;have ky:=af hm;clear hm hJ;rw[Hz.out]at ky;unfold En.vals at ky;go_simp;exact ky.out
 . intro L f x hJ hL hd;clear C0 D0 D1 D2 D3 D4 D5 D6 D7 D8 D9 tD tE;have h8:=hd 8 rfl (by decide);obtain⟨vb,q8,yI,dP⟩:=hJ.made h8 hL;refine CG (.tmp 51) (.tmp 55) _ rfl 124 i0 _ 13 144 underlying113 dA hz0 hz1 hz3 QZ (by omega) iv ne evs rfl ?_ vb 1 (ja at' e) ?_ Hy dP HV (by unfold maxLen;omega) (by omega) ?_
   . exact gP (hJ.ah hL) j4.out.iL
   . exact q8
   . intro r w' hD;exact hJ.call (by decide) hL h8 hD
 rintro f x hJ;clear C0 D0 D1 D2 D3 D4 D5 D6 D7 D8 D9 tD tE;obtain⟨x0,g0,g3,c3,q9,aJ,hgr,hat⟩:=hJ.done rfl;rw[q9];have eN:ar (fun j=>some j=iv.ownBlock) w2 x:=(g0.only _).then (ar.ay hgr);have C3:x.cell? ⟨sb,14,none⟩=some iv:=(eN.cell nL iA 14).trans j4.out.ev;have F3:x.frozen? ⟨sb,14,none⟩=false:=(eN.frozen nL iA 14).trans (j4.out.fz 14 (by omega));have HT:=af (j4.out.nK eN (r:=.slice (some ⟨g3,0,none⟩) (ne+1) c3) (fun g hg=>by
  cases hg;rcases hat with h | h
  . exact .inl h
  . exact .inr (by rw[h];exact g0.size)) aJ (Nat.succ_pos _))
 clear hJ q9 aJ hgr hat eN g0;dsimp only[List.drop];go_wp2_with fail;go_ret;refine⟨rfl,uG.trans ((HG.only F).then uJ) (fun j hj=>?_) HT⟩;rcases nC.out j hj with h | h
 . exact .inl h
 . exact .inr (zZ6 HG.size h)
end
end
section
attribute [local go_sem] bl
section
variable {S:Nat->Bool}(hS:iM S)(E:Nat->Addr){w:World}(hE:bz S E w){F:Nat->Prop}{sb:Nat}{xs:List Sh}{aD:Nat->Bool}{ne:Nat}{evs:List Value}(h:gR w F sb xs aD ne evs)(hx:xs.length<=1000)(e:En)(hA:b7 w e)(bX:e.key.size<=70368744177664)
include hS hE h hx hA bX
theorem z1Z (hne:ne<=1000000)(at':Int)(jM:gp xs aD e at'=true)(k2:e.ax=4)(i:Nat)(hi:i<xs.length)(hf:Pl.aK xs e.aj=(i:Nat))(j:Nat)(hj:j<xs.length)(nI:Pl.aK xs e.ak=(j:Nat))(rq:Pl.bg (Pl.bD (ai xs i).lo (ai xs i).hi) (Pl.bD (ai xs j).lo (ai xs j).hi) (ai xs i).lo (ai xs i).hi (ai xs j).lo (ai xs j).hi=0):
    Calls prog 32 #[.pointer (some ⟨sb,0,none⟩),e.agg,.int .i64 at'] w fun r w'=>r=.returned (.bool true)/\uG w F sb (Pl.kJ xs i j (Pl.aW (Pl.bD (ai xs i).lo (ai xs i).hi) (Pl.bD (ai xs j).lo (ai xs j).hi) (ai xs i).lo (ai xs i).hi (ai xs j).lo (ai xs j).hi) at') aD (ne+1) (evs++ja at' e) w':=by
 have HC:=af (fun W (g:ae w W)=>QN hS E (hE.ah g) (h.ah g) (by omega:xs.length<=1000000) e (hA.ah g) bX);have hap:=jM;unfold gp at hap;simp only[zZ7,wZ2]at hap;obtain⟨⟨hc,ha0⟩,ha1⟩:=hap;have HP:=af (fun W (g:ae w W)=>z5T hS E (hE.ah g) (h.ah g) hx e at' ha0 (by omega) i hi hf j hj nI rq);have tB:Hid (∀j,F j->j<w.heap.size):=by obtain⟨_,_,h⟩:=h;exact h.lt
 have Mc:sb<w.heap.size:=by obtain⟨_,_,h⟩:=h;exact h.blt
 have rr:¬at'<0:=by omega
 have ru:¬4096<=at':=by omega
 rw[hc]at HC;have HW:=af (eW.eC w e 36);have HV:=af (KQ at' e);have Hy:(ja at' e).length=13:=rfl;have Hz:Hid (ja at' e=.int .i64 at'::e.vals):=rfl;clear jM hc hA hE h hi hf hj nI rq;generalize (Pl.kJ xs i j (Pl.aW (Pl.bD (ai xs i).lo (ai xs i).hi) (Pl.bD (ai xs j).lo (ai xs j).hi) (ai xs i).lo (ai xs i).hi (ai xs j).lo (ai xs j).hi) at')=XS at *;have b2:(e.ax==2)=false:=by rw[k2];rfl
 have b3:(e.ax==3)=false:=by rw[k2];rfl
 have b4:(e.ax==4)=true:=by rw[k2];rfl
 clear k2;unfold En.agg at *;go_in;unfold En.vals at HC HP ⊢;go_wp2_with fail;refine(HC _ ((ae.rf w).alloc _)).mono ?_;rintro r w1 ⟨rfl,hg⟩;have hz:w.heap.size<w1.heap.size:=by have:=hg.size;simp at this;omega
 have HG:=af (((ae.rf w).alloc _).trans hg);have bM:=af (HW.ah hg (by simp));obtain⟨d0,d1,d2,d3,d4,d5,d6,d7,d8,d9,d10,d11⟩:=bM.cells;clear hg HC;go_wp2_with fail;refine(HP w1 HG).mono ?_;rintro r w2 ⟨rfl,o2,F2,⟨v2,iv,h2⟩,hF2⟩;have tC:¬F w.heap.size:=fun h=>yX2 _ (tB.out _ h);have kT:=af (bM.only o2 hz tC);have hz2:w.heap.size<w2.heap.size:=xA9 hz o2.size;have aH:∀g,iv.ownBlock=some g->g≠w.heap.size:=by
  intro g hg e0;rcases hF2 g (h2.bR g hg).1 with h | h
  . exact tC (e0▸h)
  . omega
 have j4:=af h2;have nC:=af hF2;have uJ:=af o2;have b9:¬some w.heap.size=iv.ownBlock:=fun e0=>aH _ e0.symm rfl;have iA:¬some sb=iv.ownBlock:=fun e0=>(h2.bR sb e0.symm).2.1 rfl;have nL:sb<w2.heap.size:=h2.blt;clear d0 d1 d2 d3 d4 d5 d6 d7 d8 d9 d10 d11 HP o2 hF2 h2 aH;obtain⟨d0,d1,d2,d3,d4,d5,d6,d7,d8,d9,d10,d11⟩:=kT.cells;go_wp2_with fail;have C0:=bu (S:=fun j=>some j=iv.ownBlock) j4.out.ev iA;have D0:=bu (S:=fun j=>some j=iv.ownBlock) d0 b9;have D1:=bu (S:=fun j=>some j=iv.ownBlock) d1 b9;have D2:=bu (S:=fun j=>some j=iv.ownBlock) d2 b9;have D3:=bu (S:=fun j=>some j=iv.ownBlock) d3 b9;have D4:=bu (S:=fun j=>some j=iv.ownBlock) d4 b9;have D5:=bu (S:=fun j=>some j=iv.ownBlock) d5 b9;have D6:=bu (S:=fun j=>some j=iv.ownBlock) d6 b9;have D7:=bu (S:=fun j=>some j=iv.ownBlock) d7 b9;have D8:=bu (S:=fun j=>some j=iv.ownBlock) d8 b9;have D9:=bu (S:=fun j=>some j=iv.ownBlock) d9 b9;have tD:=bu (S:=fun j=>some j=iv.ownBlock) d10 b9;have tE:=bu (S:=fun j=>some j=iv.ownBlock) d11 b9;clear d0 d1 d2 d3 d4 d5 d6 d7 d8 d9 d10 d11;obtain⟨i0,dA,hz0,hz1,hz3⟩:=wZ8 Zg;refine jA 10 [8,9] (ar (fun j=>some j=iv.ownBlock) w2) Eq (fL 124 8 9 w2 (ja at' e) (lR 124 13 iv ne evs (ja at' e))) (fun f a=>(a.put (some 55) (f 8)).put (some 56) (f 9)) (fL.aX w2) (fun L f x h=>h.only fun _ _ _ h=>h.only) (fun _=>rfl) (fun _ _ _ _ h g=>g▸h) ?_;repeat (first|refine iX ?_|(refine iZ ?_;intros;go_big_quiet_op;go_big_quiet_on)|(refine iY ?_;simp only[Act.put,xB9,xC9,xD9]))
 refine mi (by rfl) ⟨⟨bL rfl (fun _ a=>a) ?_,bL rfl (fun f a=>a.put (some 55) (f 8)) ?_,trivial⟩,?_⟩
 . intro L f x hJ hL hd;clear C0 D0 D1 D2 D3 D4 D5 D6 D7 D8 D9 tD tE;have hm:=hJ.make (by decide) hL;have ky:=af hm;clear hm hJ;rw[Hz.out]at ky;unfold En.vals at ky;go_simp;exact ky.out
 . intro L f x hJ hL hd;clear C0 D0 D1 D2 D3 D4 D5 D6 D7 D8 D9 tD tE;have h8:=hd 8 rfl (by decide);obtain⟨vb,q8,yI,dP⟩:=hJ.made h8 hL;refine CG (.tmp 51) (.tmp 55) _ rfl 124 i0 _ 13 144 underlying113 dA hz0 hz1 hz3 QZ (by omega) iv ne evs rfl ?_ vb 1 (ja at' e) ?_ Hy dP HV (by unfold maxLen;omega) (by omega) ?_
   . exact gP (hJ.ah hL) j4.out.iL
   . exact q8
   . intro r w' hD;exact hJ.call (by decide) hL h8 hD
 rintro f x hJ;clear C0 D0 D1 D2 D3 D4 D5 D6 D7 D8 D9 tD tE;obtain⟨x0,g0,g3,c3,q9,aJ,hgr,hat⟩:=hJ.done rfl;rw[q9];have eN:ar (fun j=>some j=iv.ownBlock) w2 x:=(g0.only _).then (ar.ay hgr);have C3:x.cell? ⟨sb,14,none⟩=some iv:=(eN.cell nL iA 14).trans j4.out.ev;have F3:x.frozen? ⟨sb,14,none⟩=false:=(eN.frozen nL iA 14).trans (j4.out.fz 14 (by omega));have HT:=af (j4.out.nK eN (r:=.slice (some ⟨g3,0,none⟩) (ne+1) c3) (fun g hg=>by
  cases hg;rcases hat with h | h
  . exact .inl h
  . exact .inr (by rw[h];exact g0.size)) aJ (Nat.succ_pos _))
 clear hJ q9 aJ hgr hat eN g0;dsimp only[List.drop];go_wp2_with fail;go_ret;refine⟨rfl,uG.trans ((HG.only F).then uJ) (fun j hj=>?_) HT⟩;rcases nC.out j hj with h | h
 . exact .inl h
 . exact .inr (zZ6 HG.size h)
end
end
end Go.Proofs.YtgegogoanbamfaaGreatDoor
namespace Go.Proofs.YtgegogoanbamfaaGreatDoor.Pl
theorem WH (a:Int)(e:En):(ja a e).length=13:=rfl
theorem Sp (q:List Ac):∀(j:Nat) (hj:j<q.length) (i:Nat),i<13->(q.flatMap fun a=>ja a.at' a.e)[13*j+i]? =(ja q[j].at' q[j].e)[i]? :=by
 induction q with
 | nil=>intro j hj;exact absurd hj (yX4 _)
 | cons a q ih=>
  intro j hj i hi;rw[zK2];cases j with
  | zero=>rw[yK0 (by rw[WH];omega)];simp
  | succ j=>
   rw[yX5 (by rw[WH];omega),WH,show 13*(j+1)+i - 13=13*j+i by omega,ih j (by simpa using hj) i hi];rfl
end Go.Proofs.YtgegogoanbamfaaGreatDoor.Pl
namespace Go.Proofs.YtgegogoanbamfaaGreatDoor
namespace Pl
end Pl
open Pl Go.Proofs.Tryz Go.RowKit Go.Maps
attribute [local go_sem] Oper.semAt_some
namespace Pl
def ji (s:bG)(e:En):Bool:=
 if cK e=false then false
 else if aK s.xs e.aj<0 then false
 else if e.ax=2 then true
 else if e.ax=3 then !(s.us.any fun u=>u==e.ak) && fN (ai s.xs (aK s.xs e.aj).toNat).lo (ai s.xs (aK s.xs e.aj).toNat).hi e.key && !(e.key.toList==(ai s.xs (aK s.xs e.aj).toNat).lo.toList)
 else if e.ax=4 then
  if aK s.xs e.ak<0 then false
  else decide (bg (fJ (ai s.xs (aK s.xs e.aj).toNat).lo (ai s.xs (aK s.xs e.aj).toNat).hi) (fJ (ai s.xs (aK s.xs e.ak).toNat).lo (ai s.xs (aK s.xs e.ak).toNat).hi) (ai s.xs (aK s.xs e.aj).toNat).lo (ai s.xs (aK s.xs e.aj).toNat).hi (ai s.xs (aK s.xs e.ak).toNat).lo (ai s.xs (aK s.xs e.ak).toNat).hi=0)
 else false
theorem Ss (xs:List Sh)(id:Int):aK xs id= -1\/∃i:Nat,i<xs.length/\aK xs id=(i:Nat):=by
 unfold aK dU;cases h:xs.findIdx? fun c=>c.id==id with
 | none=>exact .inl rfl
 | some i=>
  obtain⟨hi,_⟩:=yQ6.1 h;exact .inr ⟨i,hi,rfl⟩
end Pl
theorem z0B {w:World}{F:Nat->Prop}{mb:Nat}{s:bG}(h:fp w F mb s)(hx:s.xs.length<=1000)(hu:s.us.length<=1000000)(hsz:∀c∈s.xs,c.lo.size<=16777216/\c.hi.size<=16777216)(e:En)(hA:b7 w e)(hs:ly e):
    Calls prog 102 #[.pointer (some ⟨mb,0,none⟩),e.agg] w fun r w'=>r=.returned (.bool (Pl.ji s e))/\ae w w':=by
 have ic:=af (fun W (g:ae w W)=>LF (h.ah g) (by omega) e.aj);have nC:=af (fun W (g:ae w W)=>LF (h.ah g) (by omega) e.ak);have Le:=af (fun W (g:ae w W)=>Vn e W (hA.ah g) hs);have oK:=hs.key;obtain⟨xs,us,ne,evs⟩:=s;obtain⟨vl,vu,ve,h⟩:=h;dsimp only at *;obtain⟨a,cap,rfl,Su⟩:=z0Q h.row;obtain⟨a2,ep,rfl,hI⟩:=z4S h.uj;have c0:=h.bZ;have c1:=h.aD;have hb:=h.blt;have CJ:=af (fun W (g:ae w W)=>JY W a2 ep us (hI.ah g) hu e.ak);have mh:=af Su;have HZ:=af hsz;clear hsz
 have HC:Hid (∀b,b=Pl.ji ⟨xs,us,ne,evs⟩ e↔b=(if Pl.cK e=false then false else if Pl.aK xs e.aj<0 then false else if e.ax=2 then true else if e.ax=3 then !(us.any fun u=>u==e.ak) && Pl.fN (ai xs (Pl.aK xs e.aj).toNat).lo (ai xs (Pl.aK xs e.aj).toNat).hi e.key && !(e.key.toList==(ai xs (Pl.aK xs e.aj).toNat).lo.toList)
  else if e.ax=4 then(if Pl.aK xs e.ak<0 then false else decide (Pl.bg (Pl.fJ (ai xs (Pl.aK xs e.aj).toNat).lo (ai xs (Pl.aK xs e.aj).toNat).hi) (Pl.fJ (ai xs (Pl.aK xs e.ak).toNat).lo (ai xs (Pl.aK xs e.ak).toNat).hi) (ai xs (Pl.aK xs e.aj).toNat).lo (ai xs (Pl.aK xs e.aj).toNat).hi (ai xs (Pl.aK xs e.ak).toNat).lo (ai xs (Pl.aK xs e.ak).toNat).hi=0))else false)):=fun b=>Iff.rfl
 generalize Pl.ji ⟨xs,us,ne,evs⟩ e=rb at HC ⊢;clear h Su hI hA hs;have hfi:=Pl.Ss xs e.aj;have nI:=Pl.Ss xs e.ak;generalize Pl.aK xs e.aj=fi at *;generalize Pl.aK xs e.ak=fj at *;generalize Pl.cK e=rt at *;generalize (us.any fun u=>u==e.ak)=uo at *;obtain⟨ax,aj,ak,aq,aw,seq,key,aM,aL,aA,ops,aN,aS,aF,aB,aG⟩:=e;unfold En.agg En.vals at *;dsimp only at *;have KX:Hid (ae w (w.alloc (.cells #[.int .i64 ax,.int .i64 aj,.int .i64 ak,.int .i64 aq,.int .i64 aw,.int .i64 seq,.slice aN ops.length aS,.string key,.int .i64 aM,.int .i64 aL,.int .i64 aA,.slice aF aB aG] 36))):=(ae.rf w).alloc _;have hcs:=fun i v (hv:(#[Value.int .i64 ax,.int .i64 aj,.int .i64 ak,.int .i64 aq,.int .i64 aw,.int .i64 seq,.slice aN ops.length aS,.string key,.int .i64 aM,.int .i64 aL,.int .i64 aA,.slice aF aB aG]:Array Value)[i]? =some v)=>show(w.alloc (.cells #[.int .i64 ax,.int .i64 aj,.int .i64 ak,.int .i64 aq,.int .i64 aw,.int .i64 seq,.slice aN ops.length aS,.string key,.int .i64 aM,.int .i64 aL,.int .i64 aA,.slice aF aB aG] 36)).cell? ⟨w.heap.size,i,none⟩=some v by rw[wQ1 _ _ i _ _ _ (wZ0 w _)];exact hv
 have pG:=af hcs;have hz0:w.heap.size<(w.alloc (.cells #[.int .i64 ax,.int .i64 aj,.int .i64 ak,.int .i64 aq,.int .i64 aw,.int .i64 seq,.slice aN ops.length aS,.string key,.int .i64 aM,.int .i64 aL,.int .i64 aA,.slice aF aB aG] 36)).heap.size:=by simp
 have I5:=af hz0;clear hcs hz0;go_in;go_wp2_with fail;generalize hW0:w.alloc _=W0 at *;clear hW0;have E1:=bj (pG 1 _ rfl);have E2:=bj (pG 2 _ rfl);refine jA 10 [] (ae W0) ae (fun _ _ x=>ae W0 x) (fun _ a=>a) (ae.rf W0).drew (fun _ _ _ h=>h) ae.rf (fun _ _ _ _ h g=>h.trans g) ?_;iterate 4 (first|refine iX ?_|(refine iZ ?_;intros;go_big_quiet_op;go_big_quiet_on)|(refine sx (fun _=>by kernel_rfl) (fun u hu=>ic u (KX.trans hu)) ?_;simp only[Act.put,xB9,xC9,xD9])|(refine iY ?_;simp only[Act.put,xB9,xC9,xD9]))
 repeat (first|refine iX ?_|(refine iZ ?_;intros;go_big_quiet_op;go_big_quiet_on)|(refine sx (fun _=>by kernel_rfl) (fun u hu=>nC u (KX.trans hu)) ?_;simp only[Act.put,xB9,xC9,xD9])|(refine iY ?_;simp only[Act.put,xB9,xC9,xD9]))
 refine vM ⟨trivial,?_⟩;rintro f0 x hgx;dsimp only[List.drop];have ke:=af hgx;clear hgx E1 E2;have E:=fun i v hv=>(ke.cells.1 _ i I5).trans (pG i v hv);have E0:=E 0 _ rfl;have E1:=E 1 _ rfl;have E2:=E 2 _ rfl;have E3:=E 3 _ rfl;have E4:=E 4 _ rfl;have E5:=E 5 _ rfl;have E6:=E 6 _ rfl;have E7:=E 7 _ rfl;have E8:=E 8 _ rfl;have E9:=E 9 _ rfl;have E10:=E 10 _ rfl;have E11:=E 11 _ rfl;have HE:=af E;clear E;go_wp2_with fail;refine(Le _ (KX.trans ke)).mono ?_;rintro r y ⟨rfl,hgy⟩;have dg:=af (ke.trans hgy);clear E0 E1 E2 E3 E4 E5 E6 E7 E8 E9 E10 E11 hgy HE ke;have E:=fun i v hv=>(dg.cells.1 _ i I5).trans (pG i v hv);have E0:=E 0 _ rfl;have E2:=E 2 _ rfl;have E7:=E 7 _ rfl;clear E;have nh:=KX.trans dg;have yF:w.heap.size<y.heap.size:=xA9 I5 dg.size;have WQ:=(nh.cells.1 _ 0 hb).trans c0;have WR:=(nh.cells.1 _ 1 hb).trans c1;have hby:=xA9 hb nh.size;have mN:=af nh;clear c0 c1 nh Le ic nC;cases rt with
 | false=>
  go_wp2_with fail;go_ret;exact⟨bS ((HC _).2 (by simp)),mN⟩
 | true=>
  rcases hfi with rfl | ⟨i,hi,rfl⟩
  . go_wp2_with fail;go_ret;exact⟨bS ((HC _).2 (by simp)),mN⟩
  have dA:¬((i:Int)<0):=by omega
  have tu:(i:Int)<(xs.length:Int):=by omega
  by_cases k2:ax=2
  . subst k2;go_wp2_with fail;go_ret;exact⟨bS ((HC _).2 (by simp[dA])),mN⟩
  rcases mh.out with h0 | ⟨b,off,rfl,eT,hR⟩
  . rw[h0]at hi;simp at hi
  have q3:=(mN.cells.1 b (off+i*5+3) eT).trans (hR.lo i hi);have q4:=(mN.cells.1 b (off+i*5+4) eT).trans (hR.hi i hi);have j0B:=xA9 eT mN.size;have zi:=HZ _ (k7 xs i hi);have Sv:=af (fun j (hj:j<xs.length)=>And.intro ((mN.cells.1 b (off+j*5+3) eT).trans (hR.lo j hj)) (And.intro ((mN.cells.1 b (off+j*5+4) eT).trans (hR.hi j hj)) (HZ _ (k7 xs j hj))))
  have je:Hid (∀b,b=rb↔b=(if ax=2 then true else if ax=3 then !uo && Pl.fN (ai xs i).lo (ai xs i).hi key && !(key.toList==(ai xs i).lo.toList)
   else if ax=4 then(if fj<0 then false else decide (Pl.bg (Pl.fJ (ai xs i).lo (ai xs i).hi) (Pl.fJ (ai xs fj.toNat).lo (ai xs fj.toNat).hi) (ai xs i).lo (ai xs i).hi (ai xs fj.toNat).lo (ai xs fj.toNat).hi=0))else false)):=fun b=>by
   have:=HC b
   rw[zZ0 (by simp),zZ0 dA,zQ3]at this
   exact this
  clear HC hR;generalize (ai xs i).lo=lo at *;generalize (ai xs i).hi=hi' at *;by_cases k3:ax=3
  . subst k3;have HH:=af (fun W=>KV lo hi' key W zi.1 zi.2 oK);have wj:Hid (∀b,b=rb↔b=(!uo && Pl.fN lo hi' key && !(key.toList==lo.toList))):=fun b=>by
     have:=je b;rw[zZ0 (by decide),zZ1 rfl]at this;exact this
    clear je Sv k2;have G1:ae y (y.alloc (.cells #[.string lo,.string hi'] 24)):=(ae.rf y).alloc _;have s0:(y.alloc (.cells #[.string lo,.string hi'] 24)).cell? ⟨y.heap.size,0,none⟩=some (.string lo):=(by simp[go_sem]);have s1:(y.alloc (.cells #[.string lo,.string hi'] 24)).cell? ⟨y.heap.size,1,none⟩=some (.string hi'):=(by simp[go_sem]);go_wp2_with fail;generalize y.alloc _=y1 at *;have X1:=bj ((G1.cells.1 _ 1 hby).trans WR);have X2:=bj ((G1.cells.1 _ 2 yF).trans E2);have X7:=bj ((G1.cells.1 _ 7 yF).trans E7);have S0:=bj s0;have S1:=bj s1;have ct:=af G1;clear WQ WR E0 E2 E7 q3 q4 s0 s1 G1;cases uo with
    | true=>
     refine jA 22 [] (ae y1) ae (fun _ _ x=>ae y1 x) (fun _ a=>a) (ae.rf y1).drew (fun _ _ _ h=>h) ae.rf (fun _ _ _ _ h g=>h.trans g) ?_;repeat (first|refine iX ?_|(refine iZ ?_;intros;go_big_quiet_op;go_big_quiet_on)|(refine sx (fun _=>by kernel_rfl) (fun u hu=>CJ u (mN.trans (ct.trans hu))) ?_;simp only[Act.put,xB9,xC9,xD9])|(refine iY ?_;simp only[Act.put,xB9,xC9,xD9]))
     refine vM ⟨trivial,?_⟩;rintro f0 z AG;dsimp only[List.drop];have jd:=af (mN.trans (ct.trans AG));clear AG;go_wp2_with fail;go_ret;exact⟨bS ((wj _).2 (by simp)),jd⟩
    | false=>
     generalize Pl.fN lo hi' key=hb2 at *;cases hb2 with
     | false=>
      refine jA 22 [] (ae y1) ae (fun _ _ x=>ae y1 x) (fun _ a=>a) (ae.rf y1).drew (fun _ _ _ h=>h) ae.rf (fun _ _ _ _ h g=>h.trans g) ?_;iterate 7 (first|refine iX ?_|(refine iZ ?_;intros;go_big_quiet_op;go_big_quiet_on)|(refine sx (fun _=>by kernel_rfl) (fun u hu=>CJ u (mN.trans (ct.trans hu))) ?_;simp only[Act.put,xB9,xC9,xD9])|(refine iY ?_;simp only[Act.put,xB9,xC9,xD9]))
      repeat (first|refine iX ?_|(refine iZ ?_;intros;go_big_quiet_op;go_big_quiet_on)|(refine sx (fun _=>by kernel_rfl) (fun u hu=>HH u) ?_;simp only[Act.put,xB9,xC9,xD9])|(refine iY ?_;simp only[Act.put,xB9,xC9,xD9]))
      refine vM ⟨trivial,?_⟩;rintro f0 z AG;dsimp only[List.drop];have jd:=af (mN.trans (ct.trans AG));clear AG;go_wp2_with fail;go_ret;exact⟨bS ((wj _).2 (by simp)),jd⟩
     | true=>
      cases heq:(key.toList==lo.toList)with
      | true=>
       have hne:(key.toList !=lo.toList)=false:=(by rw[bne,heq];rfl);refine jA 22 [] (ae y1) ae (fun _ _ x=>ae y1 x) (fun _ a=>a) (ae.rf y1).drew (fun _ _ _ h=>h) ae.rf (fun _ _ _ _ h g=>h.trans g) ?_;iterate 7 (first|refine iX ?_|(refine iZ ?_;intros;go_big_quiet_op;go_big_quiet_on)|(refine sx (fun _=>by kernel_rfl) (fun u hu=>CJ u (mN.trans (ct.trans hu))) ?_;simp only[Act.put,xB9,xC9,xD9])|(refine iY ?_;simp only[Act.put,xB9,xC9,xD9]))
       repeat (first|refine iX ?_|(refine iZ ?_;intros;go_big_quiet_op;go_big_quiet_on)|(refine sx (fun _=>by kernel_rfl) (fun u hu=>HH u) ?_;simp only[Act.put,xB9,xC9,xD9])|(refine iY ?_;simp only[Act.put,xB9,xC9,xD9]))
       refine vM ⟨trivial,?_⟩;rintro f0 z AG;dsimp only[List.drop];have jd:=af (mN.trans (ct.trans AG));clear AG;go_wp2_with fail;go_ret;exact⟨bS ((wj _).2 (by simp[heq])),jd⟩
      | false=>
       have hne:(key.toList !=lo.toList)=true:=(by rw[bne,heq];rfl);refine jA 22 [] (ae y1) ae (fun _ _ x=>ae y1 x) (fun _ a=>a) (ae.rf y1).drew (fun _ _ _ h=>h) ae.rf (fun _ _ _ _ h g=>h.trans g) ?_;iterate 7 (first|refine iX ?_|(refine iZ ?_;intros;go_big_quiet_op;go_big_quiet_on)|(refine sx (fun _=>by kernel_rfl) (fun u hu=>CJ u (mN.trans (ct.trans hu))) ?_;simp only[Act.put,xB9,xC9,xD9])|(refine iY ?_;simp only[Act.put,xB9,xC9,xD9]))
       repeat (first|refine iX ?_|(refine iZ ?_;intros;go_big_quiet_op;go_big_quiet_on)|(refine sx (fun _=>by kernel_rfl) (fun u hu=>HH u) ?_;simp only[Act.put,xB9,xC9,xD9])|(refine iY ?_;simp only[Act.put,xB9,xC9,xD9]))
       refine vM ⟨trivial,?_⟩;rintro f0 z AG;dsimp only[List.drop];have jd:=af (mN.trans (ct.trans AG));clear AG;go_wp2_with fail;go_ret;exact⟨bS ((wj _).2 (by simp[heq])),jd⟩
  by_cases k4:ax=4
  . subst k4;have WS:Hid (∀b,b=rb↔b=(if fj<0 then false else decide (Pl.bg (Pl.fJ lo hi') (Pl.fJ (ai xs fj.toNat).lo (ai xs fj.toNat).hi) lo hi' (ai xs fj.toNat).lo (ai xs fj.toNat).hi=0))):=fun b=>by
     have:=je b;rw[zZ0 (by decide),zZ0 (by decide),zZ1 rfl]at this;exact this
    clear je k2 k3;rcases nI with rfl | ⟨j,hj,rfl⟩
    . go_wp2_with fail;go_ret;exact⟨bS ((WS _).2 (by simp)),mN⟩
    have Uj:¬((j:Int)<0):=(by omega);have TH:(j:Int)<(xs.length:Int):=(by omega);have HC5:Hid (∀b,b=rb↔b=decide (Pl.bg (Pl.fJ lo hi') (Pl.fJ (ai xs j).lo (ai xs j).hi) lo hi' (ai xs j).lo (ai xs j).hi=0)):=fun b=>by
     have:=WS b;rw[zZ0 Uj,zQ3]at this;exact this
    obtain⟨p3,p4,zj⟩:=Sv j hj;have HJ:=af (fun W=>WO lo hi' (ai xs j).lo (ai xs j).hi W zi.1 zi.2 zj.1 zj.2);clear WS Sv;generalize Pl.bg (Pl.fJ lo hi') (Pl.fJ (ai xs j).lo (ai xs j).hi) lo hi' (ai xs j).lo (ai xs j).hi=jn at *;generalize Pl.aW (Pl.fJ lo hi') (Pl.fJ (ai xs j).lo (ai xs j).hi) lo hi' (ai xs j).lo (ai xs j).hi=jv at *;unfold Sr at HJ;obtain⟨TI,TJ⟩:=jv;dsimp only at HJ;generalize (ai xs j).lo=tv at *;generalize (ai xs j).hi=ml at *;have C0:=bj WQ;have Q3:=bj q3;have Q4:=bj q4;have P3:=bj p3;have P4:=bj p4;go_wp2_with fail;clear WQ WR E0 E2 E7 q3 q4 p3 p4 CJ;refine jA 23 [20,21] (ae y) ae (fun L f w=>ae y w/\(L 20=true->∃a b,BP y.heap.size w (f 20) a b)) (fun f a=>a.put (some 8) (f 20)) ⟨(ae.rf y).drew,fun h=>(by cases h)⟩ (fun _ _ _ h=>h.1) ae.rf (fun L f u u' h g=>⟨h.1.trans g,fun hl=>(h.2 hl).elim fun x hx=>hx.elim fun z hz=>⟨x,z,hz.ah g⟩⟩) ?_;repeat (first|refine iX ?_|(refine iZ ?_;intros;go_big_quiet_op;go_big_quiet_on)|(refine sx (fun _=>by kernel_rfl) (fun u hu=>HJ u) ?_;simp only[Act.put,xB9,xC9,xD9])|(refine iY ?_;simp only[Act.put,xB9,xC9,xD9]))
    refine vM ⟨⟨bL rfl (fun _ a=>a) ?_,bL rfl (fun f a=>a.put (some 8) (f 20)) ?_,trivial⟩,?_⟩
    . intro L f u hJ hL hd;clear C0 Q3 Q4 P3 P4 HJ;go_simp;exact⟨hJ.1.alloc _,_,_,by rw[fY];exact BP.eC hJ.1.size _ _ _⟩
    . intro L f u hJ hL hd;clear C0 Q3 Q4 P3 P4 HJ;obtain⟨x,z,m,hm,hN,d0,d1,f0,f1⟩:=hJ.2 (hd 20 rfl (by decide));rw[hm];go_simp;obtain⟨g1,g2⟩:=Y3 hJ.1 hN d0 d1 f0 f1 (.string TI) (.string TJ);exact⟨g1,fun _=>⟨_,_,by rw[gH (by decide),hm];exact g2⟩⟩
    . intro f u hJ;obtain⟨iH,hF⟩:=hJ;have mW:=af (mN.trans iH);clear hF iH;dsimp only[List.drop];go_wp2_with fail;go_ret;exact⟨bS ((HC5 _).2 (by rw[zK4];simp)),mW⟩
  have HC6:Hid (false=rb):=(je _).2 (by rw[zZ0 k2,zZ0 k3,zZ0 k4]);have e2:(ax==2)=false:=wZ3.2 k2;have e3:(ax==3)=false:=wZ3.2 k3;have e4:(ax==4)=false:=wZ3.2 k4;clear je k2 k3 k4 Sv;go_wp2_with fail;go_ret;exact⟨bS HC6,mN⟩
section
namespace Pl
def ft (s:bG)(e:En)(at':Int):Bool:=ji s e && decide (0<=at') && decide (at'<=4095)
end Pl
structure AH (s:bG):Prop where
 few:s.xs.length<=1000
 us:s.us.length<=100000
 ne:s.ne<=100000
 sz:∀c∈s.xs,c.lo.size<=16777216/\c.hi.size<=16777216
section
variable {w:World}{F:Nat->Prop}{mb:Nat}{s:bG}(h:fp w F mb s)(hk:AH s)(e:En)(hA:b7 w e)(hs:ly e)
include h hk hA hs
theorem Sw:Hid (∀W,ae w W->Calls prog 102 #[.pointer (some ⟨mb,0,none⟩),e.agg] W fun r w'=>r=.returned (.bool (Pl.ji s e))/\ae W w'):=
 fun W g=>z0B (h.ah g) hk.few (zZ6 hk.us (by decide)) hk.sz e (hA.ah g) hs
theorem z3W (at':Int)(hno:ft s e at'=false):
    Calls prog 61 #[.pointer (some ⟨mb,0,none⟩),e.agg,.int .i64 at'] w fun r w'=>r=.returned (.bool false)/\ae w w':=by
 have HC:=Sw h hk e hA hs;unfold ft at hno;clear h hk hA hs;generalize Pl.ji s e=c at *;unfold En.agg En.vals at *;obtain⟨ax,aj,ak,aq,aw,seq,key,aM,aL,aA,ops,aN,aS,aF,aB,aG⟩:=e;dsimp only at *;cases c with
 | false=>
  clear hno;go_in;go_wp2_with fail;refine(HC _ ((ae.rf w).alloc _)).mono ?_;rintro r w1 ⟨rfl,hg⟩;have HG:=af (((ae.rf w).alloc _).trans hg);clear hg;go_wp2_with fail;go_ret;exact⟨rfl,HG⟩
 | true=>
  by_cases h1:at'<0
  . have d1:decide (at'<0)=true:=wZ5 h1;clear hno;go_in;go_wp2_with fail;refine(HC _ ((ae.rf w).alloc _)).mono ?_;rintro r w1 ⟨rfl,hg⟩;have HG:=af (((ae.rf w).alloc _).trans hg);clear hg;go_wp2_with fail;go_ret;exact⟨rfl,HG⟩
  . have h2:4095<at':=by
     simp only[Bool.true_and,Bool.and_eq_false_iff,wZ4]at hno;omega
    have d1:decide (at'<0)=false:=wZ6 h1;have d2:decide (4095<at')=true:=wZ5 h2;clear hno;go_in;go_wp2_with fail;refine(HC _ ((ae.rf w).alloc _)).mono ?_;rintro r w1 ⟨rfl,hg⟩;have HG:=af (((ae.rf w).alloc _).trans hg);clear hg;go_wp2_with fail;go_ret;exact⟨rfl,HG⟩
theorem z0v (at':Int)(jM:ft s e at'=true)(k2:e.ax=2)(i:Nat)(hi:i<s.xs.length)(hf:Pl.aK s.xs e.aj=(i:Nat)):
    Calls prog 61 #[.pointer (some ⟨mb,0,none⟩),e.agg,.int .i64 at'] w fun r w'=>r=.returned (.bool true)/\oA w F mb ⟨s.xs.set i ⟨(ai s.xs i).id,e.aq,(ai s.xs i).cJ,(ai s.xs i).lo,(ai s.xs i).hi⟩,s.us,s.ne,s.evs⟩ w':=by
 have HC:=Sw h hk e hA hs;have ic:=af (fun W (g:ae w W)=>LF (h.ah g) (zZ6 hk.few (by decide)) e.aj);have jT:=hk.few;obtain⟨xs,us,ne,evs⟩:=s;obtain⟨vl,vu,ve,h⟩:=h;dsimp only at *;obtain⟨b,cap,rfl,_,eT⟩:=h.row.form (by omega:0<xs.length);have c0:=h.bZ;have hb:=h.blt;have pd:b≠mb:=(h.aY b rfl).2;rw[hf]at ic;have tu:¬((i:Int)<0):=by omega
 have BR:(i:Int)<(xs.length:Int):=by omega
 have HS:=af h;have HI:=af hi;have hap:=jM;unfold ft at hap;simp only[zZ7,wZ2]at hap;obtain⟨⟨hc,ha0⟩,ha1⟩:=hap;have rr:¬at'<0:=by omega
 have ru:¬4095<at':=by omega
 have d0:decide (at'<0)=false:=wZ6 rr;have d1:decide (4095<at')=false:=wZ6 ru;rw[hc]at HC;clear jM hc hA hf h hi hk hs;unfold En.agg En.vals at *;obtain⟨ax,aj,ak,aq,aw,seq,key,aM,aL,aA,ops,aN,aS,aF,aB,aG⟩:=e;dsimp only at *;subst k2;go_in;go_wp2_with fail;refine(HC _ ((ae.rf w).alloc _)).mono ?_;rintro r w1 ⟨rfl,hg⟩;have hG:=hg.jy;have hcc:=hg.cells.1;have hz:w.heap.size<w1.heap.size:=by have:=hg.size;simp at this;omega
 have HG:=af hG;have E0:w1.cell? ⟨w.heap.size,0,none⟩=some (.int .i64 2):=(hcc _ _ (by simp)).trans (by simp[go_sem]);have E1:w1.cell? ⟨w.heap.size,1,none⟩=some (.int .i64 aj):=(hcc _ _ (by simp)).trans (by simp[go_sem]);have E3:w1.cell? ⟨w.heap.size,3,none⟩=some (.int .i64 aq):=(hcc _ _ (by simp)).trans (by simp[go_sem]);clear hg hG hcc HC;go_wp2_with fail;refine(ic _ HG).mono ?_;rintro r w2 ⟨rfl,aP⟩;have E0':=(aP.cells.1 _ _ hz).trans E0;have cA:=af (HG.trans aP);have hz2:w.heap.size<w2.heap.size:=xA9 hz aP.size;have hb1:mb<w2.heap.size:=xA9 hb cA.size;have vN:b<w2.heap.size:=xA9 eT cA.size;have C0:=bj ((cA.cells.1 _ _ hb).trans c0);have X3:=bj ((aP.cells.1 _ _ hz).trans E3);clear aP E0 E1 E3 c0 ic;go_wp2_with fail;refine jA 9 [] (ae w2) Eq (fun _ _ x=>x=w2.drew) (fun _ a=>a) rfl (fun _ _ x h=>by rw[h];exact(ae.rf w2).drew) (fun _=>rfl) (fun _ _ _ _ h g=>g▸h) ?_;repeat (first|refine iX ?_|(refine iZ ?_;intros;go_big_quiet_op;go_big_quiet_on)|(refine iY ?_;simp only[Act.put,xB9,xC9,xD9]))
 refine mi (by rfl) ⟨trivial,?_⟩;rintro f0 x rfl;have HX:=af (HS.ah cA.drew);have s1:=vw HX rfl i HI 1 (by omega);simp only[Sh.vals,zJ1,zJ2]at s1;have f1:w2.drew.frozen? ⟨b,i*5+1,none⟩=false:=HX.row.frozenAt _;clear E0' C0 X3;dsimp only[List.drop];go_wp2_with fail;go_ret;refine⟨rfl,?_⟩;have yK:=HX.Hv i HI aq;exact⟨(cA.drew.only F).then ((ar.setCell w2.drew ⟨b,i*5+1,none⟩ _).mono fun j hj=> .inl (by subst hj;exact(HS.aY _ rfl).1)),F,⟨_,_,_,yK⟩,fun _=> .inl⟩
end
end
section
attribute [local go_sem] bl
theorem WT:(prog.info? 161).map (fun i=>(i.zero,i.size,i.bytes))=some (some (.agg #[.int .i64 0,.int .i64 0,.int .i64 0,.string ⟨#[]⟩,.string ⟨#[]⟩]),5,56):=by kernel_rfl
theorem Sx:(Value.cells (.agg #[.int .i64 0,.int .i64 0,.int .i64 0,.string ⟨#[]⟩,.string ⟨#[]⟩])).size=5:=by kernel_rfl
theorem WU:(prog.info? 3).map (fun i=>(i.zero,i.size,i.bytes))=some (some (.int .i64 0),1,8):=by kernel_rfl
theorem WV:(Value.cells (.int .i64 0)).size=1:=by kernel_rfl
theorem z0d:(prog.info? 157).map (fun i=>(i.zero,i.size,i.bytes))=some (some (.agg #[.int .i64 0,.int .i64 0,.int .i64 0,.int .i64 0,.int .i64 0,.int .i64 0,.int .i64 0,.slice none 0 0,.string ⟨#[]⟩,.int .i64 0,.int .i64 0,.int .i64 0,.slice none 0 0]),13,144):=by kernel_rfl
theorem z3H (c:Sh):∀u∈c.vals,u.oneCell'=true:=by
 intro u hu;simp[Sh.vals]at hu;rcases hu with rfl | rfl | rfl | rfl | rfl<;> rfl
section
variable {w:World}{F:Nat->Prop}{mb:Nat}{s:bG}(h:fp w F mb s)(hk:AH s)(e:En)(hA:b7 w e)(hs:ly e)
include h hk hA hs
theorem y8u (at':Int)(jM:ft s e at'=true)(k3:e.ax=3)(i:Nat)(hi:i<s.xs.length)(hf:Pl.aK s.xs e.aj=(i:Nat))(hcut:Pl.eA (Pl.fJ (ai s.xs i).lo (ai s.xs i).hi) (Pl.aT e.key) (Pl.fN (ai s.xs i).lo (ai s.xs i).hi e.key) (ai s.xs i).lo e.key=0):
    Calls prog 61 #[.pointer (some ⟨mb,0,none⟩),e.agg,.int .i64 at'] w fun r w'=>r=.returned (.bool true)/\oA w F mb ⟨s.xs.set i ⟨(ai s.xs i).id,(ai s.xs i).aq,at'+1,(ai s.xs i).lo,e.key⟩++[⟨e.ak,e.aq,at'+1,e.key,(ai s.xs i).hi⟩],s.us++[e.ak],s.ne+1,s.evs++ja at' e⟩ w':=by
 have HC:=Sw h hk e hA hs;have ic:=af (fun W (g:ae w W)=>LF (h.ah g) (zZ6 hk.few (by decide)) e.aj);have oK:=hs.key;have jT:=hk.few;have DX:=hk.us;have hne:=hk.ne;have hsz:=hk.sz _ (k7 s.xs i hi);have hap:=jM;unfold ft at hap;simp only[zZ7,wZ2]at hap;obtain⟨⟨hc,ha0⟩,ha1⟩:=hap;have rr:¬at'<0:=by omega
 have ru:¬4095<at':=by omega
 have g0:decide (at'<0)=false:=wZ6 rr;have g1:decide (4095<at')=false:=wZ6 ru;rw[hc]at HC;obtain⟨xs,us,ne,evs⟩:=s;obtain⟨vl,vu,ve,h⟩:=h;dsimp only at *;obtain⟨b,cap,rfl,_,eT⟩:=h.row.form (by omega:0<xs.length);have c0:=h.bZ;have hb:=h.blt;have uk:b≠mb:=(h.aY b rfl).2;rw[hf]at ic;have tu:¬((i:Int)<0):=by omega
 have BR:(i:Int)<(xs.length:Int):=by omega
 have rl:=vw h rfl i hi 3 (by omega);have rh:=vw h rfl i hi 4 (by omega);simp only[Sh.vals,zJ1,zJ2]at rl rh;have je:=af (fun W=>z5M (ai xs i).lo (ai xs i).hi e.key W hsz.1 hsz.2 oK);rw[hcut]at je;unfold Sq at je;simp only[fX,if_true]at je;have HS:=af h;have HI:=af hi;have tB:Hid (∀j,F j->j<w.heap.size):=af h.lt;have HW:=af (eW.eC w e 36);have HV:=af (KQ at' e);have Hy:(ja at' e).length=13:=rfl;have Hz:Hid (ja at' e=.int .i64 at'::e.vals):=rfl;have b2:(e.ax==2)=false:=by rw[k3];rfl
 have b3:(e.ax==3)=true:=by rw[k3];rfl
 clear jM hc hA hf h hi hk hs k3 hcut hsz;generalize sy:(ai xs i).lo=lo at *;generalize tx:(ai xs i).hi=hi' at *;have QR:=af sy;have QS:=af tx;clear sy tx;unfold En.agg at *;go_in;unfold En.vals at HC ⊢;go_wp2_with fail;refine(HC _ ((ae.rf w).alloc _)).mono ?_;rintro r w1 ⟨rfl,hg⟩;have hz:w.heap.size<w1.heap.size:=by have:=hg.size;simp at this;omega
 have HG:=af (((ae.rf w).alloc _).trans hg);have bM:=af (HW.ah hg (by simp));obtain⟨d0,d1,d2,d3,d4,d5,d6,d7,d8,d9,d10,d11⟩:=bM.cells;clear hg HC;go_wp2_with fail;refine(ic _ HG).mono ?_;rintro r w2 ⟨rfl,aP⟩;have cA:=af (HG.trans aP);have kT:=af (bM.ah aP hz);have hz2:w.heap.size<w2.heap.size:=xA9 hz aP.size;clear d0 d1 d2 d3 d4 d5 d6 d7 d8 d9 d10 d11 ic aP;obtain⟨d0,d1,d2,d3,d4,d5,d6,d7,d8,d9,d10,d11⟩:=kT.cells;have hb2:mb<w2.heap.size:=xA9 hb cA.size;have OU:b<w2.heap.size:=xA9 eT cA.size;go_wp2_with fail;have C0:=bj ((cA.cells.1 _ _ hb).trans c0);have R3:=bj ((cA.cells.1 _ _ eT).trans rl);have R4:=bj ((cA.cells.1 _ _ eT).trans rh);have D7:=bj d7;clear d0 d1 d2 d3 d4 d5 d6 d7 d8 d9 d10 d11 rl rh c0
 -- a, b, _ := Cut(..)
 refine jA 20 [15,16,17,18] (ae w2) ae (JV [⟨15,17,[.string lo,.string e.key]⟩,⟨16,18,[.string e.key,.string hi']⟩] w2) (fun f a=>(a.put (some 8) (f 15)).put (some 9) (f 16)) (JV.aX _ w2 _) (fun _ _ _ h=>h.ah) ae.rf (fun _ _ _ _ h g=>h.br g) ?_;repeat (first|refine iX ?_|(refine iZ ?_;intros;go_big_quiet_op;go_big_quiet_on)|(refine sx (fun _=>by kernel_rfl) (fun u hu=>je u) ?_;simp only[Act.put,xB9,xC9,xD9])|(refine iY ?_;simp only[Act.put,xB9,xC9,xD9]))
 refine vM ⟨⟨bL rfl (fun _ a=>a) ?_,bL rfl (fun _ a=>a) ?_,bL rfl (fun f a=>(a.put (some 8) (f 15)).put (some 9) (f 16)) ?_,bL rfl (fun f a=>(a.put (some 8) (f 15)).put (some 9) (f 16)) ?_,trivial⟩,?_⟩
 . intro L f u hJ hL hd;clear je C0 R3 R4 D7;go_simp;exact hJ.alloc (by rfl) (V:=⟨15,17,[.string lo,.string e.key]⟩) (by simp) hL [.string ⟨#[]⟩,.string ⟨#[]⟩] rfl _
 . intro L f u hJ hL hd;clear je C0 R3 R4 D7;go_simp;exact hJ.alloc (by rfl) (V:=⟨16,18,[.string e.key,.string hi']⟩) (by simp) hL [.string ⟨#[]⟩,.string ⟨#[]⟩] rfl _
 . intro L f u hJ hL hd;clear je C0 R3 R4 D7;obtain⟨m,x,y,hm,k0,k1,f0,f1⟩:=hJ.two (V:=⟨15,17,[.string lo,.string e.key]⟩) (by simp) (hd 15 rfl (by decide)) rfl;dsimp only at hm;rw[hm];go_simp;exact hJ.store (by rfl) (V:=⟨15,17,[.string lo,.string e.key]⟩) (by simp) (hd 15 rfl (by decide)) hm
 . intro L f u hJ hL hd;clear je C0 R3 R4 D7;obtain⟨m,x,y,hm,k0,k1,f0,f1⟩:=hJ.two (V:=⟨16,18,[.string e.key,.string hi']⟩) (by simp) (hd 16 rfl (by decide)) rfl;dsimp only at hm;rw[hm];go_simp;exact hJ.store (by rfl) (V:=⟨16,18,[.string e.key,.string hi']⟩) (by simp) (hd 16 rfl (by decide)) hm
 intro f u hJ;clear je C0 R3 R4 D7;obtain⟨m7,q7,n7,l7,a0,a1,_,_⟩:=(hJ.full (V:=⟨15,17,[.string lo,.string e.key]⟩) (by simp) rfl).two;obtain⟨m8,q8,n8,l8,e0,e1,_,_⟩:=(hJ.full (V:=⟨16,18,[.string e.key,.string hi']⟩) (by simp) rfl).two;dsimp only at q7 q8;have qf:=af (cA.trans hJ.ah);have OV:=af (kT.ah hJ.ah hz2);have wR:w.heap.size<u.heap.size:=xA9 hz2 hJ.ah.size;clear hJ;rw[q7,q8];clear q7 q8;go_wp2_with fail
 -- m.Live[i].Span, m.Live[i].Since = a, at+1
 have gF:=af (HS.ah qf);have JZ:mb<u.heap.size:=xA9 hb qf.size;have QT:b<u.heap.size:=xA9 eT qf.size;have yD:b≠m7:=by omega
 have uH:b≠m8:=by omega
 have C0:=bu (S:=fun j=>j=b) gF.bZ (Ne.symm uk);have A0:=bu (S:=fun j=>j=b) a0 (Ne.symm yD);have A1:=bu (S:=fun j=>j=b) a1 (Ne.symm yD);have k2:=vw gF rfl i HI 2 (by omega);have k3:=vw gF rfl i HI 3 (by omega);have k4:=vw gF rfl i HI 4 (by omega);simp only[Sh.vals,zJ1,zJ2]at k2 k3 k4;have f2:u.frozen? ⟨b,i*5+2,none⟩=false:=gF.row.frozenAt _;have f3:u.frozen? ⟨b,i*5+3,none⟩=false:=gF.row.frozenAt _;have f4:u.frozen? ⟨b,i*5+4,none⟩=false:=gF.row.frozenAt _;have Fz:IntKind.i64.wrap (at'+1)=at'+1:=IntWalk.i64_in _ (by omega);refine jA 16 [15] (ar (fun j=>j=b) u) Eq (fun L _ x=>x=if L 15=true then(u.drew.setCell ⟨b,i*5+3,none⟩ (.string lo)).setCell ⟨b,i*5+4,none⟩ (.string e.key)else u.drew) (fun _ a=>a) rfl ?_ (fun _=>rfl) (fun _ _ _ _ h g=>g▸h) ?_
 . rintro L f x rfl;split
   . exact((ar.refl _ u).drew.then (ar.setCell _ ⟨b,i*5+3,none⟩ _)).then (ar.setCell _ ⟨b,i*5+4,none⟩ _)
   . exact(ar.refl _ u).drew
 repeat (first|refine iX ?_|(refine iZ ?_;intros;go_big_quiet_op;go_big_quiet_on)|(refine iY ?_;simp only[Act.put,xB9,xC9,xD9]))
 refine mi (by rfl) ⟨⟨bL rfl (fun _ a=>a) ?_,trivial⟩,?_⟩
 . rintro L f x rfl hL hd;rw[hL];clear C0 A0 A1 gF;go_simp
 rintro f x yE;have hx2:x=(u.drew.setCell ⟨b,i*5+3,none⟩ (.string lo)).setCell ⟨b,i*5+4,none⟩ (.string e.key):=yE;clear yE A0 A1;have C1:=C0 ⟨x,by rw[hx2];exact((ar.refl _ u).drew.then (ar.setCell _ ⟨b,i*5+3,none⟩ _)).then (ar.setCell _ ⟨b,i*5+4,none⟩ _)⟩;dsimp only at C1;have K2:x.cell? ⟨b,i*5+2,none⟩=some (.int .i64 (ai xs i).cJ):=by
  rw[hx2,World.cell?_setCell_other _ _ _ _ (by intro e;injection e with _ e;omega),World.cell?_setCell_other _ _ _ _ (by intro e;injection e with _ e;omega)];exact k2
 have F2:x.frozen? ⟨b,i*5+2,none⟩=false:=by
  rw[hx2,World.frozen?_setCell,World.frozen?_setCell];exact f2
 have HX:=af hx2;clear C0 k2 k3 k4 f2 f3 f4 hx2;dsimp only[List.drop];go_wp2_with fail
 -- m.Live = append(..)
 have HY:Hid (∃y,y=x.setCell ⟨b,i*5+2,none⟩ (.int .i64 (at'+1))/\fS y F mb (.slice (some ⟨b,0,none⟩) xs.length cap) vu ve (xs.set i ⟨(ai xs i).id,(ai xs i).aq,at'+1,lo,e.key⟩) us ne evs/\ar (fun j=>j=b) u y):=by
  refine⟨_,rfl,?_,?_⟩
  . rw[HX.out];exact(gF.ah (ae.rf u).drew).yB i HI lo e.key (at'+1)
  . rw[HX.out];exact(((ar.refl _ u).drew.then (ar.setCell _ ⟨b,i*5+3,none⟩ _)).then (ar.setCell _ ⟨b,i*5+4,none⟩ _)).then (ar.setCell _ ⟨b,i*5+2,none⟩ _)
 obtain⟨y,hy,uI,jL⟩:=HY.out;rw[<-hy];have mJ:=af uI;have Hx:=af jL;have pZ:w.heap.size≠b:=by omega
 have AJ:¬F w.heap.size:=fun h=>yX2 _ (tB.out _ h);have Sy:=af (OV.only jL wR pZ);have yF:w.heap.size<y.heap.size:=xA9 wR jL.size;have AK:mb<y.heap.size:=xA9 JZ jL.size;have B0:=bu (S:=fun j=>some j=some b) ((jL.cell l8 (Ne.symm uH) 0).trans e0) (fun h=>uH (Option.some.inj h).symm);have B1:=bu (S:=fun j=>some j=some b) ((jL.cell l8 (Ne.symm uH) 1).trans e1) (fun h=>uH (Option.some.inj h).symm);have C2:=bu (S:=fun j=>some j=some b) uI.bZ (fun h=>uk (Option.some.inj h).symm);obtain⟨d0,d1,d2,d3,d4,d5,d6,d7,d8,d9,d10,d11⟩:=Sy.cells;have D2:=bu (S:=fun j=>some j=some b) d2 (fun h=>pZ (Option.some.inj h));have D3:=bu (S:=fun j=>some j=some b) d3 (fun h=>pZ (Option.some.inj h));clear hy HY uI jL HX K2 F2 C1 gF a0 a1 e0 e1 d0 d1 d2 d3 d4 d5 d6 d7 d8 d9 d10 d11 OV;have vS:(xs.set i ⟨(ai xs i).id,(ai xs i).aq,at'+1,lo,e.key⟩).length=xs.length:=zX8;have Ck:=af vS;clear vS;obtain⟨i0,dA,hz0,hz1,hz3⟩:=wZ8 WT;refine jA 15 [13,14] (ar (fun j=>some j=some b) y) Eq (fL 161 13 14 y (Sh.vals ⟨e.ak,e.aq,at'+1,e.key,hi'⟩) (lR 161 5 (.slice (some ⟨b,0,none⟩) xs.length cap) xs.length (dL (xs.set i ⟨(ai xs i).id,(ai xs i).aq,at'+1,lo,e.key⟩)) (Sh.vals ⟨e.ak,e.aq,at'+1,e.key,hi'⟩))) (fun f a=>(a.put (some 90) (f 13)).put (some 91) (f 14)) (fL.aX y) (fun L f x h=>h.only fun _ _ _ h=>h.only) (fun _=>rfl) (fun _ _ _ _ h g=>g▸h) ?_;repeat (first|refine iX ?_|(refine iZ ?_;intros;go_big_quiet_op;go_big_quiet_on)|(refine iY ?_;simp only[Act.put,xB9,xC9,xD9]))
 refine mi (by rfl) ⟨⟨bL rfl (fun _ a=>a) ?_,bL rfl (fun f a=>a.put (some 90) (f 13)) ?_,trivial⟩,?_⟩
 . intro L f x hJ hL hd;clear B0 B1 C2 D2 D3;have hm:=hJ.make (by decide) hL;have ky:=af hm;clear hm hJ;unfold Sh.vals at ky;go_simp;exact ky.out
 . intro L f x hJ hL hd;clear B0 B1 C2 D2 D3;have nV:=hd 13 rfl (by decide);obtain⟨vb,Sz,yI,dP⟩:=hJ.made nV hL;refine CG _ _ _ rfl 161 i0 _ 5 56 underlying152 dA hz0 hz1 hz3 Sx (by omega) (.slice (some ⟨b,0,none⟩) xs.length cap) xs.length (dL (xs.set i ⟨(ai xs i).id,(ai xs i).aq,at'+1,lo,e.key⟩)) rfl ?_ vb 1 (Sh.vals ⟨e.ak,e.aq,at'+1,e.key,hi'⟩) ?_ rfl dP (z3H _) (by unfold maxLen;omega) (by omega) ?_
   . exact gP (hJ.ah hL) (by have:=mJ.row;rw[Ck.out]at this;exact this)
   . exact Sz
   . intro r w' hD;exact hJ.call (by decide) hL nV hD
 rintro f x hJ;clear B0 B1 C2 D2 D3;obtain⟨x0,qO,g3,c3,Gw,aJ,hgr,hat⟩:=hJ.done rfl;rw[Gw];have eN:ar (fun j=>some j=some b) y x:=(qO.only _).then (ar.ay hgr);have C3:x.cell? ⟨mb,0,none⟩=some (.slice (some ⟨b,0,none⟩) xs.length cap):=(eN.cell AK (fun h=>uk (Option.some.inj h).symm) 0).trans mJ.bZ;have F3:x.frozen? ⟨mb,0,none⟩=false:=(eN.frozen AK (fun h=>uk (Option.some.inj h).symm) 0).trans (mJ.fz 0 (by omega));have fC:(xs.set i ⟨(ai xs i).id,(ai xs i).aq,at'+1,lo,e.key⟩++[(⟨e.ak,e.aq,at'+1,e.key,hi'⟩:Sh)]).length=xs.length+1:=by simp
 have HT:=af (mJ.jK eN (r:=.slice (some ⟨g3,0,none⟩) (xs.length+1) c3) (ys:=xs.set i ⟨(ai xs i).id,(ai xs i).aq,at'+1,lo,e.key⟩++[⟨e.ak,e.aq,at'+1,e.key,hi'⟩]) (fun g hg=>by
  cases hg;rcases hat with h | h
  . exact .inl h
  . exact .inr (by rw[h];exact qO.size)) (by rw[fC,Cu,Tf];exact aJ))
 have OW:=Sy.only eN yF (fun h=>pZ (Option.some.inj h));have zR:=af OW;have vO:w.heap.size<x.heap.size:=xA9 yF eN.size;clear hJ Gw aJ hgr hat eN qO OW fC;dsimp only[List.drop];go_wp2_with fail
 -- m.j0C = append(..)
 obtain⟨z,hzz⟩:∃z,z=x.setCell ⟨mb,0,none⟩ (.slice (some ⟨g3,0,none⟩) (xs.length+1) c3):=⟨_,rfl⟩
 rw[<-hzz];rw[<-hzz]at HT;have HWz:=af (show eW z w.heap.size e by
  rw[hzz];exact zR.only (ar.setCell x ⟨mb,0,none⟩ _) vO (fun h=>by subst h;exact absurd hb (yX2 _)))
 have hzl:w.heap.size<z.heap.size:=by rw[hzz];simpa using vO
 clear hzz C3 F3;obtain⟨oz,F2,⟨vl2,Er,iv,sD⟩,hF2⟩:=HT.out;have OX:¬F2 w.heap.size:=fun h=>by
  rcases hF2 _ h with h | h
  . exact AJ h
  . omega
 have FD:=af sD;have nC:=af hF2;have TQ:=af oz;have GD:¬some w.heap.size=Er.ownBlock:=fun h=>OX (sD.bR _ h.symm).1;have AL:¬some mb=Er.ownBlock:=fun h=>(sD.bR _ h.symm).2.1 rfl;have OY:mb<z.heap.size:=sD.blt;clear sD hF2 oz HT;have U1:=bu (S:=fun j=>some j=Er.ownBlock) FD.aD AL;obtain⟨d0,d1,d2,d3,d4,d5,d6,d7,d8,d9,d10,d11⟩:=HWz.cells;have D2:=bu (S:=fun j=>some j=Er.ownBlock) d2 GD;clear d0 d1 d2 d3 d4 d5 d6 d7 d8 d9 d10 d11;obtain⟨i1,Gu,o6,mE,OZ⟩:=wZ8 WU;refine jA 9 [7,8] (ar (fun j=>some j=Er.ownBlock) z) Eq (fL 3 7 8 z [.int .i64 e.ak] (lR 3 1 Er us.length (ui us) [.int .i64 e.ak])) (fun f a=>(a.put (some 101) (f 7)).put (some 102) (f 8)) (fL.aX z) (fun L f x h=>h.only fun _ _ _ h=>h.only) (fun _=>rfl) (fun _ _ _ _ h g=>g▸h) ?_;repeat (first|refine iX ?_|(refine iZ ?_;intros;go_big_quiet_op;go_big_quiet_on)|(refine iY ?_;simp only[Act.put,xB9,xC9,xD9]))
 refine mi (by rfl) ⟨⟨bL rfl (fun _ a=>a) ?_,bL rfl (fun f a=>a.put (some 101) (f 7)) ?_,trivial⟩,?_⟩
 . intro L f x hJ hL hd;clear U1 D2;have hm:=hJ.make (by decide) hL;have ky:=af hm;clear hm hJ;go_simp;exact ky.out
 . intro L f x hJ hL hd;clear U1 D2;have h7:=hd 7 rfl (by decide);obtain⟨vb,q7,yI,dP⟩:=hJ.made h7 hL;refine CG _ _ _ rfl 3 i1 _ 1 8 underlying153 Gu o6 mE OZ WV (by omega) Er us.length (ui us) rfl ?_ vb 1 [.int .i64 e.ak] ?_ rfl dP (by intro u hu;rw[zQ0.1 hu];rfl) (by unfold maxLen;omega) (by omega) ?_
   . exact gP (hJ.ah hL) FD.uj
   . exact q7
   . intro r w' hD;exact hJ.call (by decide) hL h7 hD
 rintro f x hJ;clear U1 D2;obtain⟨x0,qO,g4,c4,q8,aJ,hgr,hat⟩:=hJ.done rfl;rw[q8];have eN:ar (fun j=>some j=Er.ownBlock) z x:=(qO.only _).then (ar.ay hgr);have C3:x.cell? ⟨mb,1,none⟩=some Er:=(eN.cell OY AL 1).trans FD.aD;have F3:x.frozen? ⟨mb,1,none⟩=false:=(eN.frozen OY AL 1).trans (FD.fz 1 (by omega));have fC:(us++[e.ak]).length=us.length+1:=by simp
 have HT:=af (FD.nD eN (r:=.slice (some ⟨g4,0,none⟩) (us.length+1) c4) (us':=us++[e.ak]) (fun g hg=>by
  cases hg;rcases hat with h | h
  . exact .inl h
  . exact .inr (by rw[h];exact qO.size)) (by rw[fC,show ui (us++[e.ak])=ui us++[.int .i64 e.ak]by unfold ui;rw[yX3];rfl];exact aJ))
 have OW:=HWz.only eN hzl GD;have zR:=af OW;have vO:w.heap.size<x.heap.size:=xA9 hzl eN.size;clear hJ q8 aJ hgr hat eN qO OW fC;dsimp only[List.drop];go_wp2_with fail
 -- m.J1 = append(..)
 obtain⟨v,AO⟩:∃v,v=x.setCell ⟨mb,1,none⟩ (.slice (some ⟨g4,0,none⟩) (us.length+1) c4):=⟨_,rfl⟩
 rw[<-AO];rw[<-AO]at HT;have WW:=af (show eW v w.heap.size e by
  rw[AO];exact zR.only (ar.setCell x ⟨mb,1,none⟩ _) vO (fun h=>by subst h;exact absurd hb (yX2 _)))
 have hzv:w.heap.size<v.heap.size:=by rw[AO];simpa using vO
 clear AO C3 F3;obtain⟨ov,F3,⟨vl3,vu3,iT,AP⟩,J2⟩:=HT.out;have J4:¬F3 w.heap.size:=fun h=>by
  rcases J2 _ h with h | h
  . exact OX h
  . omega
 have AQ:=af AP;have WX:=af J2;have WY:=af ov;have b9:¬some w.heap.size=iT.ownBlock:=fun h=>J4 (AP.dm _ h.symm).1;have iA:¬some mb=iT.ownBlock:=fun h=>(AP.dm _ h.symm).2.1 rfl;have nL:mb<v.heap.size:=AP.blt;clear AP J2 ov HT;have um:Hid (ar F w y/\∀j,F2 j->F j\/w.heap.size<=j):=by
  have o0:ar F w y:=(qf.only F).then (Hx.mono fun j hj=> .inl (by subst hj;exact(HS.aY j rfl).1));refine⟨o0,fun j hj=>?_⟩;rcases nC.out j hj with h | h
  . exact .inl h
  . exact .inr (zZ6 o0.size h)
 obtain⟨d0,d1,d2,d3,d4,d5,d6,d7,d8,d9,d10,d11⟩:=WW.cells;have C0:=bu (S:=fun j=>some j=iT.ownBlock) AQ.ev iA;have D0:=bu (S:=fun j=>some j=iT.ownBlock) d0 b9;have D1:=bu (S:=fun j=>some j=iT.ownBlock) d1 b9;have D2:=bu (S:=fun j=>some j=iT.ownBlock) d2 b9;have D3:=bu (S:=fun j=>some j=iT.ownBlock) d3 b9;have D4:=bu (S:=fun j=>some j=iT.ownBlock) d4 b9;have D5:=bu (S:=fun j=>some j=iT.ownBlock) d5 b9;have D6:=bu (S:=fun j=>some j=iT.ownBlock) d6 b9;have D7:=bu (S:=fun j=>some j=iT.ownBlock) d7 b9;have D8:=bu (S:=fun j=>some j=iT.ownBlock) d8 b9;have D9:=bu (S:=fun j=>some j=iT.ownBlock) d9 b9;have tD:=bu (S:=fun j=>some j=iT.ownBlock) d10 b9;have tE:=bu (S:=fun j=>some j=iT.ownBlock) d11 b9;clear d0 d1 d2 d3 d4 d5 d6 d7 d8 d9 d10 d11;obtain⟨i2,ml,hx0,hx1,hx3⟩:=wZ8 z0d;refine jA 10 [8,9] (ar (fun j=>some j=iT.ownBlock) v) Eq (fL 157 8 9 v (ja at' e) (lR 157 13 iT ne evs (ja at' e))) (fun f a=>(a.put (some 175) (f 8)).put (some 176) (f 9)) (fL.aX v) (fun L f x h=>h.only fun _ _ _ h=>h.only) (fun _=>rfl) (fun _ _ _ _ h g=>g▸h) ?_;repeat (first|refine iX ?_|(refine iZ ?_;intros;go_big_quiet_op;go_big_quiet_on)|(refine iY ?_;simp only[Act.put,xB9,xC9,xD9]))
 refine mi (by rfl) ⟨⟨bL rfl (fun _ a=>a) ?_,bL rfl (fun f a=>a.put (some 175) (f 8)) ?_,trivial⟩,?_⟩
 . intro L f x hJ hL hd;clear C0 D0 D1 D2 D3 D4 D5 D6 D7 D8 D9 tD tE;have hm:=hJ.make (by decide) hL;have ky:=af hm;clear hm hJ;rw[Hz.out]at ky;unfold En.vals at ky;go_simp;exact ky.out
 . intro L f x hJ hL hd;clear C0 D0 D1 D2 D3 D4 D5 D6 D7 D8 D9 tD tE;have h8:=hd 8 rfl (by decide);obtain⟨vb,q8,yI,dP⟩:=hJ.made h8 hL;refine CG _ _ _ rfl 157 i2 _ 13 144 underlying154 ml hx0 hx1 hx3 QZ (by omega) iT ne evs rfl ?_ vb 1 (ja at' e) ?_ Hy dP HV (by unfold maxLen;omega) (by omega) ?_
   . exact gP (hJ.ah hL) AQ.iL
   . exact q8
   . intro r w' hD;exact hJ.call (by decide) hL h8 hD
 rintro f x hJ;clear C0 D0 D1 D2 D3 D4 D5 D6 D7 D8 D9 tD tE;obtain⟨x0,qO,g5,c5,q9,aJ,hgr,hat⟩:=hJ.done rfl;rw[q9];have eN:ar (fun j=>some j=iT.ownBlock) v x:=(qO.only _).then (ar.ay hgr);have C3:x.cell? ⟨mb,2,none⟩=some iT:=(eN.cell nL iA 2).trans AQ.ev;have F4:x.frozen? ⟨mb,2,none⟩=false:=(eN.frozen nL iA 2).trans (AQ.fz 2 (by omega));have HT:=af (AQ.nK eN (r:=.slice (some ⟨g5,0,none⟩) (ne+1) c5) (fun g hg=>by
  cases hg;rcases hat with h | h
  . exact .inl h
  . exact .inr (by rw[h];exact qO.size)) aJ)
 clear hJ q9 aJ hgr hat eN qO;dsimp only[List.drop];go_wp2_with fail;go_ret;refine⟨rfl,?_⟩;refine oA.trans (F1:=F3) (w1:=v) ?_ ?_ HT
 . exact(um.1.trans TQ (fun _=> .inl)).trans WY um.2
 . intro j hj;rcases WX.out j hj with h | h
   . exact um.2 j h
   . exact .inr (zZ6 (um.1.trans TQ (fun _=> .inl)).size h)
end
end
section
attribute [local go_sem] bl
structure JTx (y:World)(t0 t1 t2 t3:ByteArray)(L:Nat->Bool)(f:Nat->Value)(x:World):Prop where
 ah:ae y x
 ord:L 15=true->L 14=true
 row:L 14=true->∃b,f 14=.slice (some ⟨b,0,none⟩) 4 4/\y.heap.size<=b/\b<x.heap.size/\x.cell? ⟨b,0,none⟩=some (.string t0)/\x.cell? ⟨b,1,none⟩=some (.string t1)/\x.cell? ⟨b,2,none⟩=some (.string t2)/\x.cell? ⟨b,3,none⟩=some (.string t3)
 len:L 15=true->f 15=.int .i64 4
theorem z5S {lo hi:ByteArray}{P:List Pr}{S:Int->Option An}(hl:lo.size<=300)(hh:hi.size<=300)(hP:(Pl.gi P).length<=60000)(hS:(ew S).length<=1000):(xi lo hi P S).length<=65000:=by
 unfold xi;have h1:=tH lo (by omega);have h2:=tH hi (by omega);have h3:=tH (strOfNums (Pl.gi P)) (by rw[strOfNums_size];omega);have h4:=tH (strOfNums (ew S)) (by rw[strOfNums_size];omega);rw[strOfNums_size]at h3 h4;simp only[zZ4];omega
theorem z3C {w:World}{Ft Fs:Nat->Prop}{st n:Nat}{lo hi:ByteArray}{P:List Pr}{S:Int->Option An}(h:dE w Ft Fs st n lo hi P S)(hx:P.length<=1000)(hn:n<=1000000)(hl:lo.size<=300)(hh:hi.size<=300)(hP:(Pl.gi P).length<=60000)(hS:(ew S).length<=1000):
    Calls prog 38 #[.pointer (some ⟨st,0,none⟩)] w fun e w'=>∃a c,e=.returned (.tuple #[.slice a (xi lo hi P S).length c,.nilIface])/\w'.ownsRow w.heap.size 5 1 (.slice a (xi lo hi P S).length c) (xi lo hi P S).length (dX (xi lo hi P S))/\ae w w':=by
 have bK:=z5S hl hh hP hS;obtain⟨tb,sb,h⟩:=h;have HT:=af (fun W (g:ae w W)=>z3K (h.tab.ah g) h.good hx (by omega));have HD:=af (fun W (g:ae w W)=>z4m (h.cL.ah g) hn);have c0:=h.c0;have zm:=af h.c1;have je:=af h.c2;have wj:=af h.c3;have hst:st<w.heap.size:=bf c0;clear h;have HLEN:=af bK;have xp:Hid (xi lo hi P S=Pl.bn lo++Pl.bn hi++Pl.bn (strOfNums (Pl.gi P))++Pl.bn (strOfNums (ew S))):=rfl;generalize xi lo hi P S=bs at *;generalize Pl.gi P=ns at *;generalize ew S=ms at *;go_in;go_wp2_with fail;refine(HT w (ae.rf w)).mono ?_;rintro e w1 ⟨a1,c1,rfl,hr1,aR⟩;obtain⟨a1',c1',e1,Pp,iu,_⟩:=uL hr1;cases e1;have DV:=af (And.intro Pp iu);have ct:=af aR;have d3:=(aR.cells.1 _ 3 hst).trans wj;have mV:=xA9 hst aR.size;clear hr1 Pp iu aR c0;go_wp2_with fail;clear d3;refine(HD w1 ct).mono ?_;rintro e w2 ⟨a2,c2,rfl,hr2,aP⟩;obtain⟨a2',c2',e2,uR,hF2,_⟩:=uL hr2;cases e2;have Cf:=af (And.intro uR hF2);have cA:=af (ct.trans aP);have Xl:=af (DV.1.ah aP);clear hr2 uR hF2 aP;go_wp2_with fail;obtain⟨ob,dS⟩:∃ob,ob=w2.heap.size:=⟨_,rfl⟩
 obtain⟨Y,hY⟩:∃Y,Y=w2.alloc (.cells #[.slice none 0 0,.nilIface] 147):=⟨_,rfl⟩
 have kL:cY Y (fun j=>j=ob) ob []:=by rw[hY,dS];exact cY.new w2 _
 have gY:ae w2 Y:=by rw[hY];exact(ae.rf w2).alloc _
 have hG:=cA.trans gY;have C1:=bj ((hG.cells.1 _ 1 hst).trans zm);have C2:=bj ((hG.cells.1 _ 2 hst).trans je);have K1:∀p:Wd (ae Y),(convert 34 9 (.slice a1 ns.length c1)).run prog p.w=.ok (.string (strOfNums ns)) p.w:=fun p=>B9 rfl (Xl.ah (gY.trans p.ok)) DV.2;have K2:∀p:Wd (ae Y),(convert 34 9 (.slice a2 ms.length c2)).run prog p.w=.ok (.string (strOfNums ms)) p.w:=fun p=>B9 rfl (Cf.1.ah (gY.trans p.ok)) Cf.2;have NS:st<Y.heap.size:=xA9 hst hG.size;have rW:ob<Y.heap.size:=by rw[hY,dS];simp
 have dg:=af hG;have Up:=af kL;have yS:=af (show w.heap.size<=ob by rw[dS];exact cA.size);have kU:=af (strOfNums_size ns);have RL:=af (strOfNums_size ms);rw[<-dS,<-hY];clear hY dS kL gY hG;generalize strOfNums ns=t2 at *;generalize strOfNums ms=t3 at *;refine kh 17 [14,15] (ae Y) Eq (JTx Y lo hi t2 t3) (fun f a=>(a.put (some 48) (f 14)).put (some 49) (f 15)) ⟨(ae.rf Y).drew,(fun h=>by cases h),(fun h=>by cases h),(fun h=>by cases h)⟩ (fun _ _ _ h=>h.ah) (fun _=>rfl) (fun _ _ _ _ h g=>g▸h) ?_;repeat (first|refine kg ?_|(refine gg ?_;intros;go_big_quiet_op;go_big_quiet_on)|(refine fZ ?_;simp only[Act.put,xB9,xC9,xD9]))
 refine rv ⟨⟨bL rfl (fun _ a=>a) ?_,bL rfl (fun f a=>a.put (some 48) (f 14)) ?_,trivial⟩,?_⟩
 . intro L f x hJ hL hd;have LK:L 15=false:=sF fun h=>by rw[hJ.ord h]at hL;cases hL
   have HJ:=af hJ;have H15:=af LK;clear hJ hL hd C1 C2 K1 K2 LK;go_simp;refine⟨HJ.ah.alloc _,fun h=>xh,fun _=>⟨x.heap.size,fY _ _ _,HJ.ah.size,by simp,by simp[go_sem],by simp[go_sem],by simp[go_sem],by simp[go_sem]⟩,fun h=>?_⟩;rw[py (by decide),H15.out]at h;cases h
 . intro L f x hJ hL hd;have Xm:=hd 14 rfl (by decide);obtain⟨b,jD,r1⟩:=hJ.row Xm;have HJ:=af hJ;have HR:=af (And.intro jD r1);have Xn:=af Xm;clear hJ hL hd C1 C2 K1 K2 r1 Xm;rw[jD];clear jD;go_simp;refine⟨HJ.ah,fun h=>RI Xn,fun _=>⟨b,?_,HR.2⟩,fun _=>fY _ _ _⟩;rw[gH (by decide)];exact HR.1
 intro f x hJ;obtain⟨b,jD,hb1,hb2,r0,r1,r2,r3⟩:=hJ.row rfl;have EA:=hJ.len rfl;have ke:=af hJ.ah;clear hJ C1 C2 K1 K2;dsimp only[List.drop];simp only[Act.put,xB9,xD9,xC9];rw[jD,EA];clear jD EA;have qp:=af (show b≠ob/\b<x.heap.size from⟨by omega,hb2⟩);obtain⟨ts,GK⟩:∃ts:List ByteArray,ts=[lo,hi,t2,t3]:=⟨_,rfl⟩
 have DC:=af GK;have Im:=af (fun(j:Nat) (hj:j<4)=>show ∃u,ts[j]? =some u/\x.cell? ⟨b,j,none⟩=some (.string u)/\u.size<=60000 by
  rw[GK];have e2:=kU.out;have e3:=RL.out;match j,hj with
  | 0,_=>exact⟨lo,rfl,r0,by omega⟩
  | 1,_=>exact⟨hi,rfl,r1,by omega⟩
  | 2,_=>exact⟨t2,rfl,r2,by omega⟩
  | 3,_=>exact⟨t3,rfl,r3,by omega⟩)
 have xu:=af (fun(j:Nat) (hj:j<=4)=>show((ts.take j).flatMap Pl.bn).length<=65000 by
  have h4:bs=ts.flatMap Pl.bn:=by rw[xp.out,GK];simp[zQ7]
  have h5:(ts.take j).flatMap Pl.bn++(ts.drop j).flatMap Pl.bn=bs:=by rw[h4,<-zK3,zX7]
  have h6:=wZ7 List.length h5;rw[zZ4]at h6;have:=HLEN.out;omega)
 have LI:Hid ((ts.take 4).flatMap Pl.bn=bs):=by
  unfold Hid;rw[xp.out,GK];simp[zQ7]
 have Jc:=af (Up.ah ke);have j0F:=xA9 rW ke.size;clear r0 r1 r2 r3 hb1 hb2 GK;go_wp2_with fail;go_loopw [9,50] (fun u i wr=>∃j:Nat,j<=4/\i=.int .i64 j/\Hid (mn x (fun j=>j=ob) ob ((ts.take j).flatMap Pl.bn) wr)) (fun _ i _=>4 - (intOf i).toNat);exact⟨0,by omega,rfl,by unfold Hid;simpa using mn.refl Jc⟩;obtain⟨j,hj,rfl,yJ⟩:=hrel;obtain⟨gO,G1,hO,gh⟩:=yJ.out;have F6:=af hO;have JG:=af gO;have Ie:=af gh;clear hO gO gh;by_cases CP:j<4
 . obtain⟨u,MI,MJ,ZF⟩:=Im j CP;have hc:=(JG.cell qp.2 qp.1 j).trans MJ;have fP:b<wr.heap.size:=bf hc;have Pq:=xu j hj;have ry:(ts.take (j+1)).flatMap Pl.bn=(ts.take j).flatMap Pl.bn++Pl.bn u:=by
    obtain⟨jH,Io⟩:=zQ9.1 MI;rw[zX1 jH,zK3,Io];simp
   have pj:=af ry;have HN:=af (Q8 F6 u (by omega) (by omega));clear MI MJ ry Pq;go_wp2_with fail;refine HN.mono ?_;rintro e w5 ⟨rfl,hT⟩;have HT5:=af (mn.step JG Ie hT);clear hT hc;go_wp2_with fail;go_roundw;case rel=>exact⟨j+1,by omega,by go_num,by unfold Hid;rw[pj.out];exact HT5⟩
   case measure=>simp[intOf];omega
 . have CQ:j=4:=(by omega);subst CQ;rw[LI.out]at F6;have wQ:=af (Q9 F6 (by have:=HLEN.out;omega));have rp:ae w wr:=((dg.trans ke).only (fun j=>j=ob) |>.then JG).ah (fun j (hj:j=ob)=>by rw[hj];exact yS);have F0:=af rp;clear rp;go_wp2_with fail;refine wQ.mono ?_;rintro e w5 ⟨a5,c5,rfl,qM,jq⟩;have BX:=af (mg F0.size qM);have BZ:=af (F0.trans jq);clear qM jq;go_wp2_with fail;go_ret2;exact⟨a5,c5,rfl,BX,BZ⟩
end
section
structure wH (y:World)(A C:List Value)(k n:Nat)(L:Nat->Bool)(f:Nat->Value)(x:World):Prop where
 ah:ae y x
 o8:L 6=true->L 1=true
 IG:L 11=true->L 6=true
 r1:L 1=true->L 6=false->x.ownsRow y.heap.size 62 3 (f 1) 0 []
 r8:L 6=true->L 11=false->x.ownsRow y.heap.size 62 3 (f 6) k A
 r16:L 11=true->x.ownsRow y.heap.size 62 3 (f 11) n (A++C)
section
variable {y x x':World}{A C:List Value}{k n:Nat}{L:Nat->Bool}{f:Nat->Value}
theorem wH.aX (y:World):wH y A C k n (fun _=>false) f y.drew:=
 ⟨(ae.rf y).drew,(fun h=>by cases h),(fun h=>by cases h),(fun h=>by cases h),(fun h=>by cases h),(fun h=>by cases h)⟩
theorem wH.s1 (h:wH y A C k n L f x)(hL:L 1=false):wH y A C k n (plus L 1) (bQ f 1 (.slice (some ⟨x.heap.size,0,none⟩) 0 0)) (x.alloc (.cells #[] 62)):=by
 have l8:L 6=false:=sF fun h8=>by rw[h.o8 h8]at hL;cases hL
 have Dq:L 11=false:=sF fun jR=>by rw[h.IG jR]at l8;cases l8
 refine⟨h.ah.alloc _,fun _=>rfl,h.IG,fun _ _=>?_,fun h8=>?_,fun jR=>?_⟩
 . exact⟨rfl,.inr ⟨x.heap.size,0,#[],rfl,h.ah.size,wZ0 x _,zZ3 _,zZ5 _,rfl,rfl⟩⟩
 . change L 6=true at h8;rw[l8]at h8;cases h8
 . change L 11=true at jR;rw[Dq]at jR;cases jR
theorem wH.s8 (h:wH y A C k n L f x)(hL:L 6=false)(h1:L 1=true){r:Value}(aJ:x'.ownsRow y.heap.size 62 3 r k A)(hg:x.grownBy x' (f 1).ownBlock):wH y A C k n (plus L 6) (bQ f 6 r) x':=by
 have Dq:L 11=false:=sF fun jR=>by rw[h.IG jR]at hL;cases hL
 have hr1:=h.r1 h1 hL;have hG:ae y x':=((h.ah.only _).then (ar.ay hg)).ah fun j hj=>(hr1.lt j hj.symm).1;refine⟨hG,fun _=>h1,fun jR=>?_,(fun _ h8=>by cases h8),fun _ _=>aJ,fun jR=>?_⟩
 . change L 11=true at jR;rw[Dq]at jR;cases jR
 . change L 11=true at jR;rw[Dq]at jR;cases jR
theorem wH.Vb (h:wH y A C k n L f x)(hL:L 11=false)(h8:L 6=true){r:Value}(aJ:x'.ownsRow y.heap.size 62 3 r n (A++C))(hg:x.grownBy x' (f 6).ownBlock):wH y A C k n (plus L 11) (bQ f 11 r) x':=by
 have hG:ae y x':=((h.ah.only _).then (ar.ay hg)).ah fun j hj=>((h.r8 h8 hL).lt j hj.symm).1;refine⟨hG,h.o8,fun _=>h8,fun _ II=>?_,(fun _ jR=>by cases jR),fun _=>aJ⟩;change L 6=false at II;rw[h8]at II;cases II
end
theorem y7P {w:World}{G G2:Nat->Prop}{tb ob:Nat}{xs ys:List Pr}(h:er w G tb xs)(h2:er w G2 ob ys)(hx:xs.length<=500000)(hy:ys.length<=500000)(hno:∀p∈ys,dU (Pl.gB p.key) xs= -1):
    Calls prog 40 #[.pointer (some ⟨tb,0,none⟩),.pointer (some ⟨ob,0,none⟩)] w fun e w'=>e=.returned (.int .i64 0)/\oN w G tb (xs++ys) w':=by
 have HF:=af (fun W (g:ae w W) k=>UJ (h.ah g).read (by omega) k);obtain⟨v,h⟩:=h;obtain⟨a,cap,rfl,hA⟩:=lT h.row;obtain⟨v2,h2⟩:=h2;obtain⟨a2,ep,rfl,uR⟩:=lT h2.row;have c0:=h.c0;have c2:=h2.c0;have eY:=bf c0;have dS:=bf c2;have HS:=af (Ib h.row);have eR:=af (Ib h2.row);have HH:=af h;have HA:=af hA;have Cf:=af uR;have Ce:=af hno;have hyI:(ys.length:Int)<=500000:=by omega
 clear h h2 hA uR hno;go_in;go_wp2_with fail;go_loopw [12] (fun i wr=>∃k:Nat,k<=ys.length/\i=.int .i64 k/\Hid (ae w wr)) (fun i _=>ys.length - (intOf i).toNat);exact⟨0,zZ5 _,rfl,ae.rf w⟩;obtain⟨k,fV,rfl,HG⟩:=hrel;obtain⟨wo,rfl⟩:∃wo:World,wo=wr:=⟨_,rfl⟩
 by_cases az:k<ys.length
 . rcases Cf.out with h0 | ⟨b,off,rfl,hb,hR⟩
   . rw[h0]at az;simp at az
   have q0:=(HG.cells.1 _ _ hb).trans (hR.key k az);have q1:=(HG.cells.1 _ _ hb).trans (hR.val k az);have q2:=(HG.cells.1 _ _ hb).trans (hR.eI k az);have hi:=Ce (aV ys k) (by rw[kV ys k az];exact zQ4 az);have Xp:=af (fun W (g:ae w W)=>HF W g (aV ys k).key);rw[hi]at Xp;clear hR hi;generalize aV ys k=e at *;obtain⟨ek,ev,en⟩:=e;dsimp only at *;go_wp2_with fail;refine(Xp _ (HG.alloc _)).mono ?_;rintro r w1 ⟨rfl,aR⟩;have ct:=af ((HG.alloc _).trans aR);clear aR Xp q0 q1 q2;go_wp2_with fail;go_roundw;case rel=>exact⟨k+1,by omega,by go_num,ct⟩
   case measure=>simp[intOf];omega
 . obtain rfl:k=ys.length:=(by omega);have C0:=bj ((HG.cells.1 _ _ eY).trans c0);have C2:=bj ((HG.cells.1 _ _ dS).trans c2);obtain⟨nx,ez⟩:∃nx,nx=xs.length:=⟨_,rfl⟩
   have js:=af ez;rw[<-ez]at C0 hx;clear ez;go_upto_region 7 with fail;refine jA 12 [1,6,11] (ae wo) Eq (wH wo (cq xs) (cq ys) nx (nx+ys.length)) (fun f a=>((a.put (some 23) (f 1)).put (some 28) (f 6)).put (some 33) (f 11)) (wH.aX wo) (fun L f x h=>h.ah) (fun _=>rfl) (fun _ _ _ _ h g=>g▸h) ?_;repeat (first|refine iX ?_|(refine iZ ?_;intros;go_big_quiet_op;go_big_quiet_on)|(refine iY ?_;simp only[Act.put,xB9,xC9,xD9]))
   refine mi (by rfl) ⟨⟨bL rfl (fun _ a=>a) ?_,bL rfl (fun f a=>a.put (some 23) (f 1)) ?_,bL rfl (fun f a=>a.put (some 28) (f 6)) ?_,trivial⟩,?_⟩
   . intro L f x hJ hL hd;have hm:=af (hJ.s1 hL);clear C0 C2 hJ;go_simp;exact hm.out
   . intro L f x hJ hL hd;clear C0 C2;have h1:=hd 1 rfl (by decide);refine BV _ _ rfl (B:=wo.heap.size) (v:=f 1) (m:=0) (ys:=[]) (xs:=xs) rfl (hJ.r1 h1 hL) (ao:=a) (n:=nx) (cap:=cap) rfl js (HA.ah (HG.trans hJ.ah)) HS (by omega) hJ.ah.size ?_;intro r x' aJ hgr how;refine hJ.s8 hL h1 ?_ hgr;simpa using aJ
   . intro L f x hJ hL hd;clear C0 C2;have h8:=hd 6 rfl (by decide);refine BV _ _ rfl (B:=wo.heap.size) (v:=f 6) (m:=nx) (ys:=xs) (xs:=ys) rfl (hJ.r8 h8 hL) (ao:=a2) (n:=ys.length) (cap:=ep) rfl rfl (Cf.ah (HG.trans hJ.ah)) eR (by omega) hJ.ah.size ?_;intro r x' aJ hgr how;refine hJ.Vb hL h8 ?_ hgr;rw[lH]at aJ;exact aJ
   rintro f x hJ;clear C0 C2;have r16:=hJ.r16 rfl;have cF:∃a' bo,f 11=.slice a' (nx+ys.length) bo:=by
    rcases r16.2 with⟨h1,h2⟩ | ⟨g',c',cur,h1,_⟩
    . have hz:=r16.1;rw[h2]at hz;simp at hz;rw[h1];exact⟨none,0,by first | rw[hz] | (rw[<-hz]) | simp_all⟩
    . exact⟨_,_,h1⟩
   obtain⟨a',bo,IJ⟩:=cF;rw[IJ]at r16;rw[IJ];have ln:=HG.trans hJ.ah;have HK:=HH.aC (ln.only fun _=>False) (fun _ _ h=>h);have cx:=HK.c0;have fx:=HK.f0;have Nf:=bf cx;have dJ:Hid (oN w G tb (xs++ys) (x.setCell ⟨tb,0,none⟩ (.slice a' (nx+ys.length) bo))):=by
    refine HH.store (ln.only _) ⟨_,cx⟩ fx ?_ fun g hg=>?_
    . have hl:(xs++ys).length=nx+ys.length:=(by rw[zZ4,js.out]);rw[hl,lH];exact mg (zZ5 _) r16
    . have h1:=r16.lt g hg;have h2:=HG.size;exact⟨.inr (by omega),by omega,h1.2⟩
   clear hJ IJ r16 HK ln;dsimp only[List.drop];go_wp2_with fail;all_goals (go_ret;exact⟨rfl,dJ⟩)
end
section
attribute [local go_sem] bl
structure Xs (w:World)(v:ByteArray×ByteArray)(s:Nat)(f:Nat->Value)(u:World):Prop where
 ah:ae w u
 box:1<=s->∃bb,f 12=.pointer (some ⟨bb,0,none⟩)/\w.heap.size<=bb/\bb<u.heap.size/\(∃a,u.cell? ⟨bb,0,none⟩=some a)/\(∃a,u.cell? ⟨bb,1,none⟩=some a)/\u.frozen? ⟨bb,0,none⟩=false/\u.frozen? ⟨bb,1,none⟩=false/\(2<=s->u.cell? ⟨bb,0,none⟩=some (.string v.1)/\u.cell? ⟨bb,1,none⟩=some (.string v.2))
theorem z1k {w:World}{G G2:Nat->Prop}{ms tb sb mo tt so:Nat}{lo hi tv ml:ByteArray}{D D2:List Pr}{S S2:Int->Option An}(h:km w G ms tb sb lo hi D S)(k:km w G2 mo tt so tv ml D2 S2)(hap:∀j,(j=ms\/j=sb\/G j)->¬(j=mo\/j=so\/G2 j))(hx:D.length<=100000)(hy:D2.length<=100000)(hno:∀p∈D2,dU (Pl.gB p.key) D= -1)(h1:lo.size<=300)(h2:hi.size<=300)(h3:tv.size<=300)(h4:ml.size<=300)(hz:Pl.bg (Pl.fJ lo hi) (Pl.fJ tv ml) lo hi tv ml=0):
    Calls prog 63 #[.pointer (some ⟨ms,0,none⟩),.pointer (some ⟨mo,0,none⟩)] w fun e w'=>e=.returned (.int .i64 0)/\rE w G ms sb (Pl.aW (Pl.fJ lo hi) (Pl.fJ tv ml) lo hi tv ml).1 (Pl.aW (Pl.fJ lo hi) (Pl.fJ tv ml) lo hi tv ml).2 (D++D2) (fc S S2 5) w':=by
 have HJ:=af (fun W=>WO lo hi tv ml W (by omega) (by omega) (by omega) (by omega));unfold Sr at HJ;rw[hz]at HJ;generalize Pl.aW (Pl.fJ lo hi) (Pl.fJ tv ml) lo hi tv ml=v at *;have C0:=bj h.c0;have C1:=bj h.c1;have K0:=bj k.c0;have K1:=bj k.c1;have H:=af h;have K:=af k;have oU:=af hap;have Ce:=af hno;clear h k hap hno hz;have uS:=af (fun W (g:ae w W)=>(HJ W).mono fun e w' q=>q);go_in;go_upto_region 1 with fail;refine kh 14 [12,13] (ae w) ae (JC [12,13] (Xs w v)) (fun f a=>a.put (some 5) (f 12)) (JC.aX ⟨(ae.rf w).drew,fun e=>by omega⟩) (fun _ _ _ h=>by obtain⟨s,_,_,h⟩:=h.ex;exact h.ah) ae.rf (fun L f x x' h g=>?_) ?_
 . obtain⟨s,e1,e2,e3⟩:=h.ex;refine⟨s,e1,e2,e3.ah.trans g,fun q=>?_⟩;obtain⟨bb,a1,a2,a3,⟨_,a4⟩,⟨_,a5⟩,a6,a7,a8⟩:=e3.box q;exact⟨bb,a1,a2,xA9 a3 g.size,⟨_,(g.cells.1 _ _ a3).trans a4⟩,⟨_,(g.cells.1 _ _ a3).trans a5⟩,(g.cells.2 _ _ a3).trans a6,(g.cells.2 _ _ a3).trans a7,fun r=>⟨(g.cells.1 _ _ a3).trans (a8 r).1,(g.cells.1 _ _ a3).trans (a8 r).2⟩⟩
 repeat (first|refine kg ?_|(refine gg ?_;intros;go_big_quiet_op;go_big_quiet_on)|(refine H0 (fun _=>by kernel_rfl) (fun u hu=>uS u hu) ?_;simp only[Act.put,xB9,xC9,xD9])|(refine fZ ?_;simp only[Act.put,xB9,xC9,xD9]))
 refine jB (by rfl) ⟨⟨bL rfl (fun _ a=>a) ?_,bL rfl (fun f a=>a.put (some 5) (f 12)) ?_,trivial⟩,?_⟩
 . intro L f u hJ hL hd;have hp:∀k,0=k+1->∃i',([12,13]:List Nat)[k]? =some i'/\L i'=true:=fun k e=>by omega
   have HM:=af (hJ.stage 0 12 rfl hL hp).2;have eZ:=af (fun u' v' (h:Xs w v 1 (bQ f 12 v') u')=>hJ.put (by decide) 0 12 rfl hL hp h);clear hJ hL hd hp C0 C1 K0 K1;go_simp;exact eZ _ _ ⟨HM.ah.alloc _,fun _=>⟨u.heap.size,fY _ _ _,HM.ah.size,by simp,⟨.string ⟨#[]⟩,by simp[go_sem]⟩,⟨.string ⟨#[]⟩,by simp[go_sem]⟩,by simp[go_sem],by simp[go_sem],fun e=>by omega⟩⟩
 . intro L f u hJ hL hd;have hp:∀k,1=k+1->∃i',([12,13]:List Nat)[k]? =some i'/\L i'=true:=fun k e=>by obtain rfl:k=0:=(by omega);exact⟨12,rfl,hd 12 rfl (by decide)⟩
   have HM:=af (hJ.stage 1 13 rfl hL hp).2;have eZ:=af (fun u' v' (h:Xs w v 2 (bQ f 13 v') u')=>hJ.put (by decide) 1 13 rfl hL hp h);obtain⟨bb,e1,b1,b2,⟨x3,b3⟩,⟨x4,b4⟩,b5,b6,_⟩:=HM.box (zZ3 _);have HE1:=af e1;clear hJ hL hd hp C0 C1 K0 K1;rw[e1];clear e1;go_simp;refine eZ _ _ ⟨(HM.ah.setCell b1 _).setCell b1 _,fun _=>⟨bb,by rw[gH (by decide)];exact HE1,b1,by simp;exact b2,⟨.string v.1,by simp[go_sem,b3]⟩,⟨.string v.2,by simp[go_sem,b4]⟩,by simp[go_sem,b5],by simp[go_sem,b6],fun _=>⟨by simp[go_sem,b3],by simp[go_sem,b4]⟩⟩⟩
 intro f u hJ;have hM:=hJ.done (fun i hi=>by simpa using hi);obtain⟨bb,e1,b1,b2,_,_,_,_,b8⟩:=hM.box (show 1<=2 by omega);obtain⟨b3,b4⟩:=b8 (zZ3 2);have mW:=af hM.ah;clear hJ hM b8 C0 C1 K0 K1;dsimp only[List.drop];simp only[Act.put,xB9,xD9,xC9];rw[e1];clear e1;have qu:ms<w.heap.size:=bf H.c0;have Ay:mo<w.heap.size:=bf K.out.c0;have m0:=(mW.cells.1 _ 0 qu).trans H.c0;have m1:=(mW.cells.1 _ 1 qu).trans H.c1;have z0:=(mW.cells.2 _ 0 qu).trans H.f0;have z1:=(mW.cells.2 _ 1 qu).trans H.f1;have hbm:¬bb=ms:=by omega
 have m2:=(mW.cells.1 _ 2 qu).trans H.c2;have m3:=(mW.cells.1 _ 3 qu).trans H.c3;have k2:=(mW.cells.1 _ 2 Ay).trans K.out.c2;have k3:=(mW.cells.1 _ 3 Ay).trans K.out.c3;have f2:=(mW.cells.2 _ 2 qu).trans H.f2;have qJ:¬mo=ms:=fun e=>oU ms (.inl rfl) (.inl e.symm);go_upto_region 5 with fail;obtain⟨Z,hZ⟩:∃Z,Z=(u.setCell ⟨ms,0,none⟩ (.string v.1)).setCell ⟨ms,1,none⟩ (.string v.2):=⟨_,rfl⟩
 have hO:ar (fun j=>j=ms) u Z:=by rw[hZ];exact(ar.setCell u ⟨ms,0,none⟩ _).then (ar.setCell _ ⟨ms,1,none⟩ _)
 have d0:Z.cell? ⟨ms,0,none⟩=some (.string v.1):=by rw[hZ];simp[go_sem,m0]
 have d1:Z.cell? ⟨ms,1,none⟩=some (.string v.2):=by rw[hZ];simp[go_sem,m1]
 have d2:Z.cell? ⟨ms,2,none⟩=some (.pointer (some ⟨tb,0,none⟩)):=by rw[hZ];simp[go_sem,m2]
 have d3:Z.cell? ⟨ms,3,none⟩=some (.pointer (some ⟨sb,0,none⟩)):=by rw[hZ];simp[go_sem,m3]
 have q2:Z.cell? ⟨mo,2,none⟩=some (.pointer (some ⟨tt,0,none⟩)):=(hO.cell (xA9 Ay mW.size) qJ 2).trans k2;have q3:Z.cell? ⟨mo,3,none⟩=some (.pointer (some ⟨so,0,none⟩)):=(hO.cell (xA9 Ay mW.size) qJ 3).trans k3;have Pt:Z.frozen? ⟨ms,0,none⟩=false:=by rw[hZ,World.frozen?_setCell,World.frozen?_setCell];exact z0
 have Pu:Z.frozen? ⟨ms,1,none⟩=false:=by rw[hZ,World.frozen?_setCell,World.frozen?_setCell];exact z1
 have Pv:Z.frozen? ⟨ms,2,none⟩=false:=by rw[hZ,World.frozen?_setCell,World.frozen?_setCell];exact f2
 rw[<-hZ];clear hZ m0 m1 z0 z1 b3 b4 m2 m3 k2 k3 f2;have HO:=af (show ar (fun j=>j=ms) w Z from(mW.only _).then hO);have HD:=af (And.intro d0 (And.intro d1 (And.intro d2 (And.intro d3 (And.intro Pt (And.intro Pu Pv))))));have HQ:=af q3;have DG:=af (H.tab.aC HO (fun j hj e=>(H.cC j hj).1 e));have yJ:=af (K.out.tab.aC HO (fun j hj e=>oU ms (.inl rfl) (.inr (.inr (by rw[<-e];exact hj)))));have sJ:=af (H.cL.aC HO (fun e=>H.ne e.symm));have eR:=af (K.out.cL.aC HO (fun e=>oU ms (.inl rfl) (.inr (.inl e.symm))));have D2':=bj d2;have Q2:=bj q2;have GM:=bf d0;clear hO d0 d1 d2 d3 q2 q3 Pt Pu Pv;refine pO 8 ?_;repeat (first|(refine gg ?_;intros;go_big_quiet_op;go_big_quiet_on)|(refine fZ ?_;simp only[Act.put,xB9,xC9,xD9]))
 refine jB (by rfl) fun w2 g2=>?_;clear D2' Q2;dsimp only[List.drop];go_wp2_with fail;refine(y7P (DG.ah g2) (yJ.ah g2) (by omega) (by omega) Ce).mono ?_;rintro r w3 ⟨rfl,mK,G3,MD,k6⟩;have iA:sb<w.heap.size:=H.cL.lt;have hwZ:=HO.size;have hZ2:=g2.size;have vA:∀j,G j->j≠ms/\j≠sb:=H.cC;have GC:ar G Z w3:=(g2.only G).then mK;have e3:w3.cell? ⟨ms,3,none⟩=some (.pointer (some ⟨sb,0,none⟩)):=(GC.cell GM (fun q=>(vA ms q).1 rfl) 3).trans HD.2.2.2.1;have n3:w3.cell? ⟨mo,3,none⟩=some (.pointer (some ⟨so,0,none⟩)):=(GC.cell (xA9 Ay hwZ) (fun q=>oU mo (.inr (.inr q)) (.inl rfl)) 3).trans HQ;have qG:=af GC;have Ih:=af MD;have fI:=af k6;have HS3:=af (sJ.aC GC (fun q=>(vA sb q).2 rfl));have HS4:=af (eR.aC GC (fun q=>oU so (.inr (.inr q)) (.inr (.inl rfl))));have hne:sb≠so:=fun e=>oU sb (.inr (.inl rfl)) (.inr (.inl e));have E3:=bj e3;have N3:=bj n3;clear GC mK MD k6 e3 n3 vA;go_upto_region 6 with fail;refine pO 8 ?_;repeat (first|(refine gg ?_;intros;go_big_quiet_op;go_big_quiet_on)|(refine fZ ?_;simp only[Act.put,xB9,xC9,xD9]))
 refine jB (by rfl) fun w4 g4=>?_;clear E3 N3;dsimp only[List.drop];go_wp2_with fail;refine(y9y (HS3.ah g4) (HS4.ah g4) hne).mono ?_;rintro r w5 ⟨rfl,Xt,hM5⟩;have h34:=qG.size;have HF:Hid (rE w G ms sb v.1 v.2 (D++D2) (fc S S2 5) w5):=by
  obtain⟨d0,d1,d2,d3,z0,z1,z2⟩:=HD.out;have vA:=H.cC;have hn3:∀j,G3 j->j≠ms/\j≠sb:=fun j hj=>by
   rcases fI.out j hj with q | q
   . exact vA j q
   . omega
  have o1:ar (fun j=>j=sb\/G j) Z w5:=(qG.mono fun j hj=> .inl (.inr hj)).then ((g4.only _).then (Xt.mono fun j hj=> .inl (.inl hj)));have hno:¬(ms=sb\/G ms):=fun q=>by
   rcases q with q | q
   . exact H.ne q
   . exact(vA ms q).1 rfl
  refine⟨(HO.mono fun j hj=> .inl (.inl hj)).then (o1.mono fun j hj=> .inl (.inr hj)),G3,⟨tb,(o1.cell GM hno 0).trans d0,(o1.cell GM hno 1).trans d1,(o1.cell GM hno 2).trans d2,(o1.cell GM hno 3).trans d3,(o1.frozen GM hno 0).trans z0,(o1.frozen GM hno 1).trans z1,(o1.frozen GM hno 2).trans z2,(Ih.ah g4).aC Xt (fun j hj e=>(hn3 j hj).2 e),hM5,H.ne,hn3⟩,fun j hj=>?_⟩;rcases fI.out j hj with q | q
  . exact .inl q
  . exact .inr (by omega)
 clear Xt hM5;go_wp2_with fail;go_ret;exact⟨rfl,HF⟩
end
theorem jN.only {S:Nat->Prop}{W W':World}{a:Option Addr}{xs:List Pr}(g:ar S W W')(h:jN W a xs)(hS:∀b off,a=some ⟨b,off,none⟩->¬S b):jN W' a xs:=by
 rcases h with h | ⟨b,off,e,hb,h⟩
 . exact .inl h
 . exact .inr ⟨b,off,e,xA9 hb g.size,⟨fun j hj=>(g.cell hb (hS b off e) _).trans (h.key j hj),fun j hj=>(g.cell hb (hS b off e) _).trans (h.val j hj),fun j hj=>(g.cell hb (hS b off e) _).trans (h.eI j hj)⟩⟩
theorem z4f {w:World}{tb:Nat}{xs:List Pr}(h:nP w tb xs)(hx:xs.length<=1000000)(hk:∀c∈xs,Pl.aT c.key=0)(hd:xs.Pairwise fun a b=>a.key≠b.key)(hsz:∀c∈xs,c.key.size<=16777216)(lo hi:ByteArray)(aI:Int)(sy:lo.size<=16777216)(tx:hi.size<=16777216):
    Calls prog 20 #[.pointer (some ⟨tb,0,none⟩),.agg #[.string lo,.string hi],.int .i64 aI] w fun e w'=>(∃v zs,e=.returned v/\zs.Perm xs/\Pl.dK zs/\w'.ownsRow w.heap.size 62 3 v (cD zs lo hi aI).length (cq (cD zs lo hi aI)))/\ae w w':=by
 have HS:=af (fun W (g:ae w W)=>Z8 (h.ah g) hx hk hd);have iI:=af hsz;obtain⟨i0,dA,hz0,hz1,hz2⟩:=wZ8 Q5;clear h hk hd hsz;go_in;go_wp2_with fail;have l0:((w.alloc (.cells #[.string lo,.string hi] 24)).alloc (.cells #[] 62)).cell? ⟨w.heap.size,0,none⟩=some (.string lo):=by simp[go_sem]
 have l1:((w.alloc (.cells #[.string lo,.string hi] 24)).alloc (.cells #[] 62)).cell? ⟨w.heap.size,1,none⟩=some (.string hi):=by simp[go_sem]
 have Dc:ae w ((w.alloc (.cells #[.string lo,.string hi] 24)).alloc (.cells #[] 62)):=((ae.rf w).alloc _).alloc _;have mG:((w.alloc (.cells #[.string lo,.string hi] 24)).alloc (.cells #[] 62)).ownsRow (w.heap.size+1) 62 3 (.slice (some ⟨w.heap.size+1,0,none⟩) 0 0) 0 (cq []):=
  ⟨rfl,.inr ⟨w.heap.size+1,0,#[],rfl,zZ3 _,by have:=wZ0 (w.alloc (.cells #[.string lo,.string hi] 24)) (.cells #[] 62);simpa using this,zZ3 _,zZ5 _,rfl,rfl⟩⟩
 have hz0':w.heap.size<((w.alloc (.cells #[.string lo,.string hi] 24)).alloc (.cells #[] 62)).heap.size:=by simp;omega
 refine(HS _ Dc).mono ?_;rintro e w1 ⟨⟨v,zs,rfl,hp,hs,aJ⟩,aR⟩;have sG:=(aR.cells.1 _ _ hz0').trans l0;have sH:=(aR.cells.1 _ _ hz0').trans l1;have jr:=xA9 hz0' aR.size;have hr1:=gP aR mG;have gh:=Dc.trans aR;have hBB:∀a' n' bo,v=.slice a' n' bo->zs=[]\/∃b,a'=some ⟨b,0,none⟩/\w.heap.size+2<=b/\b<w1.heap.size:=fun a' n' bo e=>by
  rcases zJ8 zs.length with h0 | h0
  . exact .inl (zX2 h0)
  . obtain⟨g,c,e2,h3,h4⟩:=aJ.form h0;rw[e2]at e;cases e;exact .inr ⟨g,rfl,by simp at h3;omega,h4⟩
 obtain⟨a,cap,rfl,hA⟩:=lT aJ;have qp:=af (hBB a zs.length cap rfl);have hlz:zs.length=xs.length:=hp.length_eq;have HA:=af hA;have HP:=af (And.intro hp hs);have XV:Hid (∀j,j<zs.length->(aV zs j).key.size<=16777216):=fun j hj=>iI _ (hp.mem_iff.1 (CW zs j hj));have pc:=af (fun(key:ByteArray) (W:World) (hk:key.size<=16777216)=>KV lo hi key W sy tx hk);simp only[Rk]at pc;have hx2:zs.length<=1000000:=by omega
 clear hBB aJ hA hp hs l0 l1 Dc mG hz0' HS iI aR;go_wp2_with fail;go_loopw [7,14] (fun v i wr=>∃(k m:Nat) (ys:List Pr) (a2:Option Addr) (ep:Nat),k<=zs.length/\v=.slice a2 m ep/\i=.int .i64 k/\Hid (ys=cD (zs.take k) lo hi aI)/\Hid (m=ys.length)/\m<=k/\wr.ownsRow (w.heap.size+1) 62 3 (.slice a2 m ep) m (cq ys)/\ae w wr/\wr.cell? ⟨w.heap.size,0,none⟩=some (.string lo)/\wr.cell? ⟨w.heap.size,1,none⟩=some (.string hi)/\w.heap.size<wr.heap.size/\Hid (jN wr a zs)/\w1.heap.size<=wr.heap.size/\Hid (∀j,Value.ownBlock (.slice a2 m ep)=some j->j=w.heap.size+1\/w1.heap.size<=j)) (fun _ i _=>zs.length - (intOf i).toNat);exact⟨0,0,[],_,_,zZ5 _,rfl,rfl,by unfold Hid cD;simp,by unfold Hid;rfl,zZ5 _,hr1,gh,sG,sH,jr,HA,zZ3 _,fun j hj=> .inl (by simpa[Value.ownBlock]using hj.symm)⟩;obtain⟨k,m,ys,a2,ep,fV,rfl,rfl,HY,HM,UN,aH,hG,l0,l1,tJ,pw,hwz,yS⟩:=hrel;clear sG sH jr hr1 gh;by_cases az:k<zs.length
 . rcases pw.out with h0 | ⟨b,off,rfl,hb,hR⟩
   . rw[h0]at az;simp at az
   have q0:=hR.key k az;have q1:=hR.val k az;have q2:=hR.eI k az;have HN:=af (ZR zs lo hi aI k az);have oK:=XV k az;clear hR;generalize aV zs k=c at *;obtain⟨ck,cv,cn⟩:=c;dsimp only at *;have HH:=af (fun W=>pc ck W oK);cases hb2:Pl.bk lo hi ck with
   | true=>
    rw[hb2]at HH;by_cases ni:(m:Int)<aI
    . have gK:Hid (ys++[⟨ck,cv,cn⟩]=cD (zs.take (k+1)) lo hi aI):=by
       unfold Hid;rw[HN.out,<-HY.out,zZ1 ⟨by rw[<-HM.out];exact ni,hb2⟩]
      have jf:Hid (cq ys++[.string ck,.string cv,.int .i64 cn]=cq (ys++[⟨ck,cv,cn⟩])):=(by unfold Hid;rw[lH,vU];rfl);have Ve:Hid (m+1=(ys++[(⟨ck,cv,cn⟩:Pr)]).length):=(by unfold Hid;rw[zZ4,<-HM.out];rfl);clear hb2 HN;go_wp2_with fail;refine(HH _).mono ?_;rintro e w5 ⟨rfl,aR⟩;have gh:=(hG.alloc _).trans aR;have Nk:=aR.size;have o1:=(ae.rf wr).alloc (.cells #[.string ck,.string cv,.int .i64 cn] 62) |>.trans aR;have sG:=(o1.cells.1 _ _ tJ).trans l0;have sH:=(o1.cells.1 _ _ tJ).trans l1;have k0:w5.cell? ⟨wr.heap.size,0,none⟩=some (.string ck):=(by rw[aR.cells.1 _ _ (by simp)];simp[go_sem]);have k1:w5.cell? ⟨wr.heap.size,1,none⟩=some (.string cv):=(by rw[aR.cells.1 _ _ (by simp)];simp[go_sem]);have k2:w5.cell? ⟨wr.heap.size,2,none⟩=some (.int .i64 cn):=(by rw[aR.cells.1 _ _ (by simp)];simp[go_sem]);have hown1:=gP o1 aH;have jr:w.heap.size<w5.heap.size:=(by have:=o1.size;omega);have wN:=af (pw.ah o1);clear l0 l1 aH o1 pw q0 q1 q2;go_wp2_with (at_builtin;refine wQ2 _ rfl _ _ 66 rfl (w.heap.size+1) 62 i0 _ 3 40 underlying66 dA hz0 hz1 hz2 rfl (by omega) _ m (cq ys) rfl (hown1.alloc _) ⟨w5.heap.size,0,none⟩ 1 1 [.string ck,.string cv,.int .i64 cn] rfl rfl (World.news_of_block (cs:=#[.string ck,.string cv,.int .i64 cn]) (t:=62) (fr:=(0,0)) (wZ0 w5 _)) (by simp[Value.oneCell']) (by omega) (by unfold maxLen;omega) (by omega) ?_ _ rfl ?_)
      . simp;omega
      . intro g Ds w2 bP bw hat kI;have hS:∀j,some j=Value.ownBlock (.slice a2 m ep)->w.heap.size+1<=j:=fun j hj=>(hown1.lt j hj.symm).1;have o2:ar (fun j=>some j=Value.ownBlock (.slice a2 m ep)) w5 w2:=(((ae.rf w5).alloc _).only _).then (ar.ay bw);have bW:ae w w2:=((gh.only _).then o2).ah (fun j hj=>Nat.le_of_succ_le (hS j hj));have n1:¬some w.heap.size=Value.ownBlock (.slice a2 m ep):=fun e=>by have:=hS _ e;omega
        have IM:=(o2.cell jr n1 0).trans sG;have IP:=(o2.cell jr n1 1).trans sH;have IQ:w.heap.size<w2.heap.size:=xA9 jr o2.size;have XW:Hid (jN w2 (some ⟨b,off,none⟩) zs):=by
         refine jN.only o2 wN fun b' MW e hb'=>?_;cases e;rcases qp.out with h | ⟨b2,e2,h1,h2⟩
         . rw[h]at az;simp at az
         . cases e2;rcases yS.out _ hb'.symm with h3 | h3<;> omega
        have XX:Hid (∀j,Value.ownBlock (.slice (some ⟨g,0,none⟩) (m+1) Ds)=some j->j=w.heap.size+1\/w1.heap.size<=j):=fun j hj=>by
         have hj':g=j:=(by simpa[Value.ownBlock]using hj);subst hj';rcases hat with h | h
         . exact yS _ h
         . right;have:=Nk;simp at this;omega
        have XY:w1.heap.size<=w2.heap.size:=(by have:=o2.size;have:=Nk;simp at this;omega);rw[jf.out]at bP;clear o2 bw hat hown1 sG sH hS n1 k0 k1 k2 gh Nk jr wN;go_wp2_with fail;go_roundw;case rel=>exact⟨k+1,m+1,ys++[⟨ck,cv,cn⟩],_,Ds,by omega,rfl,by go_num,gK,Ve,by omega,bP,bW,IM,IP,IQ,XW,XY,XX⟩
        case measure=>simp[intOf];omega
    . have gK:Hid (ys=cD (zs.take (k+1)) lo hi aI):=by
       unfold Hid;rw[HN.out,<-HY.out,zZ0 (fun h=>ni (by rw[HM.out];exact h.1)),yZ1]
      clear hb2 HN;go_wp2_with fail;refine(HH _).mono ?_;rintro e w5 ⟨rfl,aR⟩;have o1:=(ae.rf wr).alloc (.cells #[.string ck,.string cv,.int .i64 cn] 62) |>.trans aR;have sG:=(o1.cells.1 _ _ tJ).trans l0;have sH:=(o1.cells.1 _ _ tJ).trans l1;have hown1:=gP o1 aH;have gh:=hG.trans o1;have wN:=af (pw.ah o1);have jr:w.heap.size<w5.heap.size:=(by have:=o1.size;omega);clear l0 l1 aH o1 pw;go_wp2_with fail;go_roundw;case rel=>exact⟨k+1,m,ys,a2,ep,by omega,rfl,by go_num,gK,HM,by omega,hown1,gh,sG,sH,jr,wN,by have:=aR.size;simp at this;omega,yS⟩
      case measure=>simp[intOf];omega
   | false=>
    rw[hb2]at HH;have gK:Hid (ys=cD (zs.take (k+1)) lo hi aI):=by
     unfold Hid;rw[HN.out,<-HY.out,zZ0 (fun h=>by rw[hb2]at h;cases h.2),yZ1]
    clear hb2 HN;go_wp2_with fail;refine(HH _).mono ?_;rintro e w5 ⟨rfl,aR⟩;have o1:=(ae.rf wr).alloc (.cells #[.string ck,.string cv,.int .i64 cn] 62) |>.trans aR;have sG:=(o1.cells.1 _ _ tJ).trans l0;have sH:=(o1.cells.1 _ _ tJ).trans l1;have hown1:=gP o1 aH;have gh:=hG.trans o1;have wN:=af (pw.ah o1);have jr:w.heap.size<w5.heap.size:=(by have:=o1.size;omega);clear l0 l1 aH o1 pw;go_wp2_with fail;go_roundw;case rel=>exact⟨k+1,m,ys,a2,ep,by omega,rfl,by go_num,gK,HM,by omega,hown1,gh,sG,sH,jr,wN,by have:=aR.size;simp at this;omega,yS⟩
    case measure=>simp[intOf];omega
 . obtain rfl:k=zs.length:=(by omega);rw[zQ1]at HY;go_wp2_with fail;go_ret;exact⟨⟨_,zs,rfl,HP.1,HP.2,by rw[<-HY.out,<-HM.out];exact mg (yK9 _) aH⟩,hG⟩
end Go.Proofs.YtgegogoanbamfaaGreatDoor
