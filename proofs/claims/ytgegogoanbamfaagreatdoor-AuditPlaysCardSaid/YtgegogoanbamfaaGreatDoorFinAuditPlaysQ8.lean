/- Part 8. -/
import Derived.Test.YtgegogoanbamfaaGreatDoorFinAuditPlaysQ2
import Derived.Test.YtgegogoanbamfaaGreatDoorFinAuditPlaysQ6
import Derived.Deep.RegionHeld3
set_option linter.unusedVariables false
set_option linter.unusedSectionVars false
set_option linter.unusedSimpArgs false
set_option maxRecDepth 100000
set_option maxHeartbeats 16000000
namespace Go.Proofs.YtgegogoanbamfaaGreatDoor
namespace Pl
end Pl
open Pl Go.Proofs.Tryz Go.RowKit Go.Maps
attribute [local go_sem] Oper.semAt_some
section
open Go.Sort
section
variable {S:Nat->Bool}(hS:iM S)(E:Nat->Addr){w:World}(hE:bz S E w){F:Nat->Prop}{sb:Nat}{xs:List Sh}{aD:Nat->Bool}{ne:Nat}{evs:List Value}(h:gR w F sb xs aD ne evs)(hx:xs.length<=1000000)(e:En)(hA:b7 w e)(bX:e.key.size<=70368744177664)
include hS hE h hx hA bX
theorem TF (hp:Pl.cK e=false\/Pl.aK xs e.aj= -1\/e.ax=2):Calls prog 68 #[.pointer (some ⟨sb,0,none⟩),e.agg] w fun r w'=>r=.returned (.bool (Pl.jG xs aD e))/\ae w w':=by
 have HE:=af hE;have HM:=af h;have HA:=af hA;have HF:=af (fun W (g:ae w W) id=>yr (HM.ah g) hx id);have HR:=af (fun W (g:ae w W)=>qX hS.key E e W (HE.ah g) (HA.ah g));obtain⟨v,ve,h⟩:=h;obtain⟨a,cap,rfl,mj⟩:=Fq h.row;have c0:=h.bZ;have hb:=h.blt;have HU:=af h.aD;have HZ:=af h.sz;have gI:=af mj;have HW:=af (show True from trivial);clear hE h hA mj;cases hr:Pl.cK e with
 | false=>
  have HC:Hid (Pl.jG xs aD e=false):=by unfold Hid Pl.jG;rw[zZ1 hr]
  rw[hr]at HR;unfold En.agg En.vals at *;clear hr;go_in;go_wp2_with fail;refine(HF _ ((ae.rf w).alloc _) _).mono ?_;rintro r w1 ⟨rfl,hg⟩;have hc:=hg.cells.1;have hz:w.heap.size<w1.heap.size:=by have:=hg.size;simp at this;omega
  have hG:=hg.jy;clear hg;go_wp2_with fail;refine(HR _ hG).mono ?_;rintro r w2 ⟨rfl,aP⟩;go_wp2_with fail;go_ret;exact⟨bS HC.symm,hG.trans aP⟩
 | true=>
  have pN:Hid (∀b,(if Pl.aK xs e.aj<0 then false
 else if e.ax=2 then true
 else if e.ax=3 then !aD e.ak.toNat && Pl.bk (ai xs (Pl.aK xs e.aj).toNat).lo (ai xs (Pl.aK xs e.aj).toNat).hi e.key && !decide (e.key.toList=(ai xs (Pl.aK xs e.aj).toNat).lo.toList)
 else if e.ax=4 then
  if Pl.aK xs e.ak<0 then false
  else decide (Pl.bg (Pl.bD (ai xs (Pl.aK xs e.aj).toNat).lo (ai xs (Pl.aK xs e.aj).toNat).hi) (Pl.bD (ai xs (Pl.aK xs e.ak).toNat).lo (ai xs (Pl.aK xs e.ak).toNat).hi) (ai xs (Pl.aK xs e.aj).toNat).lo (ai xs (Pl.aK xs e.aj).toNat).hi (ai xs (Pl.aK xs e.ak).toNat).lo (ai xs (Pl.aK xs e.ak).toNat).hi=0)
 else false)=b->Pl.jG xs aD e=b):=by
     unfold Hid;intro b hb';unfold Pl.jG;rw[zZ0 (by rw[hr];simp)];exact hb'
  rw[hr]at HR
  rcases Pl.Hn xs e.aj with hf | ⟨i,hi,hf,cH⟩
  . have HC:Hid (Pl.jG xs aD e=false):=by unfold Hid;refine pN _ ?_;rw[hf];rfl
    have ic:=af (fun W g=>HF W g e.aj)
    rw[hf]at ic
    unfold En.agg En.vals at *
    clear hr pN hf HF
    go_in
    go_wp2_with fail
    refine(ic _ ((ae.rf w).alloc _)).mono ?_
    rintro r w1 ⟨rfl,hg⟩
    have hc:=hg.cells.1
    have hz:w.heap.size<w1.heap.size:=by have:=hg.size;simp at this;omega
    have hG:=hg.jy
    clear hg
    go_wp2_with fail
    refine(HR _ hG).mono ?_
    rintro r w2 ⟨rfl,aP⟩
    go_wp2_with fail
    go_ret
    exact⟨bS HC.symm,hG.trans aP⟩
  . have QM:e.ax=2:=by
     rcases hp with hp | hp | hp
     . rw[hr]at hp;cases hp
     . omega
     . exact hp
    rcases gI.out with h0 | ⟨b,off,rfl,eT,dD⟩
    . rw[h0]at hi;simp at hi
    have ic:=af (fun W g=>HF W g e.aj)
    rw[hf]at ic
    have tu:¬((i:Int)<0):=by omega
    have BR:(i:Int)<(xs.length:Int):=by omega
    have rl:=dD.lo i hi
    have rh:=dD.hi i hi
    obtain⟨z1,z2⟩:=HZ _ (k7 xs i hi)
    rw[hf]at pN
    have Y6:=af dD
    clear hf cH dD
    have CH:(i:Int).toNat=i:=zQ3 i
    rw[zZ0 tu,CH]at pN
    clear CH
    by_cases k2:e.ax=2
    case neg=>exact absurd QM k2
    . have HC:Hid (Pl.jG xs aD e=true):=by unfold Hid;refine pN _ ?_;rw[zZ1 k2]
      have b2:(e.ax==2)=true:=beq_iff_eq.2 k2
      unfold En.agg En.vals at *
      clear hr pN HF k2 QM
      go_in
      go_wp2_with fail
      refine(ic _ ((ae.rf w).alloc _)).mono ?_
      rintro r w1 ⟨rfl,hg⟩
      have hc:=hg.cells.1
      have hz:w.heap.size<w1.heap.size:=by have:=hg.size;simp at this;omega
      have hG:=hg.jy
      go_wp2_with fail
      refine(HR _ hG).mono ?_
      rintro r w2 ⟨rfl,aP⟩
      have bW:=hG.trans aP
      have hc2:=aP.cells.1
      have hz2:w.heap.size<w2.heap.size:=xA9 hz aP.size
      clear hg aP
      go_wp2_with fail
      go_ret
      exact⟨bS HC.symm,bW⟩
end
end
section
open Go.Sort
section
variable {S:Nat->Bool}(hS:iM S)(E:Nat->Addr){w:World}(hE:bz S E w){F:Nat->Prop}{sb:Nat}{xs:List Sh}{aD:Nat->Bool}{ne:Nat}{evs:List Value}(h:gR w F sb xs aD ne evs)(hx:xs.length<=1000000)(e:En)(hA:b7 w e)(bX:e.key.size<=70368744177664)
include hS hE h hx hA bX
theorem z0y (hr:Pl.cK e=true)(k3:e.ax=3)(i:Nat)(hi:i<xs.length)(hf:Pl.aK xs e.aj=(i:Nat)):
    Calls prog 68 #[.pointer (some ⟨sb,0,none⟩),e.agg] w fun r w'=>r=.returned (.bool (!aD e.ak.toNat && Pl.bk (ai xs i).lo (ai xs i).hi e.key && !decide (e.key.toList=(ai xs i).lo.toList)))/\ae w w':=by
 have HE:=af hE;have HA:=af hA;have ic:=af (fun W (g:ae w W)=>yr (h.ah g) hx e.aj);have HR:=af (fun W (g:ae w W)=>qX hS.key E e W (HE.ah g) (HA.ah g));obtain⟨v,ve,h⟩:=h;obtain⟨a,cap,rfl,mj⟩:=Fq h.row;have c0:=h.bZ;have hb:=h.blt;have HU:=af h.aD;have HZ:=af h.sz;obtain⟨o1,o2⟩:=Tn hr k3;obtain⟨z1,z2⟩:=HZ _ (k7 xs i hi);rw[hr]at HR;rw[hf]at ic;rcases mj with h0 | ⟨b,off,rfl,eT,dD⟩
 . rw[h0]at hi;simp at hi
 have rl:=dD.lo i hi;have rh:=dD.hi i hi;have pc:=af (fun W (g:ae w W)=>He S E hS.Cy (ai xs i).lo (ai xs i).hi e.key W z1 z2 bX (HE.ah g));have tu:¬((i:Int)<0):=by omega
 have BR:(i:Int)<(xs.length:Int):=by omega
 have Y7:=af (HU e.ak.toNat (by omega));clear HU hE HE h hA HA hf hr HZ z1 z2 dD;generalize aD e.ak.toNat=u at *;generalize (ai xs i).lo=lo at *;generalize (ai xs i).hi=hi' at *;unfold En.agg En.vals at *;obtain⟨ax,aj,ak,aq,aw,seq,key,aM,aL,aA,ops,aN,aS,aF,aB,aG⟩:=e;dsimp only at *;subst k3;obtain⟨o,rfl⟩:∃o:Nat,ak=(o:Int):=⟨ak.toNat,by omega⟩
 have TG:=Y7.out;rw[zQ3]at TG;have Mm:(o:Int)<13:=by omega
 have Y8:o<13:=by omega
 clear Y7 o1 o2;generalize Pl.bk lo hi' key=hs at *;go_in;go_wp2_with fail;refine(ic _ ((ae.rf w).alloc _)).mono ?_;rintro r w1 ⟨rfl,hg⟩;have hc:=hg.cells.1;have hz:w.heap.size<w1.heap.size:=by have:=hg.size;simp at this;omega
 have hG:=hg.jy;go_wp2_with fail;refine(HR _ hG).mono ?_;rintro r w2 ⟨rfl,aP⟩;have bW:=hG.trans aP;have hc2:=aP.cells.1;have hz2:w.heap.size<w2.heap.size:=xA9 hz aP.size;have cA:=af bW;clear hg aP;go_wp2_with fail;have Ht:∀o',w2.cell? ⟨w.heap.size,o',none⟩=(w.alloc (Obj.cells #[.int .i64 3,.int .i64 aj,.int .i64 o,.int .i64 aq,.int .i64 aw,.int .i64 seq,.slice aN ops.length aS,.string key,.int .i64 aM,.int .i64 aL,.int .i64 aA,.slice aF aB aG] 36)).cell? ⟨w.heap.size,o',none⟩:=fun o'=>(hc2 _ _ hz).trans (hc _ _ (by simp));have E2:=cell_regrown (w:=w2) (a:=⟨w.heap.size,2,none⟩) (v:=.int .i64 o) ((Ht 2).trans (by simp[go_sem]));have E7:=cell_regrown (w:=w2) (a:=⟨w.heap.size,7,none⟩) (v:=.string key) ((Ht 7).trans (by simp[go_sem]));have C0:=cell_regrown ((bW.cells.1 _ _ hb).trans c0);have CU:=cell_regrown ((bW.cells.1 _ _ hb).trans TG);have R3:=cell_regrown ((bW.cells.1 _ _ eT).trans rl);have R4:=cell_regrown ((bW.cells.1 _ _ eT).trans rh);have rp:∀d os,ae w (grow (redrawn w2 d) os):=fun d os=>bW.trans (below_regrown w2 d os);have Hu:∀d os,Calls prog 89 #[.agg #[.string lo,.string hi'],.string key] (grow (redrawn w2 d) os) fun e w''=>e=.returned (.bool hs)/\∃p:Regrown,w''=grow (redrawn w2 p.d) p.os:=fun d os=>Calls.regrown_of (pc _ (rp d os));have CI:=af rp;clear hc hc2 Ht hG bW cA pc HR ic c0 TG rl rh rp hz hz2;cases u with
 | true=>
  refine wp_region_quiet_below (by kernel_rfl) (by kernel_rfl) ?_;repeat (go_big_quiet_step (exact Hu _ _))
  refine wpQuiet_nil ?_;intro _ hw';obtain⟨⟨dq,osq⟩,hw''⟩:=hw';subst hw'';go_wp2_with fail;go_ret;exact⟨bS (by simp),CI dq osq⟩
 | false=>
  cases hs with
  | false=>
   refine wp_region_quiet_below (by kernel_rfl) (by kernel_rfl) ?_;repeat (go_big_quiet_step (exact Hu _ _))
   refine wpQuiet_nil ?_;intro _ hw';obtain⟨⟨dq,osq⟩,hw''⟩:=hw';subst hw'';go_wp2_with fail;go_ret;exact⟨bS (by simp),CI dq osq⟩
  | true=>
   refine wp_region_quiet_below (by kernel_rfl) (by kernel_rfl) ?_;repeat (go_big_quiet_step (exact Hu _ _))
   refine wpQuiet_nil ?_;intro _ hw';obtain⟨⟨dq,osq⟩,hw''⟩:=hw';subst hw'';go_wp2_with fail;go_ret;exact⟨bS (by by_cases q:key.toList=lo.toList<;> simp[q]),CI dq osq⟩
end
end
section
open Go.Sort
section
variable {S:Nat->Bool}(hS:iM S)(E:Nat->Addr){w:World}(hE:bz S E w){F:Nat->Prop}{sb:Nat}{xs:List Sh}{aD:Nat->Bool}{ne:Nat}{evs:List Value}(h:gR w F sb xs aD ne evs)(hx:xs.length<=1000000)(e:En)(hA:b7 w e)(bX:e.key.size<=70368744177664)
include hS hE h hx hA bX
theorem y8L (hr:Pl.cK e=true)(k4:e.ax=4)(i:Nat)(hi:i<xs.length)(hf:Pl.aK xs e.aj=(i:Nat))(hj:Pl.aK xs e.ak= -1):
    Calls prog 68 #[.pointer (some ⟨sb,0,none⟩),e.agg] w fun r w'=>r=.returned (.bool false)/\ae w w':=by
 have HE:=af hE;have HA:=af hA;have ic:=af (fun W (g:ae w W)=>yr (h.ah g) hx e.aj);have nC:=af (fun W (g:ae w W)=>yr (h.ah g) hx e.ak);have HR:=af (fun W (g:ae w W)=>qX hS.key E e W (HE.ah g) (HA.ah g));obtain⟨v,ve,h⟩:=h;obtain⟨a,cap,rfl,mj⟩:=Fq h.row;have c0:=h.bZ;have hb:=h.blt;have HZ:=af h.sz;obtain⟨z1,z2⟩:=HZ _ (k7 xs i hi);rw[hr]at HR;rw[hf]at ic;rw[hj]at nC;rcases mj with h0 | ⟨b,off,rfl,eT,dD⟩
 . rw[h0]at hi;simp at hi
 have tu:¬((i:Int)<0):=by omega
 have BR:(i:Int)<(xs.length:Int):=by omega
 clear hE HE h hA HA hf hr HZ z1 z2 dD hj;unfold En.agg En.vals at *;obtain⟨ax,aj,ak,aq,aw,seq,key,aM,aL,aA,ops,aN,aS,aF,aB,aG⟩:=e;dsimp only at *;subst k4;go_in;go_wp2_with fail;refine(ic _ ((ae.rf w).alloc _)).mono ?_;rintro r w1 ⟨rfl,hg⟩;have hc:=hg.cells.1;have hz:w.heap.size<w1.heap.size:=by have:=hg.size;simp at this;omega
 have hG:=hg.jy;go_wp2_with fail;refine(HR _ hG).mono ?_;rintro r w2 ⟨rfl,aP⟩;have bW:=hG.trans aP;have hc2:=aP.cells.1;have hz2:w.heap.size<w2.heap.size:=xA9 hz aP.size;have cA:=af bW;have E2:w2.cell? ⟨w.heap.size,2,none⟩=some (.int .i64 ak):=((hc2 _ _ hz).trans (hc _ _ (by simp))).trans (by simp[go_sem]);have E0:w2.cell? ⟨w.heap.size,0,none⟩=some (.int .i64 4):=((hc2 _ _ hz).trans (hc _ _ (by simp))).trans (by simp[go_sem]);clear hg aP hc hc2 hG bW;go_wp2_with fail;refine(nC _ cA).mono ?_;rintro r w3 ⟨rfl,hg3⟩;have fI:=af (cA.trans hg3);clear hg3 E2 E0;go_wp2_with fail;go_ret;exact⟨rfl,fI⟩
theorem y9o (hr:Pl.cK e=true)(k4:e.ax=4)(i:Nat)(hi:i<xs.length)(hf:Pl.aK xs e.aj=(i:Nat))(j:Nat)(jH:j<xs.length)(hj:Pl.aK xs e.ak=(j:Nat)):
    Calls prog 68 #[.pointer (some ⟨sb,0,none⟩),e.agg] w fun r w'=>r=.returned (.bool (decide (Pl.bg (Pl.bD (ai xs i).lo (ai xs i).hi) (Pl.bD (ai xs j).lo (ai xs j).hi) (ai xs i).lo (ai xs i).hi (ai xs j).lo (ai xs j).hi=0)))/\ae w w':=by
 have HE:=af hE;have HA:=af hA;have ic:=af (fun W (g:ae w W)=>yr (h.ah g) hx e.aj);have nC:=af (fun W (g:ae w W)=>yr (h.ah g) hx e.ak);have HR:=af (fun W (g:ae w W)=>qX hS.key E e W (HE.ah g) (HA.ah g));obtain⟨v,ve,h⟩:=h;obtain⟨a,cap,rfl,mj⟩:=Fq h.row;have c0:=h.bZ;have hb:=h.blt;have HZ:=af h.sz;obtain⟨z1,z2⟩:=HZ _ (k7 xs i hi);rw[hr]at HR;rw[hf]at ic;rw[hj]at nC;rcases mj with h0 | ⟨b,off,rfl,eT,dD⟩
 . rw[h0]at hi;simp at hi
 have tu:¬((i:Int)<0):=by omega
 have BR:(i:Int)<(xs.length:Int):=by omega
 have TH:¬((j:Int)<0):=by omega
 have qd:(j:Int)<(xs.length:Int):=by omega
 have rl:=dD.lo i hi;have rh:=dD.hi i hi;have ql:=dD.lo j jH;have qh:=dD.hi j jH;obtain⟨y1,y2⟩:=HZ _ (k7 xs j jH);have HJ:=af (fun W (g:ae w W)=>Tm S E hS.span (ai xs i).lo (ai xs i).hi (ai xs j).lo (ai xs j).hi W z1 z2 y1 y2 (HE.ah g));clear hE HE h hA HA hf hr HZ z1 z2 y1 y2 dD hj;generalize Pl.bg (Pl.bD (ai xs i).lo (ai xs i).hi) (Pl.bD (ai xs j).lo (ai xs j).hi) (ai xs i).lo (ai xs i).hi (ai xs j).lo (ai xs j).hi=jn at *;generalize Pl.aW (Pl.bD (ai xs i).lo (ai xs i).hi) (Pl.bD (ai xs j).lo (ai xs j).hi) (ai xs i).lo (ai xs i).hi (ai xs j).lo (ai xs j).hi=jv at *;generalize (ai xs i).lo=lo at *;generalize (ai xs i).hi=hi' at *;generalize (ai xs j).lo=tv at *;generalize (ai xs j).hi=ml at *;unfold QC at HJ;obtain⟨TI,TJ⟩:=jv;have HV:Hid (∃ev,bA E jn=ev/\decide (jn=0)=(match ev with | .nilIface=>true | _=>false)/\(ev=.nilIface\/∃t p,ev=.iface t (.pointer (some p)))):=by
  unfold Hid;by_cases q:jn=0
  . exact⟨_,rfl,by rw[q];rfl,by rw[q];exact .inl rfl⟩
  . rw[xN E jn q];exact⟨_,rfl,by simp[q],.inr ⟨_,_,rfl⟩⟩
 obtain⟨ev,he,hd,hk⟩:=HV.out;rw[hd];rw[he]at HJ;clear HV he hd;have HK:=af hk;clear hk;unfold En.agg En.vals at *;obtain⟨ax,aj,ak,aq,aw,seq,key,aM,aL,aA,ops,aN,aS,aF,aB,aG⟩:=e;dsimp only at *;subst k4;go_in;go_wp2_with fail;refine(ic _ ((ae.rf w).alloc _)).mono ?_;rintro r w1 ⟨rfl,hg⟩;have hc:=hg.cells.1;have hz:w.heap.size<w1.heap.size:=by have:=hg.size;simp at this;omega
 have hG:=hg.jy;go_wp2_with fail;refine(HR _ hG).mono ?_;rintro r w2 ⟨rfl,aP⟩;have bW:=hG.trans aP;have hc2:=aP.cells.1;have hz2:w.heap.size<w2.heap.size:=xA9 hz aP.size;have cA:=af bW;have E2:w2.cell? ⟨w.heap.size,2,none⟩=some (.int .i64 ak):=((hc2 _ _ hz).trans (hc _ _ (by simp))).trans (by simp[go_sem]);have E0:w2.cell? ⟨w.heap.size,0,none⟩=some (.int .i64 4):=((hc2 _ _ hz).trans (hc _ _ (by simp))).trans (by simp[go_sem]);clear hg aP hc hc2 hG bW;go_wp2_with fail;refine(nC _ cA).mono ?_;rintro r w3 ⟨rfl,hg3⟩;have fI:=af (cA.trans hg3);clear hg3 E2 E0;have hb3:sb<w3.heap.size:=xA9 hb fI.size;have TK:b<w3.heap.size:=xA9 eT fI.size;have C0:=bj ((fI.cells.1 _ _ hb).trans c0);have R3:=bj ((fI.cells.1 _ _ eT).trans rl);have R4:=bj ((fI.cells.1 _ _ eT).trans rh);have Q3:=bj ((fI.cells.1 _ _ eT).trans ql);have Q4:=bj ((fI.cells.1 _ _ eT).trans qh);clear c0 rl rh ql qh ic nC HR cA;go_wp2_with fail;refine jA 23 [20,21] (ae w3) ae (fun L f w=>ae w3 w/\(L 20=true->∃x y,BP w3.heap.size w (f 20) x y)) (fun f a=>a.put (some 7) (f 20)) ⟨(ae.rf w3).drew,fun h=>(by cases h)⟩ (fun _ _ _ h=>h.1) ae.rf (fun L f u u' h g=>⟨h.1.trans g,fun hl=>(h.2 hl).elim fun x hx=>hx.elim fun y hy=>⟨x,y,hy.ah g⟩⟩) ?_;repeat (first|(refine QL (by rfl) (by rfl) ?_)|(refine TA (by rfl) (by rfl) (by rfl) ae.rf (by rfl) ?_;intro K hK;go_big_quiet_op;go_big_quiet_on)|(refine Tz (by rfl) (by rfl) (by rfl) (by rfl) (fun _=>by kernel_rfl) (fun u hu=>HJ u (fI.trans hu)) ?_;simp only[Act.put,xB9,xC9,xD9]))
 refine vM ⟨⟨bL rfl (fun _ a=>a) ?_,bL rfl (fun f a=>a.put (some 7) (f 20)) ?_,trivial⟩,?_⟩
 . intro L f u hJ hL hd;clear HJ HK C0 R3 R4 Q3 Q4;go_simp;exact⟨hJ.1.alloc _,_,_,by rw[fY];exact BP.eC hJ.1.size _ _ _⟩
 . intro L f u hJ hL hd;clear HJ HK C0 R3 R4 Q3 Q4;obtain⟨x,y,m,hm,hN,c0,c1,f0,f1⟩:=hJ.2 (hd 20 rfl (by decide));rw[hm];go_simp;obtain⟨g1,g2⟩:=Y3 hJ.1 hN c0 c1 f0 f1 (.string TI) (.string TJ);exact⟨g1,fun _=>⟨_,_,by rw[gH (by decide),hm];exact g2⟩⟩
 . intro f u hJ;obtain⟨hG,hF⟩:=hJ;have hw:=fI.trans hG;rcases HK.out with rfl | ⟨t,p,rfl⟩
   . go_wp2_with fail;go_ret;exact⟨rfl,hw⟩
   . go_wp2_with fail;go_ret;exact⟨rfl,hw⟩
end
end
section
open Go.Sort
section
variable {S:Nat->Bool}(hS:iM S)(E:Nat->Addr){w:World}(hE:bz S E w){F:Nat->Prop}{sb:Nat}{xs:List Sh}{aD:Nat->Bool}{ne:Nat}{evs:List Value}(h:gR w F sb xs aD ne evs)(hx:xs.length<=1000000)(e:En)(hA:b7 w e)(bX:e.key.size<=70368744177664)
include hS hE h hx hA bX
theorem z0f (hr:Pl.cK e=true)(k2:e.ax≠2)(k3:e.ax≠3)(k4:e.ax≠4)(i:Nat)(hi:i<xs.length)(hf:Pl.aK xs e.aj=(i:Nat)):
    Calls prog 68 #[.pointer (some ⟨sb,0,none⟩),e.agg] w fun r w'=>r=.returned (.bool false)/\ae w w':=by
 have HE:=af hE;have HA:=af hA;have ic:=af (fun W (g:ae w W)=>yr (h.ah g) hx e.aj);have HR:=af (fun W (g:ae w W)=>qX hS.key E e W (HE.ah g) (HA.ah g));rw[hr]at HR;rw[hf]at ic;have b2:(e.ax==2)=false:=beq_false_of_ne k2;have b3:(e.ax==3)=false:=beq_false_of_ne k3;have b4:(e.ax==4)=false:=beq_false_of_ne k4;have tu:¬((i:Int)<0):=by omega
 clear hE h hA hf hr hi hx;unfold En.agg En.vals at *;go_in;go_wp2_with fail;refine(ic _ ((ae.rf w).alloc _)).mono ?_;rintro r w1 ⟨rfl,hg⟩;have hc:=hg.cells.1;have hz:w.heap.size<w1.heap.size:=by have:=hg.size;simp at this;omega
 have hG:=hg.jy;go_wp2_with fail;refine(HR _ hG).mono ?_;rintro r w2 ⟨rfl,aP⟩;have bW:=hG.trans aP;have hc2:=aP.cells.1;have hz2:w.heap.size<w2.heap.size:=xA9 hz aP.size;clear hg aP;go_wp2_with fail;go_ret;exact⟨rfl,bW⟩
theorem QN:Calls prog 68 #[.pointer (some ⟨sb,0,none⟩),e.agg] w fun r w'=>r=.returned (.bool (Pl.jG xs aD e))/\ae w w':=by
 by_cases hr:Pl.cK e=true
 . rcases Pl.Hn xs e.aj with hf | ⟨i,hi,hf,cH⟩
   . exact TF hS E hE h hx e hA bX (.inr (.inl hf))
   . have tu:¬((i:Int)<0):=(by omega);have CH:(i:Int).toNat=i:=zQ3 i;by_cases k2:e.ax=2
     . exact TF hS E hE h hx e hA bX (.inr (.inr k2))
     have e0:Pl.jG xs aD e=(if e.ax=3 then !aD e.ak.toNat && Pl.bk (ai xs i).lo (ai xs i).hi e.key && !decide (e.key.toList=(ai xs i).lo.toList)
         else if e.ax=4 then
          if Pl.aK xs e.ak<0 then false
          else decide (Pl.bg (Pl.bD (ai xs i).lo (ai xs i).hi) (Pl.bD (ai xs (Pl.aK xs e.ak).toNat).lo (ai xs (Pl.aK xs e.ak).toNat).hi) (ai xs i).lo (ai xs i).hi (ai xs (Pl.aK xs e.ak).toNat).lo (ai xs (Pl.aK xs e.ak).toNat).hi=0)
         else false):=by
      unfold Pl.jG;rw[zZ0 (by rw[hr];simp),hf,zZ0 tu,zZ0 k2,CH]
     rw[e0];by_cases k3:e.ax=3
     . rw[zZ1 k3];exact z0y hS E hE h hx e hA bX hr k3 i hi hf
     . rw[zZ0 k3];by_cases k4:e.ax=4
       . rw[zZ1 k4];rcases Pl.Hn xs e.ak with hj | ⟨j,jH,hj,gz⟩
         . rw[hj,zZ1 (by decide)];exact y8L hS E hE h hx e hA bX hr k4 i hi hf hj
         . rw[hj,zZ0 (by omega),zQ3];exact y9o hS E hE h hx e hA bX hr k4 i hi hf j jH hj
       . rw[zZ0 k4];exact z0f hS E hE h hx e hA bX hr k2 k3 k4 i hi hf
 . exact TF hS E hE h hx e hA bX (.inl (by simpa using hr))
end
end
def Sr (v:ByteArray×ByteArray)(n:Nat)(w:World)(e:Ending)(w':World):Prop:=
 e=.returned (.tuple #[.agg #[.string v.1,.string v.2],.int .i64 (n:Nat)])/\ae w w'
theorem WO (dp cV dt cz:ByteArray)(w:World)(h1:dp.size<=16777216)(h2:cV.size<=16777216)(h3:dt.size<=16777216)(h4:cz.size<=16777216):
    Calls prog 105 #[.agg #[.string dp,.string cV],.agg #[.string dt,.string cz]] w (Sr (Pl.aW (Pl.fJ dp cV) (Pl.fJ dt cz) dp cV dt cz) (Pl.bg (Pl.fJ dp cV) (Pl.fJ dt cz) dp cV dt cz) w):=by
 cases r1:Pl.fJ dp cV with
 | false=>
  have hn:Pl.bg false (Pl.fJ dt cz) dp cV dt cz=4:=by unfold Pl.bg;rw[zZ1 (Or.inl rfl)]
  have hv:Pl.aW false (Pl.fJ dt cz) dp cV dt cz=(cR,cR):=by unfold Pl.aW;rw[zZ1 (Or.inl rfl)]
  rw[hn,hv];clear hn hv;go_in;go_wp2_with fail;refine(lV dp cV _ h1 h2).mono ?_;rintro e w1 ⟨rfl,hg⟩;have hG:ae w w1:=hg.lF;have hz:w.heap.size+1+1<w1.heap.size:=by have:=hg.size;simp at this;omega
  obtain⟨hc,hf⟩:=hg.cells;go_wp2_with fail;refine wZ1 (v:=.tuple #[.agg #[.string cR,.string cR],.int .i64 4]) (by simp[results,results105,go_sem,hc]) rfl ⟨rfl,?_⟩;exact((hG.setCell (by simp;omega) _).setCell (by simp;omega) _)
 | true=>
  cases r2:Pl.fJ dt cz with
  | false=>
   have hn:Pl.bg true false dp cV dt cz=4:=(by unfold Pl.bg;rw[zZ1 (Or.inr rfl)]);have hv:Pl.aW true false dp cV dt cz=(cR,cR):=(by unfold Pl.aW;rw[zZ1 (Or.inr rfl)]);rw[hn,hv];clear hn hv;go_in;go_wp2_with fail;refine(lV dp cV _ h1 h2).mono ?_;rintro e w1 ⟨rfl,hg⟩;have hG:ae w w1:=hg.lF;have hz:w.heap.size+1<w1.heap.size/\w.heap.size+1+1<w1.heap.size:=(by have:=hg.size;simp at this;omega);obtain⟨hz1,hz2⟩:=hz;obtain⟨hc,hf⟩:=hg.cells;go_wp2_with fail;refine(lV dt cz _ h3 h4).mono ?_;rintro e w2 ⟨rfl,aP⟩;have bW:ae w w2:=hG.trans aP;obtain⟨hc2,hf2⟩:=aP.cells;go_wp2_with fail;refine wZ1 (v:=.tuple #[.agg #[.string cR,.string cR],.int .i64 4]) (by simp[results,results105,go_sem,hc,hc2,hz2]) rfl ⟨rfl,?_⟩;exact((bW.setCell (by simp;omega) _).setCell (by simp;omega) _)
  | true=>
   cases eB:cV.toList.isEmpty with
   | true=>
    have yt:cV.toList=[]:=(by simpa using eB);cases df:cz.toList.isEmpty with
    | true=>
     have ny:cz.toList=[]:=(by simpa using df);have hn:Pl.bg true true dp cV dt cz=1:=(by unfold Pl.bg;rw[zZ0 (by simp),zZ0 (fun h=>by have:=h.1;unfold bm at this;rw[eB]at this;cases this),zZ0 (fun h=>by have:=h.1;unfold bm at this;rw[df]at this;cases this)]);have hv:Pl.aW true true dp cV dt cz=(cR,cR):=(by unfold Pl.aW;rw[zZ0 (by simp),zZ0 (fun h=>by have:=h.1;unfold bm at this;rw[eB]at this;cases this),zZ0 (fun h=>by have:=h.1;unfold bm at this;rw[df]at this;cases this)]);rw[hn,hv];clear hn hv;go_in;go_wp2_with fail;refine(lV dp cV _ (by omega) (by omega)).mono ?_;rintro e w1 ⟨rfl,hg⟩;have hG:ae w w1:=hg.lF;have hz:=hg.oH;obtain⟨hz0,hz1,hz2⟩:=hz;obtain⟨hc,hf⟩:=hg.cells;go_wp2_with fail;refine(lV dt cz _ (by omega) (by omega)).mono ?_;rintro e w2 ⟨rfl,aP⟩;have bW:ae w w2:=hG.trans aP;obtain⟨hc2,hf2⟩:=aP.cells;go_wp2_with fail;refine wZ1 (v:=.tuple #[.agg #[.string cR,.string cR],(.int .i64 1)]) (by simp[results,results105,go_sem,hc,hc2,hz2]) rfl ⟨rfl,?_⟩;exact((bW.setCell (by simp;omega) _).setCell (by simp;omega) _)
    | false=>
     have ny:¬cz.toList=[]:=(by simpa using df);have yu:(!cz.toList.isEmpty)=true:=(by rw[df];rfl);by_cases q2:cz.toList=dp.toList
     . have Fw:(cz.toList==dp.toList)=true:=(by simpa using q2);have hn:Pl.bg true true dp cV dt cz=0:=(by unfold Pl.bg;rw[zZ0 (by simp),zZ0 (fun h=>by have:=h.1;unfold bm at this;rw[eB]at this;cases this),zZ1 ⟨df,q2⟩]);have hv:Pl.aW true true dp cV dt cz=(dt,cV):=(by unfold Pl.aW;rw[zZ0 (by simp),zZ0 (fun h=>by have:=h.1;unfold bm at this;rw[eB]at this;cases this),zZ1 ⟨df,q2⟩]);rw[hn,hv];clear hn hv;clear q2;go_in;go_wp2_with fail;refine(lV dp cV _ (by omega) (by omega)).mono ?_;rintro e w1 ⟨rfl,hg⟩;have hG:ae w w1:=hg.lF;have hz:=hg.oH;obtain⟨hz0,hz1,hz2⟩:=hz;obtain⟨hc,hf⟩:=hg.cells;go_wp2_with fail;refine(lV dt cz _ (by omega) (by omega)).mono ?_;rintro e w2 ⟨rfl,aP⟩;have bW:ae w w2:=hG.trans aP;obtain⟨hc2,hf2⟩:=aP.cells;go_wp2_with fail;refine wZ1 (v:=.tuple #[.agg #[.string dt,.string cV],(.int .i64 0)]) (by simp[results,results105,go_sem,hc,hc2,hz2]) rfl ⟨rfl,?_⟩;exact((bW.setCell (by simp;omega) _).setCell (by simp;omega) _)
     . have Fw:(cz.toList==dp.toList)=false:=(by simpa using q2);have hn:Pl.bg true true dp cV dt cz=1:=(by unfold Pl.bg;rw[zZ0 (by simp),zZ0 (fun h=>by have:=h.1;unfold bm at this;rw[eB]at this;cases this),zZ0 (fun h=>q2 h.2)]);have hv:Pl.aW true true dp cV dt cz=(cR,cR):=(by unfold Pl.aW;rw[zZ0 (by simp),zZ0 (fun h=>by have:=h.1;unfold bm at this;rw[eB]at this;cases this),zZ0 (fun h=>q2 h.2)]);rw[hn,hv];clear hn hv;clear q2;go_in;go_wp2_with fail;refine(lV dp cV _ (by omega) (by omega)).mono ?_;rintro e w1 ⟨rfl,hg⟩;have hG:ae w w1:=hg.lF;have hz:=hg.oH;obtain⟨hz0,hz1,hz2⟩:=hz;obtain⟨hc,hf⟩:=hg.cells;go_wp2_with fail;refine(lV dt cz _ (by omega) (by omega)).mono ?_;rintro e w2 ⟨rfl,aP⟩;have bW:ae w w2:=hG.trans aP;obtain⟨hc2,hf2⟩:=aP.cells;go_wp2_with fail;refine wZ1 (v:=.tuple #[.agg #[.string cR,.string cR],(.int .i64 1)]) (by simp[results,results105,go_sem,hc,hc2,hz2]) rfl ⟨rfl,?_⟩;exact((bW.setCell (by simp;omega) _).setCell (by simp;omega) _)
   | false=>
    have yt:¬cV.toList=[]:=(by simpa using eB);have Mf:(!cV.toList.isEmpty)=true:=(by rw[eB];rfl);by_cases q1:cV.toList=dt.toList
    . have QD:(cV.toList==dt.toList)=true:=(by simpa using q1);have hn:Pl.bg true true dp cV dt cz=0:=(by unfold Pl.bg;rw[zZ0 (by simp),zZ1 ⟨eB,q1⟩]);have hv:Pl.aW true true dp cV dt cz=(dp,cz):=(by unfold Pl.aW;rw[zZ0 (by simp),zZ1 ⟨eB,q1⟩]);rw[hn,hv];clear hn hv;clear q1;go_in;go_wp2_with fail;refine(lV dp cV _ (by omega) (by omega)).mono ?_;rintro e w1 ⟨rfl,hg⟩;have hG:ae w w1:=hg.lF;have hz:=hg.oH;obtain⟨hz0,hz1,hz2⟩:=hz;obtain⟨hc,hf⟩:=hg.cells;go_wp2_with fail;refine(lV dt cz _ (by omega) (by omega)).mono ?_;rintro e w2 ⟨rfl,aP⟩;have bW:ae w w2:=hG.trans aP;obtain⟨hc2,hf2⟩:=aP.cells;go_wp2_with fail;refine wZ1 (v:=.tuple #[.agg #[.string dp,.string cz],(.int .i64 0)]) (by simp[results,results105,go_sem,hc,hc2,hz2]) rfl ⟨rfl,?_⟩;exact((bW.setCell (by simp;omega) _).setCell (by simp;omega) _)
    . have QD:(cV.toList==dt.toList)=false:=(by simpa using q1);cases df:cz.toList.isEmpty with
      | true=>
       have ny:cz.toList=[]:=(by simpa using df);have hn:Pl.bg true true dp cV dt cz=1:=(by unfold Pl.bg;rw[zZ0 (by simp),zZ0 (fun h=>q1 h.2),zZ0 (fun h=>by have:=h.1;unfold bm at this;rw[df]at this;cases this)]);have hv:Pl.aW true true dp cV dt cz=(cR,cR):=(by unfold Pl.aW;rw[zZ0 (by simp),zZ0 (fun h=>q1 h.2),zZ0 (fun h=>by have:=h.1;unfold bm at this;rw[df]at this;cases this)]);rw[hn,hv];clear hn hv;clear q1;go_in;go_wp2_with fail;refine(lV dp cV _ (by omega) (by omega)).mono ?_;rintro e w1 ⟨rfl,hg⟩;have hG:ae w w1:=hg.lF;have hz:=hg.oH;obtain⟨hz0,hz1,hz2⟩:=hz;obtain⟨hc,hf⟩:=hg.cells;go_wp2_with fail;refine(lV dt cz _ (by omega) (by omega)).mono ?_;rintro e w2 ⟨rfl,aP⟩;have bW:ae w w2:=hG.trans aP;obtain⟨hc2,hf2⟩:=aP.cells;go_wp2_with fail;refine wZ1 (v:=.tuple #[.agg #[.string cR,.string cR],(.int .i64 1)]) (by simp[results,results105,go_sem,hc,hc2,hz2]) rfl ⟨rfl,?_⟩;exact((bW.setCell (by simp;omega) _).setCell (by simp;omega) _)
      | false=>
       have ny:¬cz.toList=[]:=(by simpa using df);have yu:(!cz.toList.isEmpty)=true:=(by rw[df];rfl);by_cases q2:cz.toList=dp.toList
       . have Fw:(cz.toList==dp.toList)=true:=(by simpa using q2);have hn:Pl.bg true true dp cV dt cz=0:=(by unfold Pl.bg;rw[zZ0 (by simp),zZ0 (fun h=>q1 h.2),zZ1 ⟨df,q2⟩]);have hv:Pl.aW true true dp cV dt cz=(dt,cV):=(by unfold Pl.aW;rw[zZ0 (by simp),zZ0 (fun h=>q1 h.2),zZ1 ⟨df,q2⟩]);rw[hn,hv];clear hn hv;clear q2;clear q1;go_in;go_wp2_with fail;refine(lV dp cV _ (by omega) (by omega)).mono ?_;rintro e w1 ⟨rfl,hg⟩;have hG:ae w w1:=hg.lF;have hz:=hg.oH;obtain⟨hz0,hz1,hz2⟩:=hz;obtain⟨hc,hf⟩:=hg.cells;go_wp2_with fail;refine(lV dt cz _ (by omega) (by omega)).mono ?_;rintro e w2 ⟨rfl,aP⟩;have bW:ae w w2:=hG.trans aP;obtain⟨hc2,hf2⟩:=aP.cells;go_wp2_with fail;refine wZ1 (v:=.tuple #[.agg #[.string dt,.string cV],(.int .i64 0)]) (by simp[results,results105,go_sem,hc,hc2,hz2]) rfl ⟨rfl,?_⟩;exact((bW.setCell (by simp;omega) _).setCell (by simp;omega) _)
       . have Fw:(cz.toList==dp.toList)=false:=(by simpa using q2);have hn:Pl.bg true true dp cV dt cz=1:=(by unfold Pl.bg;rw[zZ0 (by simp),zZ0 (fun h=>q1 h.2),zZ0 (fun h=>q2 h.2)]);have hv:Pl.aW true true dp cV dt cz=(cR,cR):=(by unfold Pl.aW;rw[zZ0 (by simp),zZ0 (fun h=>q1 h.2),zZ0 (fun h=>q2 h.2)]);rw[hn,hv];clear hn hv;clear q2;clear q1;go_in;go_wp2_with fail;refine(lV dp cV _ (by omega) (by omega)).mono ?_;rintro e w1 ⟨rfl,hg⟩;have hG:ae w w1:=hg.lF;have hz:=hg.oH;obtain⟨hz0,hz1,hz2⟩:=hz;obtain⟨hc,hf⟩:=hg.cells;go_wp2_with fail;refine(lV dt cz _ (by omega) (by omega)).mono ?_;rintro e w2 ⟨rfl,aP⟩;have bW:ae w w2:=hG.trans aP;obtain⟨hc2,hf2⟩:=aP.cells;go_wp2_with fail;refine wZ1 (v:=.tuple #[.agg #[.string cR,.string cR],(.int .i64 1)]) (by simp[results,results105,go_sem,hc,hc2,hz2]) rfl ⟨rfl,?_⟩;exact((bW.setCell (by simp;omega) _).setCell (by simp;omega) _)
end Go.Proofs.YtgegogoanbamfaaGreatDoor
