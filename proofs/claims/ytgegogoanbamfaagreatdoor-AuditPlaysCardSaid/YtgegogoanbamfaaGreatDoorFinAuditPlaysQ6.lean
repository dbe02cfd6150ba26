/- Part 6. -/
import Derived.Test.YtgegogoanbamfaaGreatDoorFinAuditPlaysQ4
import Derived.Lib.QuietBelow
import Derived.Deep.RegionWith
set_option linter.unusedVariables false
set_option linter.unusedSectionVars false
set_option linter.unusedSimpArgs false
set_option maxRecDepth 100000
set_option maxHeartbeats 16000000
namespace Go.Proofs.YtgegogoanbamfaaGreatDoor
namespace Pl
end Pl
open Pl Go.Proofs.Tryz Go.RowKit Go.Maps
attribute [local go_sem] Oper.semAt_some
namespace Pl
def bg (ra rb:Bool)(dp cV dt cz:ByteArray):Nat:=
 if ra=false\/rb=false then 4 else if bm cV=false/\cV.toList=dt.toList then 0 else if bm cz=false/\cz.toList=dp.toList then 0 else 1
def aW (ra rb:Bool)(dp cV dt cz:ByteArray):ByteArray×ByteArray:=
 if ra=false\/rb=false then(⟨#[]⟩,⟨#[]⟩)else if bm cV=false/\cV.toList=dt.toList then(dp,cz)else if bm cz=false/\cz.toList=dp.toList then(dt,cV)else(⟨#[]⟩,⟨#[]⟩)
end Pl
def QC (E:Nat->Addr)(v:ByteArray×ByteArray)(n:Nat)(w:World)(e:Ending)(w':World):Prop:=
 e=.returned (.tuple #[.agg #[.string v.1,.string v.2],bA E n])/\ae w w'
theorem Tm (S:Nat->Bool)(E:Nat->Addr)(hS:pI S)(dp cV dt cz:ByteArray)(w:World)(h1:dp.size<=70368744177664)(h2:cV.size<=70368744177664)(h3:dt.size<=70368744177664)(h4:cz.size<=70368744177664)(hE:bz S E w):
    Calls prog 115 #[.agg #[.string dp,.string cV],.agg #[.string dt,.string cz]] w (QC E (Pl.aW (Pl.bD dp cV) (Pl.bD dt cz) dp cV dt cz) (Pl.bg (Pl.bD dp cV) (Pl.bD dt cz) dp cV dt cz) w):=by
 have HE:=af hE;obtain⟨hK,s1,s4⟩:=hS;have b4:3<w.heap.size:=bf (hE.cell 4 s4);have b1:0<w.heap.size:=bf (hE.cell 1 s1);have z4:∀k,k<=3->(k=w.heap.size)=False:=fun k hk=>by simp;omega
 have y4:∀k,k<=3->(w.heap.size=k)=False:=fun k hk=>by simp;omega
 have z1:∀k,k<=0->(k=w.heap.size)=False:=fun k hk=>by simp;omega
 have y1:∀k,k<=0->(w.heap.size=k)=False:=fun k hk=>by simp;omega
 clear hE;cases r1:Pl.bD dp cV with
 | false=>
  have hn:Pl.bg false (Pl.bD dt cz) dp cV dt cz=4:=by unfold Pl.bg;rw[zZ1 (Or.inl rfl)]
  have hv:Pl.aW false (Pl.bD dt cz) dp cV dt cz=(cR,cR):=by unfold Pl.aW;rw[zZ1 (Or.inl rfl)]
  rw[hn,hv];clear hn hv;go_in;go_wp2_with fail;refine(lN S E hK dp cV _ h1 h2 (HE.ah ((((ae.rf w).alloc _).alloc _).alloc _))).mono ?_;rintro e w1 ⟨rfl,hg⟩;have hG:ae w w1:=hg.lF;have hz:w.heap.size+1+1<w1.heap.size:=by have:=hg.size;simp at this;omega
  obtain⟨hc,hf⟩:=hg.cells;have cw4:w.cell? ⟨3,0,none⟩=some (.iface 302 (.pointer (some (E 4)))):=HE.cell 4 s4;have c4:w1.cell? ⟨3,0,none⟩=some (.iface 302 (.pointer (some (E 4)))):=(HE.ah hG).cell 4 s4;have cT:=(hc 3 0 (by simp;omega)).symm.trans c4;go_wp2_with fail;go_region;go_wp2_with fail;refine wZ1 (v:=.tuple #[.agg #[.string cR,.string cR],bA E 4]) (by simp[results,results115,go_sem,hc];rfl) rfl ⟨rfl,?_⟩;exact((hG.setCell (by simp;omega) _).setCell (by simp;omega) _).drew
 | true=>
  cases r2:Pl.bD dt cz with
  | false=>
   have hn:Pl.bg true false dp cV dt cz=4:=(by unfold Pl.bg;rw[zZ1 (Or.inr rfl)]);have hv:Pl.aW true false dp cV dt cz=(cR,cR):=(by unfold Pl.aW;rw[zZ1 (Or.inr rfl)]);rw[hn,hv];clear hn hv;go_in;go_wp2_with fail;refine(lN S E hK dp cV _ h1 h2 (HE.ah ((((ae.rf w).alloc _).alloc _).alloc _))).mono ?_;rintro e w1 ⟨rfl,hg⟩;have hG:ae w w1:=hg.lF;have hz:w.heap.size+1<w1.heap.size/\w.heap.size+1+1<w1.heap.size:=(by have:=hg.size;simp at this;omega);obtain⟨hz1,hz2⟩:=hz;obtain⟨hc,hf⟩:=hg.cells;go_wp2_with fail;refine(lN S E hK dt cz _ h3 h4 (HE.ah hG)).mono ?_;rintro e w2 ⟨rfl,aP⟩;have bW:ae w w2:=hG.trans aP;obtain⟨hc2,hf2⟩:=aP.cells;have c4:w2.cell? ⟨3,0,none⟩=some (.iface 302 (.pointer (some (E 4)))):=(HE.ah bW).cell 4 s4;go_wp2_with fail;go_region;go_wp2_with fail;refine wZ1 (v:=.tuple #[.agg #[.string cR,.string cR],bA E 4]) (by simp[results,results115,go_sem,hc,hc2,hz2];rfl) rfl ⟨rfl,?_⟩;exact((bW.setCell (by simp;omega) _).setCell (by simp;omega) _).drew
  | true=>
   cases eB:cV.toList.isEmpty with
   | true=>
    have yt:cV.toList=[]:=(by simpa using eB);cases df:cz.toList.isEmpty with
    | true=>
     have ny:cz.toList=[]:=(by simpa using df);have hn:Pl.bg true true dp cV dt cz=1:=(by unfold Pl.bg;rw[zZ0 (by simp),zZ0 (fun h=>by have:=h.1;unfold bm at this;rw[eB]at this;cases this),zZ0 (fun h=>by have:=h.1;unfold bm at this;rw[df]at this;cases this)]);have hv:Pl.aW true true dp cV dt cz=(cR,cR):=(by unfold Pl.aW;rw[zZ0 (by simp),zZ0 (fun h=>by have:=h.1;unfold bm at this;rw[eB]at this;cases this),zZ0 (fun h=>by have:=h.1;unfold bm at this;rw[df]at this;cases this)]);rw[hn,hv];clear hn hv;go_in;go_wp2_with fail;refine(lN S E hK dp cV _ (by omega) (by omega) (HE.ah ((((ae.rf w).alloc _).alloc _).alloc _))).mono ?_;rintro e w1 ⟨rfl,hg⟩;have hG:ae w w1:=hg.lF;have hz:=hg.oH;obtain⟨hz0,hz1,hz2⟩:=hz;obtain⟨hc,hf⟩:=hg.cells;go_wp2_with fail;refine(lN S E hK dt cz _ (by omega) (by omega) (HE.ah hG)).mono ?_;rintro e w2 ⟨rfl,aP⟩;have bW:ae w w2:=hG.trans aP;obtain⟨hc2,hf2⟩:=aP.cells;have c1:w2.cell? ⟨0,0,none⟩=some (.iface 302 (.pointer (some (E 1)))):=(HE.ah bW).cell 1 s1;go_wp2_with fail;go_region;go_wp2_with fail;refine wZ1 (v:=.tuple #[.agg #[.string cR,.string cR],bA E 1]) (by simp[results,results115,go_sem,hc,hc2,hz2];rfl) rfl ⟨rfl,?_⟩;exact((bW.setCell (by simp;omega) _).setCell (by simp;omega) _).drew
    | false=>
     have ny:¬cz.toList=[]:=(by simpa using df);have yu:(!cz.toList.isEmpty)=true:=(by rw[df];rfl);by_cases q2:cz.toList=dp.toList
     . have Fw:(cz.toList==dp.toList)=true:=(by simpa using q2);have hn:Pl.bg true true dp cV dt cz=0:=(by unfold Pl.bg;rw[zZ0 (by simp),zZ0 (fun h=>by have:=h.1;unfold bm at this;rw[eB]at this;cases this),zZ1 ⟨df,q2⟩]);have hv:Pl.aW true true dp cV dt cz=(dt,cV):=(by unfold Pl.aW;rw[zZ0 (by simp),zZ0 (fun h=>by have:=h.1;unfold bm at this;rw[eB]at this;cases this),zZ1 ⟨df,q2⟩]);rw[hn,hv];clear hn hv;clear q2;go_in;go_wp2_with fail;refine(lN S E hK dp cV _ (by omega) (by omega) (HE.ah ((((ae.rf w).alloc _).alloc _).alloc _))).mono ?_;rintro e w1 ⟨rfl,hg⟩;have hG:ae w w1:=hg.lF;have hz:=hg.oH;obtain⟨hz0,hz1,hz2⟩:=hz;obtain⟨hc,hf⟩:=hg.cells;go_wp2_with fail;refine(lN S E hK dt cz _ (by omega) (by omega) (HE.ah hG)).mono ?_;rintro e w2 ⟨rfl,aP⟩;have bW:ae w w2:=hG.trans aP;obtain⟨hc2,hf2⟩:=aP.cells;go_wp2_with fail;refine wZ1 (v:=.tuple #[.agg #[.string dt,.string cV],bA E 0]) (by simp[results,results115,go_sem,hc,hc2,hz2];rfl) rfl ⟨rfl,?_⟩;exact((bW.setCell (by simp;omega) _).setCell (by simp;omega) _)
     . have Fw:(cz.toList==dp.toList)=false:=(by simpa using q2);have hn:Pl.bg true true dp cV dt cz=1:=(by unfold Pl.bg;rw[zZ0 (by simp),zZ0 (fun h=>by have:=h.1;unfold bm at this;rw[eB]at this;cases this),zZ0 (fun h=>q2 h.2)]);have hv:Pl.aW true true dp cV dt cz=(cR,cR):=(by unfold Pl.aW;rw[zZ0 (by simp),zZ0 (fun h=>by have:=h.1;unfold bm at this;rw[eB]at this;cases this),zZ0 (fun h=>q2 h.2)]);rw[hn,hv];clear hn hv;clear q2;go_in;go_wp2_with fail;refine(lN S E hK dp cV _ (by omega) (by omega) (HE.ah ((((ae.rf w).alloc _).alloc _).alloc _))).mono ?_;rintro e w1 ⟨rfl,hg⟩;have hG:ae w w1:=hg.lF;have hz:=hg.oH;obtain⟨hz0,hz1,hz2⟩:=hz;obtain⟨hc,hf⟩:=hg.cells;go_wp2_with fail;refine(lN S E hK dt cz _ (by omega) (by omega) (HE.ah hG)).mono ?_;rintro e w2 ⟨rfl,aP⟩;have bW:ae w w2:=hG.trans aP;obtain⟨hc2,hf2⟩:=aP.cells;have c1:w2.cell? ⟨0,0,none⟩=some (.iface 302 (.pointer (some (E 1)))):=(HE.ah bW).cell 1 s1;go_wp2_with fail;go_region;go_wp2_with fail;refine wZ1 (v:=.tuple #[.agg #[.string cR,.string cR],bA E 1]) (by simp[results,results115,go_sem,hc,hc2,hz2];rfl) rfl ⟨rfl,?_⟩;exact((bW.setCell (by simp;omega) _).setCell (by simp;omega) _).drew
   | false=>
    have yt:¬cV.toList=[]:=(by simpa using eB);have Mf:(!cV.toList.isEmpty)=true:=(by rw[eB];rfl);by_cases q1:cV.toList=dt.toList
    . have QD:(cV.toList==dt.toList)=true:=(by simpa using q1);have hn:Pl.bg true true dp cV dt cz=0:=(by unfold Pl.bg;rw[zZ0 (by simp),zZ1 ⟨eB,q1⟩]);have hv:Pl.aW true true dp cV dt cz=(dp,cz):=(by unfold Pl.aW;rw[zZ0 (by simp),zZ1 ⟨eB,q1⟩]);rw[hn,hv];clear hn hv;clear q1;go_in;go_wp2_with fail;refine(lN S E hK dp cV _ (by omega) (by omega) (HE.ah ((((ae.rf w).alloc _).alloc _).alloc _))).mono ?_;rintro e w1 ⟨rfl,hg⟩;have hG:ae w w1:=hg.lF;have hz:=hg.oH;obtain⟨hz0,hz1,hz2⟩:=hz;obtain⟨hc,hf⟩:=hg.cells;go_wp2_with fail;refine(lN S E hK dt cz _ (by omega) (by omega) (HE.ah hG)).mono ?_;rintro e w2 ⟨rfl,aP⟩;have bW:ae w w2:=hG.trans aP;obtain⟨hc2,hf2⟩:=aP.cells;go_wp2_with fail;refine wZ1 (v:=.tuple #[.agg #[.string dp,.string cz],bA E 0]) (by simp[results,results115,go_sem,hc,hc2,hz2];rfl) rfl ⟨rfl,?_⟩;exact((bW.setCell (by simp;omega) _).setCell (by simp;omega) _)
    . have QD:(cV.toList==dt.toList)=false:=(by simpa using q1);cases df:cz.toList.isEmpty with
      | true=>
       have ny:cz.toList=[]:=(by simpa using df);have hn:Pl.bg true true dp cV dt cz=1:=(by unfold Pl.bg;rw[zZ0 (by simp),zZ0 (fun h=>q1 h.2),zZ0 (fun h=>by have:=h.1;unfold bm at this;rw[df]at this;cases this)]);have hv:Pl.aW true true dp cV dt cz=(cR,cR):=(by unfold Pl.aW;rw[zZ0 (by simp),zZ0 (fun h=>q1 h.2),zZ0 (fun h=>by have:=h.1;unfold bm at this;rw[df]at this;cases this)]);rw[hn,hv];clear hn hv;clear q1;go_in;go_wp2_with fail;refine(lN S E hK dp cV _ (by omega) (by omega) (HE.ah ((((ae.rf w).alloc _).alloc _).alloc _))).mono ?_;rintro e w1 ⟨rfl,hg⟩;have hG:ae w w1:=hg.lF;have hz:=hg.oH;obtain⟨hz0,hz1,hz2⟩:=hz;obtain⟨hc,hf⟩:=hg.cells;go_wp2_with fail;refine(lN S E hK dt cz _ (by omega) (by omega) (HE.ah hG)).mono ?_;rintro e w2 ⟨rfl,aP⟩;have bW:ae w w2:=hG.trans aP;obtain⟨hc2,hf2⟩:=aP.cells;have c1:w2.cell? ⟨0,0,none⟩=some (.iface 302 (.pointer (some (E 1)))):=(HE.ah bW).cell 1 s1;go_wp2_with fail;go_region;go_wp2_with fail;refine wZ1 (v:=.tuple #[.agg #[.string cR,.string cR],bA E 1]) (by simp[results,results115,go_sem,hc,hc2,hz2];rfl) rfl ⟨rfl,?_⟩;exact((bW.setCell (by simp;omega) _).setCell (by simp;omega) _).drew
      | false=>
       have ny:¬cz.toList=[]:=(by simpa using df);have yu:(!cz.toList.isEmpty)=true:=(by rw[df];rfl);by_cases q2:cz.toList=dp.toList
       . have Fw:(cz.toList==dp.toList)=true:=(by simpa using q2);have hn:Pl.bg true true dp cV dt cz=0:=(by unfold Pl.bg;rw[zZ0 (by simp),zZ0 (fun h=>q1 h.2),zZ1 ⟨df,q2⟩]);have hv:Pl.aW true true dp cV dt cz=(dt,cV):=(by unfold Pl.aW;rw[zZ0 (by simp),zZ0 (fun h=>q1 h.2),zZ1 ⟨df,q2⟩]);rw[hn,hv];clear hn hv;clear q2;clear q1;go_in;go_wp2_with fail;refine(lN S E hK dp cV _ (by omega) (by omega) (HE.ah ((((ae.rf w).alloc _).alloc _).alloc _))).mono ?_;rintro e w1 ⟨rfl,hg⟩;have hG:ae w w1:=hg.lF;have hz:=hg.oH;obtain⟨hz0,hz1,hz2⟩:=hz;obtain⟨hc,hf⟩:=hg.cells;go_wp2_with fail;refine(lN S E hK dt cz _ (by omega) (by omega) (HE.ah hG)).mono ?_;rintro e w2 ⟨rfl,aP⟩;have bW:ae w w2:=hG.trans aP;obtain⟨hc2,hf2⟩:=aP.cells;go_wp2_with fail;refine wZ1 (v:=.tuple #[.agg #[.string dt,.string cV],bA E 0]) (by simp[results,results115,go_sem,hc,hc2,hz2];rfl) rfl ⟨rfl,?_⟩;exact((bW.setCell (by simp;omega) _).setCell (by simp;omega) _)
       . have Fw:(cz.toList==dp.toList)=false:=(by simpa using q2);have hn:Pl.bg true true dp cV dt cz=1:=(by unfold Pl.bg;rw[zZ0 (by simp),zZ0 (fun h=>q1 h.2),zZ0 (fun h=>q2 h.2)]);have hv:Pl.aW true true dp cV dt cz=(cR,cR):=(by unfold Pl.aW;rw[zZ0 (by simp),zZ0 (fun h=>q1 h.2),zZ0 (fun h=>q2 h.2)]);rw[hn,hv];clear hn hv;clear q2;clear q1;go_in;go_wp2_with fail;refine(lN S E hK dp cV _ (by omega) (by omega) (HE.ah ((((ae.rf w).alloc _).alloc _).alloc _))).mono ?_;rintro e w1 ⟨rfl,hg⟩;have hG:ae w w1:=hg.lF;have hz:=hg.oH;obtain⟨hz0,hz1,hz2⟩:=hz;obtain⟨hc,hf⟩:=hg.cells;go_wp2_with fail;refine(lN S E hK dt cz _ (by omega) (by omega) (HE.ah hG)).mono ?_;rintro e w2 ⟨rfl,aP⟩;have bW:ae w w2:=hG.trans aP;obtain⟨hc2,hf2⟩:=aP.cells;have c1:w2.cell? ⟨0,0,none⟩=some (.iface 302 (.pointer (some (E 1)))):=(HE.ah bW).cell 1 s1;go_wp2_with fail;go_region;go_wp2_with fail;refine wZ1 (v:=.tuple #[.agg #[.string cR,.string cR],bA E 1]) (by simp[results,results115,go_sem,hc,hc2,hz2];rfl) rfl ⟨rfl,?_⟩;exact((bW.setCell (by simp;omega) _).setCell (by simp;omega) _).drew
def Sq (lo hi key:ByteArray)(n:Nat)(w:World)(e:Ending)(w':World):Prop:=
 e=.returned (.tuple #[.agg #[.string (fX n lo key).1,.string (fX n lo key).2],.agg #[.string (fX n key hi).1,.string (fX n key hi).2],.int .i64 (n:Nat)])/\ae w w'
theorem z5M (lo hi key:ByteArray)(w:World)(hl:lo.size<=16777216)(hh:hi.size<=16777216)(hk:key.size<=16777216):
    Calls prog 104 #[.agg #[.string lo,.string hi],.string key] w (Sq lo hi key (Pl.eA (Pl.fJ lo hi) (Pl.aT key) (Pl.fN lo hi key) lo key) w):=by
 cases h1:Pl.fJ lo hi with
 | false=>
  have hn:Pl.eA false (Pl.aT key) (Pl.fN lo hi key) lo key=4:=rfl;rw[hn];clear hn;go_in;go_wp2_with fail;refine(lV lo hi _ hl hh).mono ?_;rintro e w1 ⟨rfl,hg⟩;have hG:ae w w1:=hg.lF;obtain⟨hc,hf⟩:=hg.cells;go_wp2_with fail;refine wZ1 (v:=.tuple #[.agg #[.string cR,.string cR],.agg #[.string cR,.string cR],(.int .i64 4)]) (by simp[results,results104,go_sem,hc]) rfl ⟨rfl,?_⟩;exact((((hG.setCell (by simp) _).setCell (by simp) _).setCell (by simp;omega) _).setCell (by simp;omega) _)
 | true=>
  cases h2:Pl.isKey key with
  | false=>
   have k0:Pl.aT key≠0:=of_decide_eq_false h2;have hn:Pl.eA true (Pl.aT key) (Pl.fN lo hi key) lo key=Pl.aT key:=(by unfold Pl.eA;rw[zZ0 (by decide),zZ1 k0]);have hA:∀a b,fX (Pl.aT key) a b=(cR,cR):=fun a b=>by unfold fX;rw[zZ0 k0]
   have fV:(((Pl.aT key:Nat):Int)==0)=false:=wZ3.2 (by omega);have hk3:(((Pl.aT key:Nat):Int) !=0)=true:=(by rw[bne_iff_ne];omega);unfold Sq;rw[hn,hA,hA];clear hn hA k0;go_in;go_wp2_with fail;refine(lV lo hi _ hl hh).mono ?_;rintro e w1 ⟨rfl,hg⟩;have hG:ae w w1:=hg.lF;have hz:=hg.oH;obtain⟨hz0,hz1,hz2⟩:=hz;obtain⟨hc,hf⟩:=hg.cells;go_wp2_with fail;refine(za key _ hk).mono ?_;rintro e w2 ⟨rfl,aP⟩;obtain⟨hc2,hf2⟩:=aP.cells;have bW:ae w w2:=hG.trans aP;go_wp2_with fail;refine wZ1 (v:=.tuple #[.agg #[.string cR,.string cR],.agg #[.string cR,.string cR],.int .i64 (Pl.aT key:Nat)]) (by simp[results,results104,go_sem,hc,hc2,hz1,hz2]) rfl ⟨rfl,?_⟩;exact(((bW.setCell (by simp) _).setCell (by simp) _).setCell (by simp;omega) _).setCell (by simp;omega) _
  | true=>
   have k0:Pl.aT key=0:=wQ3 h2;have HK:=af (ZW key h2);cases h3:Pl.fN lo hi key with
   | false=>
    have hn:Pl.eA true (Pl.aT key) false lo key=1:=(by unfold Pl.eA;rw[zZ0 (by decide),zZ0 (by omega),zZ1 (Or.inl rfl)]);rw[hn];clear hn k0;go_in;go_wp2_with fail;refine(lV lo hi _ hl hh).mono ?_;rintro e w1 ⟨rfl,hg⟩;have hG:ae w w1:=hg.lF;have hz:=hg.oH;obtain⟨hz0,hz1,hz2⟩:=hz;obtain⟨hc,hf⟩:=hg.cells;go_wp2_with fail;refine(za key _ hk).mono ?_;rw[HK.out];rintro e w2 ⟨rfl,aP⟩;obtain⟨hc2,hf2⟩:=aP.cells;have bW:ae w w2:=hG.trans aP;have hy:w.heap.size<w2.heap.size/\w.heap.size+1<w2.heap.size/\w.heap.size+1+1<w2.heap.size:=(by have:=aP.size;omega);obtain⟨o6,mE,xP⟩:=hy;go_wp2_with fail;refine(KV lo hi key _ hl hh hk).mono ?_;rintro e w3 ⟨rfl,hg3⟩;obtain⟨hc3,hf3⟩:=hg3.cells;have k6:ae w w3:=bW.trans hg3;go_wp2_with fail;refine wZ1 (v:=.tuple #[.agg #[.string cR,.string cR],.agg #[.string cR,.string cR],(.int .i64 1)]) (by simp[results,results104,go_sem,hc,hc2,hc3,hz1,hz2,mE,xP]) rfl ⟨rfl,?_⟩;exact((((k6.setCell (by simp) _).setCell (by simp) _).setCell (by simp;omega) _).setCell (by simp;omega) _)
   | true=>
    by_cases h4:key.toList=lo.toList
    . have hn:Pl.eA true (Pl.aT key) true lo key=1:=(by unfold Pl.eA;rw[zZ0 (by decide),zZ0 (by omega),zZ1 (Or.inr h4)]);rw[hn];have h5:(key.toList==lo.toList)=true:=(by simpa using h4);clear hn k0 h4;go_in;go_wp2_with fail;refine(lV lo hi _ hl hh).mono ?_;rintro e w1 ⟨rfl,hg⟩;have hG:ae w w1:=hg.lF;have hz:=hg.oH;obtain⟨hz0,hz1,hz2⟩:=hz;obtain⟨hc,hf⟩:=hg.cells;go_wp2_with fail;refine(za key _ hk).mono ?_;rw[HK.out];rintro e w2 ⟨rfl,aP⟩;obtain⟨hc2,hf2⟩:=aP.cells;have bW:ae w w2:=hG.trans aP;have hy:w.heap.size<w2.heap.size/\w.heap.size+1<w2.heap.size/\w.heap.size+1+1<w2.heap.size:=(by have:=aP.size;omega);obtain⟨o6,mE,xP⟩:=hy;go_wp2_with fail;refine(KV lo hi key _ hl hh hk).mono ?_;rintro e w3 ⟨rfl,hg3⟩;obtain⟨hc3,hf3⟩:=hg3.cells;have k6:ae w w3:=bW.trans hg3;go_wp2_with fail;refine wZ1 (v:=.tuple #[.agg #[.string cR,.string cR],.agg #[.string cR,.string cR],(.int .i64 1)]) (by simp[results,results104,go_sem,hc,hc2,hc3,hz1,hz2,mE,xP]) rfl ⟨rfl,?_⟩;exact((((k6.setCell (by simp) _).setCell (by simp) _).setCell (by simp;omega) _).setCell (by simp;omega) _)
    . have hn:Pl.eA true (Pl.aT key) true lo key=0:=(by unfold Pl.eA;rw[zZ0 (by decide),zZ0 (by omega),zZ0 (by simpa using h4)]);rw[hn];have h5:(key.toList==lo.toList)=false:=(by simpa using h4);clear hn k0 h4;go_in;go_wp2_with fail;refine(lV lo hi _ hl hh).mono ?_;rintro e w1 ⟨rfl,hg⟩;have hG:ae w w1:=hg.lF;have hz:=hg.oH;obtain⟨hz0,hz1,hz2⟩:=hz;obtain⟨hc,hf⟩:=hg.cells;go_wp2_with fail;refine(za key _ hk).mono ?_;rw[HK.out];rintro e w2 ⟨rfl,aP⟩;obtain⟨hc2,hf2⟩:=aP.cells;have bW:ae w w2:=hG.trans aP;have hy:w.heap.size<w2.heap.size/\w.heap.size+1<w2.heap.size/\w.heap.size+1+1<w2.heap.size:=(by have:=aP.size;omega);obtain⟨o6,mE,xP⟩:=hy;go_wp2_with fail;refine(KV lo hi key _ hl hh hk).mono ?_;rintro e w3 ⟨rfl,hg3⟩;obtain⟨hc3,hf3⟩:=hg3.cells;have k6:ae w w3:=bW.trans hg3;have l0:w3.cell? ⟨w.heap.size,0,none⟩=some (.string lo):=(by rw[hc3 _ _ o6,hc2 _ _ hz0,hc _ _ (by simp;omega)];simp[go_sem]);have l1:w3.cell? ⟨w.heap.size,1,none⟩=some (.string hi):=(by rw[hc3 _ _ o6,hc2 _ _ hz0,hc _ _ (by simp;omega)];simp[go_sem]);go_wp2_with fail;go_region;go_wp2_with fail;refine wZ1 (v:=.tuple #[.agg #[.string lo,.string key],.agg #[.string key,.string hi],(.int .i64 0)]) (by simp[results,results104,go_sem,hc,hc2,hc3,hz1,hz2,mE,xP]) rfl ⟨rfl,?_⟩;exact((((k6.setCell (by simp) _).setCell (by simp) _).setCell (by simp;omega) _).setCell (by simp;omega) _).drew
section
open Go.Sort
structure iM (S:Nat->Bool):Prop where
 h1:S 1=true
 h2:S 2=true
 h3:S 3=true
 h4:S 4=true
 h6:S 6=true
 h7:S 7=true
theorem iM.key {S:Nat->Bool}(h:iM S):jo S:=⟨h.h2,h.h3,h.h6,h.h7⟩
theorem iM.Cy {S:Nat->Bool}(h:iM S):mD S:=⟨h.h2,h.h3,h.h6,h.h7⟩
theorem iM.span {S:Nat->Bool}(h:iM S):pI S:=⟨h.Cy,h.h1,h.h4⟩
namespace Pl
theorem Hn (xs:List Sh)(id:Int):aK xs id= -1\/∃i,i<xs.length/\aK xs id=(i:Nat)/\(ai xs i).id=id:=by
 unfold aK dU;cases hf:xs.findIdx? (fun c=>c.id==id)with
 | none=>exact .inl rfl
 | some i=>
  obtain⟨hi,hp,_⟩:=yQ6.1 hf;exact .inr ⟨i,hi,rfl,by rw[j3 xs i hi];exact beq_iff_eq.1 hp⟩
def jG (xs:List Sh)(aD:Nat->Bool)(e:En):Bool:=
 if cK e=false then false
 else if aK xs e.aj<0 then false
 else if e.ax=2 then true
 else if e.ax=3 then !aD e.ak.toNat && bk (ai xs (aK xs e.aj).toNat).lo (ai xs (aK xs e.aj).toNat).hi e.key && !decide (e.key.toList=(ai xs (aK xs e.aj).toNat).lo.toList)
 else if e.ax=4 then
  if aK xs e.ak<0 then false
  else decide (bg (bD (ai xs (aK xs e.aj).toNat).lo (ai xs (aK xs e.aj).toNat).hi) (bD (ai xs (aK xs e.ak).toNat).lo (ai xs (aK xs e.ak).toNat).hi) (ai xs (aK xs e.aj).toNat).lo (ai xs (aK xs e.aj).toNat).hi (ai xs (aK xs e.ak).toNat).lo (ai xs (aK xs e.ak).toNat).hi=0)
 else false
theorem Tn {e:En}(h:cK e=true)(hk:e.ax=3):1<=e.ak/\e.ak<=12:=by
 unfold cK at h;rw[zZ0 (by omega),zZ0 (by omega),zZ1 hk]at h;unfold sY dW at h;simp only[zZ7,wZ2]at h;exact h.1.1.1.2
end Pl
end
end Go.Proofs.YtgegogoanbamfaaGreatDoor
