/- Part 12 of the proof. -/
import Derived.Test.YtbnofojapimfcaaGreatDoorFinWatchStepsQ11
set_option linter.unusedVariables false
set_option linter.unusedSectionVars false
set_option linter.unusedSimpArgs false
set_option maxRecDepth 100000
set_option maxHeartbeats 16000000
namespace Go.Proofs.YtbnofojapimfcaaGreatDoor
section
open Go.RowKit
namespace Pl
def cU (r:Bool) (k:Nat) (h:Bool) (lo key:ByteArray):Nat:=
 if r=false then 4 else if k≠0 then k else if h=false\/key.toList=lo.toList then 1 else 0
def eJ (e:Nat) (lo key:ByteArray):ByteArray×ByteArray:=if e=0 then (lo,key) else (⟨#[]⟩,⟨#[]⟩)
end Pl
abbrev bO:ByteArray:=⟨#[]⟩
def mG (S:Nat->Bool):Prop:=jP S/\S 1=true/\S 4=true
def K9 (E:Nat->Addr) (lo hi key:ByteArray) (n:Nat) (w:World) (e:Ending) (w':World):Prop:=
 e=.returned (.tuple #[.agg #[.string (Pl.eJ n lo key).1,.string (Pl.eJ n lo key).2],.agg #[.string (Pl.eJ n key hi).1,.string (Pl.eJ n key hi).2],aX E n])/\ae w w'
theorem Ta (S:Nat->Bool) (E:Nat->Addr) (hS:mG S) (lo hi key:ByteArray) (w:World) (hl:lo.size<=70368744177664) (hh:hi.size<=70368744177664) (hk:key.size<=70368744177664) (hE:aY S E w):
    Calls Tryz.prog 146 #[.agg #[.string lo,.string hi],.string key] w (K9 E lo hi key (Pl.cU (Pl.bf lo hi) (Pl.aF key) (Pl.aL lo hi key) lo key) w):=by
 have HE:=af hE
 obtain ⟨hK,s1,s4⟩:=hS
 obtain ⟨s2,s3,s6,s7⟩:=id hK
 have b4:0<w.heap.size:=aN (hE.cell 4 s4)
 have b1:1<w.heap.size:=aN (hE.cell 1 s1)
 clear hE
 cases h1:Pl.bf lo hi with
 | false=>
  have hn:Pl.cU false (Pl.aF key) (Pl.aL lo hi key) lo key=4:=rfl
  rw [hn]
  clear hn
  go_in
  go_wp2_with fail
  refine (jm S E hK lo hi _ hl hh (HE.out.ag ((((ae.rf w).alloc _).alloc _).alloc _))).mono ?_
  rintro e w1 ⟨rfl,hg⟩
  have hG:ae w w1:=((((ae.rf w).alloc _).alloc _).alloc _).trans hg
  obtain ⟨hc,hf⟩:=hg.cells
  have Yx:w.cell? ⟨0,0,none⟩=some (.iface 337 (.pointer (some (E 4)))):=HE.out.cell 4 s4
  have c4:w1.cell? ⟨0,0,none⟩=some (.iface 337 (.pointer (some (E 4)))):=(HE.out.ag hG).cell 4 s4
  go_wp2_with fail
  go_region
  go_wp2_with fail
  refine bodyPost_ret (v:=.tuple #[.agg #[.string bO,.string bO],.agg #[.string bO,.string bO],aX E 4]) (by simp [results,Tryz.results146,go_sem,hc];rfl) rfl ⟨rfl,?_⟩
  exact ((((hG.setCell (by simp) _).setCell (by simp) _).setCell (by simp;omega) _).setCell (by simp;omega) _).drew
 | true=>
  cases h2:Pl.isKey key with
  | false=>
   have k0:Pl.aF key≠0:=of_decide_eq_false h2
   have hn:Pl.cU true (Pl.aF key) (Pl.aL lo hi key) lo key=Pl.aF key:=by unfold Pl.cU;rw [zZ0 (by decide),zZ1 k0]
   have hA:∀a b,Pl.eJ (Pl.aF key) a b=(bO,bO):=fun a b=>by unfold Pl.eJ;rw [zZ0 k0]
   have HK:=af (K8 E key h2)
   unfold K9
   rw [hn,hA,hA,HK.out]
   clear hn hA k0
   go_in
   go_wp2_with fail
   refine (jm S E hK lo hi _ hl hh (HE.out.ag ((((ae.rf w).alloc _).alloc _).alloc _))).mono ?_
   rintro e w1 ⟨rfl,hg⟩
   have hG:ae w w1:=((((ae.rf w).alloc _).alloc _).alloc _).trans hg
   have hz:w.heap.size<w1.heap.size/\w.heap.size+1<w1.heap.size/\w.heap.size+1+1<w1.heap.size:=by have:=hg.size;simp at this;omega
   obtain ⟨hz0,hz1,hz2⟩:=hz
   obtain ⟨hc,hf⟩:=hg.cells
   go_wp2_with fail
   refine (mZ S E s2 s3 s6 s7 key _ (by omega) (HE.out.ag hG)).mono ?_
   rw [HK.out]
   rintro e w2 ⟨rfl,aB⟩
   obtain ⟨hc2,hf2⟩:=aB.cells
   have bD:ae w w2:=hG.trans aB
   go_wp2_with fail
   refine bodyPost_ret (v:=.tuple #[.agg #[.string bO,.string bO],.agg #[.string bO,.string bO],.iface 337 (.pointer (some (E (Pl.aF key))))]) (by simp [results,Tryz.results146,go_sem,hc,hc2,hz1,hz2]) rfl ⟨rfl,?_⟩
   exact (((bD.setCell (by simp) _).setCell (by simp) _).setCell (by simp;omega) _).setCell (by simp;omega) _
  | true=>
   have k0:Pl.aF key=0:=of_decide_eq_true h2
   have HK:=af (K7 E key h2)
   cases h3:Pl.aL lo hi key with
   | false=>
    have hn:Pl.cU true (Pl.aF key) false lo key=1:=by unfold Pl.cU;rw [zZ0 (by decide),zZ0 (by omega),zZ1 (Or.inl rfl)]
    rw [hn]
    clear hn k0
    go_in
    go_wp2_with fail
    refine (jm S E hK lo hi _ hl hh (HE.out.ag ((((ae.rf w).alloc _).alloc _).alloc _))).mono ?_
    rintro e w1 ⟨rfl,hg⟩
    have hG:ae w w1:=((((ae.rf w).alloc _).alloc _).alloc _).trans hg
    have hz:w.heap.size<w1.heap.size/\w.heap.size+1<w1.heap.size/\w.heap.size+1+1<w1.heap.size:=by have:=hg.size;simp at this;omega
    obtain ⟨hz0,hz1,hz2⟩:=hz
    obtain ⟨hc,hf⟩:=hg.cells
    go_wp2_with fail
    refine (mZ S E s2 s3 s6 s7 key _ (by omega) (HE.out.ag hG)).mono ?_
    rw [HK.out]
    rintro e w2 ⟨rfl,aB⟩
    obtain ⟨hc2,hf2⟩:=aB.cells
    have bD:ae w w2:=hG.trans aB
    have hy:w.heap.size<w2.heap.size/\w.heap.size+1<w2.heap.size/\w.heap.size+1+1<w2.heap.size:=by have:=aB.size;omega
    obtain ⟨hy0,hy1,hy2⟩:=hy
    go_wp2_with fail
    refine (CE S E hK lo hi key _ hl hh hk (HE.out.ag bD)).mono ?_
    rintro e w3 ⟨rfl,hg3⟩
    obtain ⟨hc3,hf3⟩:=hg3.cells
    have km:ae w w3:=bD.trans hg3
    have c1:w3.cell? ⟨1,0,none⟩=some (.iface 337 (.pointer (some (E 1)))):=(HE.out.ag km).cell 1 s1
    go_wp2_with fail
    go_region
    go_wp2_with fail
    refine bodyPost_ret (v:=.tuple #[.agg #[.string bO,.string bO],.agg #[.string bO,.string bO],aX E 1]) (by simp [results,Tryz.results146,go_sem,hc,hc2,hc3,hz1,hz2,hy1,hy2];rfl) rfl ⟨rfl,?_⟩
    exact ((((km.setCell (by simp) _).setCell (by simp) _).setCell (by simp;omega) _).setCell (by simp;omega) _).drew
   | true=>
    by_cases h4:key.toList=lo.toList
    · have hn:Pl.cU true (Pl.aF key) true lo key=1:=by unfold Pl.cU;rw [zZ0 (by decide),zZ0 (by omega),zZ1 (Or.inr h4)]
      rw [hn]
      have h5:(key.toList==lo.toList)=true:=by simpa using h4
      clear hn k0 h4
      go_in
      go_wp2_with fail
      refine (jm S E hK lo hi _ hl hh (HE.out.ag ((((ae.rf w).alloc _).alloc _).alloc _))).mono ?_
      rintro e w1 ⟨rfl,hg⟩
      have hG:ae w w1:=((((ae.rf w).alloc _).alloc _).alloc _).trans hg
      have hz:w.heap.size<w1.heap.size/\w.heap.size+1<w1.heap.size/\w.heap.size+1+1<w1.heap.size:=by have:=hg.size;simp at this;omega
      obtain ⟨hz0,hz1,hz2⟩:=hz
      obtain ⟨hc,hf⟩:=hg.cells
      go_wp2_with fail
      refine (mZ S E s2 s3 s6 s7 key _ (by omega) (HE.out.ag hG)).mono ?_
      rw [HK.out]
      rintro e w2 ⟨rfl,aB⟩
      obtain ⟨hc2,hf2⟩:=aB.cells
      have bD:ae w w2:=hG.trans aB
      have hy:w.heap.size<w2.heap.size/\w.heap.size+1<w2.heap.size/\w.heap.size+1+1<w2.heap.size:=by have:=aB.size;omega
      obtain ⟨hy0,hy1,hy2⟩:=hy
      go_wp2_with fail
      refine (CE S E hK lo hi key _ hl hh hk (HE.out.ag bD)).mono ?_
      rintro e w3 ⟨rfl,hg3⟩
      obtain ⟨hc3,hf3⟩:=hg3.cells
      have km:ae w w3:=bD.trans hg3
      have c1:w3.cell? ⟨1,0,none⟩=some (.iface 337 (.pointer (some (E 1)))):=(HE.out.ag km).cell 1 s1
      go_wp2_with fail
      go_region
      go_wp2_with fail
      refine bodyPost_ret (v:=.tuple #[.agg #[.string bO,.string bO],.agg #[.string bO,.string bO],aX E 1]) (by simp [results,Tryz.results146,go_sem,hc,hc2,hc3,hz1,hz2,hy1,hy2];rfl) rfl ⟨rfl,?_⟩
      exact ((((km.setCell (by simp) _).setCell (by simp) _).setCell (by simp;omega) _).setCell (by simp;omega) _).drew
    · have hn:Pl.cU true (Pl.aF key) true lo key=0:=by unfold Pl.cU;rw [zZ0 (by decide),zZ0 (by omega),zZ0 (by simpa using h4)]
      rw [hn]
      have h5:(key.toList==lo.toList)=false:=by simpa using h4
      clear hn k0 h4
      go_in
      go_wp2_with fail
      refine (jm S E hK lo hi _ hl hh (HE.out.ag ((((ae.rf w).alloc _).alloc _).alloc _))).mono ?_
      rintro e w1 ⟨rfl,hg⟩
      have hG:ae w w1:=((((ae.rf w).alloc _).alloc _).alloc _).trans hg
      have hz:w.heap.size<w1.heap.size/\w.heap.size+1<w1.heap.size/\w.heap.size+1+1<w1.heap.size:=by have:=hg.size;simp at this;omega
      obtain ⟨hz0,hz1,hz2⟩:=hz
      obtain ⟨hc,hf⟩:=hg.cells
      go_wp2_with fail
      refine (mZ S E s2 s3 s6 s7 key _ (by omega) (HE.out.ag hG)).mono ?_
      rw [HK.out]
      rintro e w2 ⟨rfl,aB⟩
      obtain ⟨hc2,hf2⟩:=aB.cells
      have bD:ae w w2:=hG.trans aB
      have hy:w.heap.size<w2.heap.size/\w.heap.size+1<w2.heap.size/\w.heap.size+1+1<w2.heap.size:=by have:=aB.size;omega
      obtain ⟨hy0,hy1,hy2⟩:=hy
      go_wp2_with fail
      refine (CE S E hK lo hi key _ hl hh hk (HE.out.ag bD)).mono ?_
      rintro e w3 ⟨rfl,hg3⟩
      obtain ⟨hc3,hf3⟩:=hg3.cells
      have km:ae w w3:=bD.trans hg3
      have l0:w3.cell? ⟨w.heap.size,0,none⟩=some (.string lo):=by rw [hc3 _ _ hy0,hc2 _ _ hz0,hc _ _ (by simp;omega)];simp [go_sem]
      have l1:w3.cell? ⟨w.heap.size,1,none⟩=some (.string hi):=by rw [hc3 _ _ hy0,hc2 _ _ hz0,hc _ _ (by simp;omega)];simp [go_sem]
      go_wp2_with fail
      go_region
      go_wp2_with fail
      refine bodyPost_ret (v:=.tuple #[.agg #[.string lo,.string key],.agg #[.string key,.string hi],aX E 0]) (by simp [results,Tryz.results146,go_sem,hc,hc2,hc3,hz1,hz2,hy1,hy2];rfl) rfl ⟨rfl,?_⟩
      exact ((((km.setCell (by simp) _).setCell (by simp) _).setCell (by simp;omega) _).setCell (by simp;omega) _).drew
namespace Pl
def aK (ra rb:Bool) (bY bS bZ bJ:ByteArray):Nat:=
 if ra=false\/rb=false then 4 else if aP bS=false/\bS.toList=bZ.toList then 0 else if aP bJ=false/\bJ.toList=bY.toList then 0 else 1
def aH (ra rb:Bool) (bY bS bZ bJ:ByteArray):ByteArray×ByteArray:=
 if ra=false\/rb=false then (⟨#[]⟩,⟨#[]⟩) else if aP bS=false/\bS.toList=bZ.toList then (bY,bJ) else if aP bJ=false/\bJ.toList=bY.toList then (bZ,bS) else (⟨#[]⟩,⟨#[]⟩)
end Pl
def Lg (E:Nat->Addr) (v:ByteArray×ByteArray) (n:Nat) (w:World) (e:Ending) (w':World):Prop:=
 e=.returned (.tuple #[.agg #[.string v.1,.string v.2],aX E n])/\ae w w'
theorem NC (S:Nat->Bool) (E:Nat->Addr) (hS:mG S) (bY bS bZ bJ:ByteArray) (w:World) (h1:bY.size<=70368744177664) (h2:bS.size<=70368744177664) (h3:bZ.size<=70368744177664) (h4:bJ.size<=70368744177664) (hE:aY S E w):
    Calls Tryz.prog 144 #[.agg #[.string bY,.string bS],.agg #[.string bZ,.string bJ]] w (Lg E (Pl.aH (Pl.bf bY bS) (Pl.bf bZ bJ) bY bS bZ bJ) (Pl.aK (Pl.bf bY bS) (Pl.bf bZ bJ) bY bS bZ bJ) w):=by
 have HE:=af hE
 obtain ⟨hK,s1,s4⟩:=hS
 have b4:0<w.heap.size:=aN (hE.cell 4 s4)
 have b1:1<w.heap.size:=aN (hE.cell 1 s1)
 clear hE
 cases r1:Pl.bf bY bS with
 | false=>
  have hn:Pl.aK false (Pl.bf bZ bJ) bY bS bZ bJ=4:=by unfold Pl.aK;rw [zZ1 (Or.inl rfl)]
  have hv:Pl.aH false (Pl.bf bZ bJ) bY bS bZ bJ=(bO,bO):=by unfold Pl.aH;rw [zZ1 (Or.inl rfl)]
  rw [hn,hv]
  clear hn hv
  go_in
  go_wp2_with fail
  refine (jm S E hK bY bS _ h1 h2 (HE.out.ag ((((ae.rf w).alloc _).alloc _).alloc _))).mono ?_
  rintro e w1 ⟨rfl,hg⟩
  have hG:ae w w1:=((((ae.rf w).alloc _).alloc _).alloc _).trans hg
  have hz:w.heap.size+1+1<w1.heap.size:=by have:=hg.size;simp at this;omega
  obtain ⟨hc,hf⟩:=hg.cells
  have Yx:w.cell? ⟨0,0,none⟩=some (.iface 337 (.pointer (some (E 4)))):=HE.out.cell 4 s4
  have c4:w1.cell? ⟨0,0,none⟩=some (.iface 337 (.pointer (some (E 4)))):=(HE.out.ag hG).cell 4 s4
  go_wp2_with fail
  go_region
  go_wp2_with fail
  refine bodyPost_ret (v:=.tuple #[.agg #[.string bO,.string bO],aX E 4]) (by simp [results,Tryz.results144,go_sem,hc];rfl) rfl ⟨rfl,?_⟩
  exact ((hG.setCell (by simp;omega) _).setCell (by simp;omega) _).drew
 | true=>
  cases r2:Pl.bf bZ bJ with
  | false=>
   have hn:Pl.aK true false bY bS bZ bJ=4:=by unfold Pl.aK;rw [zZ1 (Or.inr rfl)]
   have hv:Pl.aH true false bY bS bZ bJ=(bO,bO):=by unfold Pl.aH;rw [zZ1 (Or.inr rfl)]
   rw [hn,hv]
   clear hn hv
   go_in
   go_wp2_with fail
   refine (jm S E hK bY bS _ h1 h2 (HE.out.ag ((((ae.rf w).alloc _).alloc _).alloc _))).mono ?_
   rintro e w1 ⟨rfl,hg⟩
   have hG:ae w w1:=((((ae.rf w).alloc _).alloc _).alloc _).trans hg
   have hz:w.heap.size+1<w1.heap.size/\w.heap.size+1+1<w1.heap.size:=by have:=hg.size;simp at this;omega
   obtain ⟨hz1,hz2⟩:=hz
   obtain ⟨hc,hf⟩:=hg.cells
   go_wp2_with fail
   refine (jm S E hK bZ bJ _ h3 h4 (HE.out.ag hG)).mono ?_
   rintro e w2 ⟨rfl,aB⟩
   have bD:ae w w2:=hG.trans aB
   obtain ⟨hc2,hf2⟩:=aB.cells
   have c4:w2.cell? ⟨0,0,none⟩=some (.iface 337 (.pointer (some (E 4)))):=(HE.out.ag bD).cell 4 s4
   go_wp2_with fail
   go_region
   go_wp2_with fail
   refine bodyPost_ret (v:=.tuple #[.agg #[.string bO,.string bO],aX E 4]) (by simp [results,Tryz.results144,go_sem,hc,hc2,hz2];rfl) rfl ⟨rfl,?_⟩
   exact ((bD.setCell (by simp;omega) _).setCell (by simp;omega) _).drew
  | true=>
   cases cX:bS.toList.isEmpty with
   | true=>
    have uH:bS.toList=[]:=by simpa using cX
    cases bU:bJ.toList.isEmpty with
    | true=>
     have kQ:bJ.toList=[]:=by simpa using bU
     have hn:Pl.aK true true bY bS bZ bJ=1:=by unfold Pl.aK;rw [zZ0 (by simp),zZ0 (fun h=>by have:=h.1;unfold Pl.aP at this;rw [cX] at this;cases this),zZ0 (fun h=>by have:=h.1;unfold Pl.aP at this;rw [bU] at this;cases this)]
     have hv:Pl.aH true true bY bS bZ bJ=(bO,bO):=by unfold Pl.aH;rw [zZ0 (by simp),zZ0 (fun h=>by have:=h.1;unfold Pl.aP at this;rw [cX] at this;cases this),zZ0 (fun h=>by have:=h.1;unfold Pl.aP at this;rw [bU] at this;cases this)]
     rw [hn,hv]
     clear hn hv
     go_in
     go_wp2_with fail
     refine (jm S E hK bY bS _ (by omega) (by omega) (HE.out.ag ((((ae.rf w).alloc _).alloc _).alloc _))).mono ?_
     rintro e w1 ⟨rfl,hg⟩
     have hG:ae w w1:=((((ae.rf w).alloc _).alloc _).alloc _).trans hg
     have hz:w.heap.size<w1.heap.size/\w.heap.size+1<w1.heap.size/\w.heap.size+1+1<w1.heap.size:=by have:=hg.size;simp at this;omega
     obtain ⟨hz0,hz1,hz2⟩:=hz
     obtain ⟨hc,hf⟩:=hg.cells
     go_wp2_with fail
     refine (jm S E hK bZ bJ _ (by omega) (by omega) (HE.out.ag hG)).mono ?_
     rintro e w2 ⟨rfl,aB⟩
     have bD:ae w w2:=hG.trans aB
     obtain ⟨hc2,hf2⟩:=aB.cells
     have c1:w2.cell? ⟨1,0,none⟩=some (.iface 337 (.pointer (some (E 1)))):=(HE.out.ag bD).cell 1 s1
     go_wp2_with fail
     go_region
     go_wp2_with fail
     refine bodyPost_ret (v:=.tuple #[.agg #[.string bO,.string bO],aX E 1]) (by simp [results,Tryz.results144,go_sem,hc,hc2,hz2];rfl) rfl ⟨rfl,?_⟩
     exact ((bD.setCell (by simp;omega) _).setCell (by simp;omega) _).drew
    | false=>
     have kQ:¬bJ.toList=[]:=by simpa using bU
     have uI:(!bJ.toList.isEmpty)=true:=by rw [bU];rfl
     by_cases q2:bJ.toList=bY.toList
     · have q2':(bJ.toList==bY.toList)=true:=by simpa using q2
       have hn:Pl.aK true true bY bS bZ bJ=0:=by unfold Pl.aK;rw [zZ0 (by simp),zZ0 (fun h=>by have:=h.1;unfold Pl.aP at this;rw [cX] at this;cases this),zZ1 ⟨bU,q2⟩]
       have hv:Pl.aH true true bY bS bZ bJ=(bZ,bS):=by unfold Pl.aH;rw [zZ0 (by simp),zZ0 (fun h=>by have:=h.1;unfold Pl.aP at this;rw [cX] at this;cases this),zZ1 ⟨bU,q2⟩]
       rw [hn,hv]
       clear hn hv
       clear q2
       go_in
       go_wp2_with fail
       refine (jm S E hK bY bS _ (by omega) (by omega) (HE.out.ag ((((ae.rf w).alloc _).alloc _).alloc _))).mono ?_
       rintro e w1 ⟨rfl,hg⟩
       have hG:ae w w1:=((((ae.rf w).alloc _).alloc _).alloc _).trans hg
       have hz:w.heap.size<w1.heap.size/\w.heap.size+1<w1.heap.size/\w.heap.size+1+1<w1.heap.size:=by have:=hg.size;simp at this;omega
       obtain ⟨hz0,hz1,hz2⟩:=hz
       obtain ⟨hc,hf⟩:=hg.cells
       go_wp2_with fail
       refine (jm S E hK bZ bJ _ (by omega) (by omega) (HE.out.ag hG)).mono ?_
       rintro e w2 ⟨rfl,aB⟩
       have bD:ae w w2:=hG.trans aB
       obtain ⟨hc2,hf2⟩:=aB.cells
       go_wp2_with fail
       refine bodyPost_ret (v:=.tuple #[.agg #[.string bZ,.string bS],aX E 0]) (by simp [results,Tryz.results144,go_sem,hc,hc2,hz2];rfl) rfl ⟨rfl,?_⟩
       exact ((bD.setCell (by simp;omega) _).setCell (by simp;omega) _)
     · have q2':(bJ.toList==bY.toList)=false:=by simpa using q2
       have hn:Pl.aK true true bY bS bZ bJ=1:=by unfold Pl.aK;rw [zZ0 (by simp),zZ0 (fun h=>by have:=h.1;unfold Pl.aP at this;rw [cX] at this;cases this),zZ0 (fun h=>q2 h.2)]
       have hv:Pl.aH true true bY bS bZ bJ=(bO,bO):=by unfold Pl.aH;rw [zZ0 (by simp),zZ0 (fun h=>by have:=h.1;unfold Pl.aP at this;rw [cX] at this;cases this),zZ0 (fun h=>q2 h.2)]
       rw [hn,hv]
       clear hn hv
       clear q2
       go_in
       go_wp2_with fail
       refine (jm S E hK bY bS _ (by omega) (by omega) (HE.out.ag ((((ae.rf w).alloc _).alloc _).alloc _))).mono ?_
       rintro e w1 ⟨rfl,hg⟩
       have hG:ae w w1:=((((ae.rf w).alloc _).alloc _).alloc _).trans hg
       have hz:w.heap.size<w1.heap.size/\w.heap.size+1<w1.heap.size/\w.heap.size+1+1<w1.heap.size:=by have:=hg.size;simp at this;omega
       obtain ⟨hz0,hz1,hz2⟩:=hz
       obtain ⟨hc,hf⟩:=hg.cells
       go_wp2_with fail
       refine (jm S E hK bZ bJ _ (by omega) (by omega) (HE.out.ag hG)).mono ?_
       rintro e w2 ⟨rfl,aB⟩
       have bD:ae w w2:=hG.trans aB
       obtain ⟨hc2,hf2⟩:=aB.cells
       have c1:w2.cell? ⟨1,0,none⟩=some (.iface 337 (.pointer (some (E 1)))):=(HE.out.ag bD).cell 1 s1
       go_wp2_with fail
       go_region
       go_wp2_with fail
       refine bodyPost_ret (v:=.tuple #[.agg #[.string bO,.string bO],aX E 1]) (by simp [results,Tryz.results144,go_sem,hc,hc2,hz2];rfl) rfl ⟨rfl,?_⟩
       exact ((bD.setCell (by simp;omega) _).setCell (by simp;omega) _).drew
   | false=>
    have uH:¬bS.toList=[]:=by simpa using cX
    have GY:(!bS.toList.isEmpty)=true:=by rw [cX];rfl
    by_cases q1:bS.toList=bZ.toList
    · have q1':(bS.toList==bZ.toList)=true:=by simpa using q1
      have hn:Pl.aK true true bY bS bZ bJ=0:=by unfold Pl.aK;rw [zZ0 (by simp),zZ1 ⟨cX,q1⟩]
      have hv:Pl.aH true true bY bS bZ bJ=(bY,bJ):=by unfold Pl.aH;rw [zZ0 (by simp),zZ1 ⟨cX,q1⟩]
      rw [hn,hv]
      clear hn hv
      clear q1
      go_in
      go_wp2_with fail
      refine (jm S E hK bY bS _ (by omega) (by omega) (HE.out.ag ((((ae.rf w).alloc _).alloc _).alloc _))).mono ?_
      rintro e w1 ⟨rfl,hg⟩
      have hG:ae w w1:=((((ae.rf w).alloc _).alloc _).alloc _).trans hg
      have hz:w.heap.size<w1.heap.size/\w.heap.size+1<w1.heap.size/\w.heap.size+1+1<w1.heap.size:=by have:=hg.size;simp at this;omega
      obtain ⟨hz0,hz1,hz2⟩:=hz
      obtain ⟨hc,hf⟩:=hg.cells
      go_wp2_with fail
      refine (jm S E hK bZ bJ _ (by omega) (by omega) (HE.out.ag hG)).mono ?_
      rintro e w2 ⟨rfl,aB⟩
      have bD:ae w w2:=hG.trans aB
      obtain ⟨hc2,hf2⟩:=aB.cells
      go_wp2_with fail
      refine bodyPost_ret (v:=.tuple #[.agg #[.string bY,.string bJ],aX E 0]) (by simp [results,Tryz.results144,go_sem,hc,hc2,hz2];rfl) rfl ⟨rfl,?_⟩
      exact ((bD.setCell (by simp;omega) _).setCell (by simp;omega) _)
    · have q1':(bS.toList==bZ.toList)=false:=by simpa using q1
      cases bU:bJ.toList.isEmpty with
      | true=>
       have kQ:bJ.toList=[]:=by simpa using bU
       have hn:Pl.aK true true bY bS bZ bJ=1:=by unfold Pl.aK;rw [zZ0 (by simp),zZ0 (fun h=>q1 h.2),zZ0 (fun h=>by have:=h.1;unfold Pl.aP at this;rw [bU] at this;cases this)]
       have hv:Pl.aH true true bY bS bZ bJ=(bO,bO):=by unfold Pl.aH;rw [zZ0 (by simp),zZ0 (fun h=>q1 h.2),zZ0 (fun h=>by have:=h.1;unfold Pl.aP at this;rw [bU] at this;cases this)]
       rw [hn,hv]
       clear hn hv
       clear q1
       go_in
       go_wp2_with fail
       refine (jm S E hK bY bS _ (by omega) (by omega) (HE.out.ag ((((ae.rf w).alloc _).alloc _).alloc _))).mono ?_
       rintro e w1 ⟨rfl,hg⟩
       have hG:ae w w1:=((((ae.rf w).alloc _).alloc _).alloc _).trans hg
       have hz:w.heap.size<w1.heap.size/\w.heap.size+1<w1.heap.size/\w.heap.size+1+1<w1.heap.size:=by have:=hg.size;simp at this;omega
       obtain ⟨hz0,hz1,hz2⟩:=hz
       obtain ⟨hc,hf⟩:=hg.cells
       go_wp2_with fail
       refine (jm S E hK bZ bJ _ (by omega) (by omega) (HE.out.ag hG)).mono ?_
       rintro e w2 ⟨rfl,aB⟩
       have bD:ae w w2:=hG.trans aB
       obtain ⟨hc2,hf2⟩:=aB.cells
       have c1:w2.cell? ⟨1,0,none⟩=some (.iface 337 (.pointer (some (E 1)))):=(HE.out.ag bD).cell 1 s1
       go_wp2_with fail
       go_region
       go_wp2_with fail
       refine bodyPost_ret (v:=.tuple #[.agg #[.string bO,.string bO],aX E 1]) (by simp [results,Tryz.results144,go_sem,hc,hc2,hz2];rfl) rfl ⟨rfl,?_⟩
       exact ((bD.setCell (by simp;omega) _).setCell (by simp;omega) _).drew
      | false=>
       have kQ:¬bJ.toList=[]:=by simpa using bU
       have uI:(!bJ.toList.isEmpty)=true:=by rw [bU];rfl
       by_cases q2:bJ.toList=bY.toList
       · have q2':(bJ.toList==bY.toList)=true:=by simpa using q2
         have hn:Pl.aK true true bY bS bZ bJ=0:=by unfold Pl.aK;rw [zZ0 (by simp),zZ0 (fun h=>q1 h.2),zZ1 ⟨bU,q2⟩]
         have hv:Pl.aH true true bY bS bZ bJ=(bZ,bS):=by unfold Pl.aH;rw [zZ0 (by simp),zZ0 (fun h=>q1 h.2),zZ1 ⟨bU,q2⟩]
         rw [hn,hv]
         clear hn hv
         clear q2
         clear q1
         go_in
         go_wp2_with fail
         refine (jm S E hK bY bS _ (by omega) (by omega) (HE.out.ag ((((ae.rf w).alloc _).alloc _).alloc _))).mono ?_
         rintro e w1 ⟨rfl,hg⟩
         have hG:ae w w1:=((((ae.rf w).alloc _).alloc _).alloc _).trans hg
         have hz:w.heap.size<w1.heap.size/\w.heap.size+1<w1.heap.size/\w.heap.size+1+1<w1.heap.size:=by have:=hg.size;simp at this;omega
         obtain ⟨hz0,hz1,hz2⟩:=hz
         obtain ⟨hc,hf⟩:=hg.cells
         go_wp2_with fail
         refine (jm S E hK bZ bJ _ (by omega) (by omega) (HE.out.ag hG)).mono ?_
         rintro e w2 ⟨rfl,aB⟩
         have bD:ae w w2:=hG.trans aB
         obtain ⟨hc2,hf2⟩:=aB.cells
         go_wp2_with fail
         refine bodyPost_ret (v:=.tuple #[.agg #[.string bZ,.string bS],aX E 0]) (by simp [results,Tryz.results144,go_sem,hc,hc2,hz2];rfl) rfl ⟨rfl,?_⟩
         exact ((bD.setCell (by simp;omega) _).setCell (by simp;omega) _)
       · have q2':(bJ.toList==bY.toList)=false:=by simpa using q2
         have hn:Pl.aK true true bY bS bZ bJ=1:=by unfold Pl.aK;rw [zZ0 (by simp),zZ0 (fun h=>q1 h.2),zZ0 (fun h=>q2 h.2)]
         have hv:Pl.aH true true bY bS bZ bJ=(bO,bO):=by unfold Pl.aH;rw [zZ0 (by simp),zZ0 (fun h=>q1 h.2),zZ0 (fun h=>q2 h.2)]
         rw [hn,hv]
         clear hn hv
         clear q2
         clear q1
         go_in
         go_wp2_with fail
         refine (jm S E hK bY bS _ (by omega) (by omega) (HE.out.ag ((((ae.rf w).alloc _).alloc _).alloc _))).mono ?_
         rintro e w1 ⟨rfl,hg⟩
         have hG:ae w w1:=((((ae.rf w).alloc _).alloc _).alloc _).trans hg
         have hz:w.heap.size<w1.heap.size/\w.heap.size+1<w1.heap.size/\w.heap.size+1+1<w1.heap.size:=by have:=hg.size;simp at this;omega
         obtain ⟨hz0,hz1,hz2⟩:=hz
         obtain ⟨hc,hf⟩:=hg.cells
         go_wp2_with fail
         refine (jm S E hK bZ bJ _ (by omega) (by omega) (HE.out.ag hG)).mono ?_
         rintro e w2 ⟨rfl,aB⟩
         have bD:ae w w2:=hG.trans aB
         obtain ⟨hc2,hf2⟩:=aB.cells
         have c1:w2.cell? ⟨1,0,none⟩=some (.iface 337 (.pointer (some (E 1)))):=(HE.out.ag bD).cell 1 s1
         go_wp2_with fail
         go_region
         go_wp2_with fail
         refine bodyPost_ret (v:=.tuple #[.agg #[.string bO,.string bO],aX E 1]) (by simp [results,Tryz.results144,go_sem,hc,hc2,hz2];rfl) rfl ⟨rfl,?_⟩
         exact ((bD.setCell (by simp;omega) _).setCell (by simp;omega) _).drew
end
end Go.Proofs.YtbnofojapimfcaaGreatDoor
