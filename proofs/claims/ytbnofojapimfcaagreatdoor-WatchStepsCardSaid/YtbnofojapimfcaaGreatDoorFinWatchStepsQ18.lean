/- Part 18 of the proof. -/
import Derived.Test.YtbnofojapimfcaaGreatDoorFinWatchStepsQ12
import Derived.Test.YtbnofojapimfcaaGreatDoorFinWatchStepsQ17
import Derived.Lib.QuietBelow
import Derived.Deep.RegionWith
set_option linter.unusedVariables false
set_option linter.unusedSectionVars false
set_option linter.unusedSimpArgs false
set_option maxRecDepth 100000
set_option maxHeartbeats 16000000
namespace Go.Proofs.YtbnofojapimfcaaGreatDoor
section
open Go.RowKit Go.Maps Go.Sort
attribute [local go_sem] Oper.semAt_some
structure fZ (S:Nat->Bool):Prop where
 h1:S 1=true
 h2:S 2=true
 h3:S 3=true
 h4:S 4=true
 h6:S 6=true
 h7:S 7=true
theorem fZ.key {S:Nat->Bool} (h:fZ S):iW S:=⟨h.h2,h.h3,h.h6,h.h7⟩
theorem fZ.zg {S:Nat->Bool} (h:fZ S):jP S:=⟨h.h2,h.h3,h.h6,h.h7⟩
theorem fZ.span {S:Nat->Bool} (h:fZ S):mG S:=⟨h.zg,h.h1,h.h4⟩
namespace Pl
theorem CJ (xs:List Sh) (id:Int):ax xs id= -1\/∃i,i<xs.length/\ax xs id=(i:Nat)/\(ah xs i).id=id:=by
 unfold ax b7
 cases hf:xs.findIdx? (fun c=>c.id==id) with
 | none=>exact .inl rfl
 | some i=>
  obtain ⟨hi,hp,_⟩:=zJ3.1 hf
  exact .inr ⟨i,hi,rfl,by rw [kD xs i hi];exact beq_iff_eq.1 hp⟩
def iq (xs:List Sh) (used:Nat->Bool) (e:En):Bool:=
 if bR e=false then false
 else if ax xs e.ai<0 then false
 else if e.kind=2 then true
 else if e.kind=3 then !used e.other.toNat && aL (ah xs (ax xs e.ai).toNat).lo (ah xs (ax xs e.ai).toNat).hi e.key && !decide (e.key.toList=(ah xs (ax xs e.ai).toNat).lo.toList)
 else if e.kind=4 then
  if ax xs e.other<0 then false
  else decide (aK (bf (ah xs (ax xs e.ai).toNat).lo (ah xs (ax xs e.ai).toNat).hi) (bf (ah xs (ax xs e.other).toNat).lo (ah xs (ax xs e.other).toNat).hi) (ah xs (ax xs e.ai).toNat).lo (ah xs (ax xs e.ai).toNat).hi (ah xs (ax xs e.other).toNat).lo (ah xs (ax xs e.other).toNat).hi=0)
 else false
theorem ND {e:En} (h:bR e=true) (hk:e.kind=3):1<=e.other/\e.other<=12:=by
 unfold bR at h
 rw [zZ0 (by omega),zZ0 (by omega),zZ1 hk] at h
 unfold pI cP at h
 simp only [Bool.and_eq_true,decide_eq_true_eq] at h
 exact h.1.1.1.2
end Pl
section
variable {S:Nat->Bool} (hS:fZ S) (E:Nat->Addr) {w:World} (hE:aY S E w) {F:Nat->Prop} {sb:Nat} {xs:List Sh} {used:Nat->Bool} {ne:Nat} {evs:List Value} (h:fh w F sb xs used ne evs) (hx:xs.length<=1000000) (e:En) (hA:bG w e) (hkey:e.key.size<=70368744177664)
include hS hE h hx hA hkey
theorem NU (hp:Pl.bR e=false\/Pl.ax xs e.ai= -1\/e.kind=2):Calls Tryz.prog 95 #[.pointer (some ⟨sb,0,none⟩),e.agg] w fun r w'=>r=.returned (.bool (Pl.iq xs used e))/\ae w w':=by
 have HE:=af hE
 have HM:=af h
 have HA:=af hA
 have HF:=af (fun W (g:ae w W) id=>uG (HM.out.ag g) hx id)
 have HR:=af (fun W (g:ae w W)=>py hS.key E e W (HE.out.ag g) (HA.out.ag g))
 obtain ⟨v,ve,h⟩:=h
 obtain ⟨a,cap,rfl,jY⟩:=A9 h.row
 have c0:=h.live
 have hb:=h.blt
 have HU:=af h.used
 have HZ:=af h.sz
 have fD:=af jY
 have HW:=af (show True from trivial)
 clear hE h hA jY
 cases hr:Pl.bR e with
 | false=>
  have HC:Hid (Pl.iq xs used e=false):=by unfold Hid Pl.iq;rw [zZ1 hr]
  rw [hr] at HR
  unfold En.agg En.vals at *
  clear hr
  go_in
  go_wp2_with fail
  refine (HF.out _ ((ae.rf w).alloc _) _).mono ?_
  rintro r w1 ⟨rfl,hg⟩
  have hc:=hg.cells.1
  have hz:w.heap.size<w1.heap.size:=by have:=hg.size;simp at this;omega
  have hG:=((ae.rf w).alloc _).trans hg
  clear hg
  go_wp2_with fail
  refine (HR.out _ hG).mono ?_
  rintro r w2 ⟨rfl,aB⟩
  go_wp2_with fail
  go_ret
  exact ⟨bt HC.out.symm,hG.trans aB⟩
 | true=>
  have pM:Hid (∀b,(if Pl.ax xs e.ai<0 then false
 else if e.kind=2 then true
 else if e.kind=3 then !used e.other.toNat && Pl.aL (ah xs (Pl.ax xs e.ai).toNat).lo (ah xs (Pl.ax xs e.ai).toNat).hi e.key && !decide (e.key.toList=(ah xs (Pl.ax xs e.ai).toNat).lo.toList)
 else if e.kind=4 then
  if Pl.ax xs e.other<0 then false
  else decide (Pl.aK (Pl.bf (ah xs (Pl.ax xs e.ai).toNat).lo (ah xs (Pl.ax xs e.ai).toNat).hi) (Pl.bf (ah xs (Pl.ax xs e.other).toNat).lo (ah xs (Pl.ax xs e.other).toNat).hi) (ah xs (Pl.ax xs e.ai).toNat).lo (ah xs (Pl.ax xs e.ai).toNat).hi (ah xs (Pl.ax xs e.other).toNat).lo (ah xs (Pl.ax xs e.other).toNat).hi=0)
 else false)=b->Pl.iq xs used e=b):=by
     unfold Hid;intro b hb';unfold Pl.iq;rw [zZ0 (by rw [hr];simp)];exact hb'
  rw [hr] at HR
  rcases Pl.CJ xs e.ai with hf | ⟨i,hi,hf,bP⟩
  · have HC:Hid (Pl.iq xs used e=false):=by unfold Hid;refine pM.out _ ?_;rw [hf];rfl
    have eY:=af (fun W g=>HF.out W g e.ai)
    rw [hf] at eY
    unfold En.agg En.vals at *
    clear hr pM hf HF
    go_in
    go_wp2_with fail
    refine (eY.out _ ((ae.rf w).alloc _)).mono ?_
    rintro r w1 ⟨rfl,hg⟩
    have hc:=hg.cells.1
    have hz:w.heap.size<w1.heap.size:=by have:=hg.size;simp at this;omega
    have hG:=((ae.rf w).alloc _).trans hg
    clear hg
    go_wp2_with fail
    refine (HR.out _ hG).mono ?_
    rintro r w2 ⟨rfl,aB⟩
    go_wp2_with fail
    go_ret
    exact ⟨bt HC.out.symm,hG.trans aB⟩
  · have hp2:e.kind=2:=by
     rcases hp with hp | hp | hp
     · rw [hr] at hp;cases hp
     · omega
     · exact hp
    rcases fD.out with h0 | ⟨b,off,rfl,hbb,cC⟩
    · rw [h0] at hi;simp at hi
    have eY:=af (fun W g=>HF.out W g e.ai)
    rw [hf] at eY
    have pN:¬((i:Int)<0):=by omega
    have tj:(i:Int)<(xs.length:Int):=by omega
    have rl:=cC.lo i hi
    have rh:=cC.hi i hi
    obtain ⟨z1,z2⟩:=HZ.out _ (kE xs i hi)
    rw [hf] at pM
    have uN:=af cC
    clear hf bP cC
    have zn:(i:Int).toNat=i:=Int.toNat_natCast i
    rw [zZ0 pN,zn] at pM
    clear zn
    by_cases k2:e.kind=2
    case neg=>exact absurd hp2 k2
    · have HC:Hid (Pl.iq xs used e=true):=by unfold Hid;refine pM.out _ ?_;rw [zZ1 k2]
      have b2:(e.kind==2)=true:=beq_iff_eq.2 k2
      unfold En.agg En.vals at *
      clear hr pM HF k2 hp2
      go_in
      go_wp2_with fail
      refine (eY.out _ ((ae.rf w).alloc _)).mono ?_
      rintro r w1 ⟨rfl,hg⟩
      have hc:=hg.cells.1
      have hz:w.heap.size<w1.heap.size:=by have:=hg.size;simp at this;omega
      have hG:=((ae.rf w).alloc _).trans hg
      go_wp2_with fail
      refine (HR.out _ hG).mono ?_
      rintro r w2 ⟨rfl,aB⟩
      have bD:=hG.trans aB
      have hc2:=aB.cells.1
      have hz2:w.heap.size<w2.heap.size:=ltT hz aB.size
      clear hg aB
      go_wp2_with fail
      go_ret
      exact ⟨bt HC.out.symm,bD⟩
end
end
section
open Go.RowKit Go.Maps Go.Sort
attribute [local go_sem] Oper.semAt_some
section
variable {S:Nat->Bool} (hS:fZ S) (E:Nat->Addr) {w:World} (hE:aY S E w) {F:Nat->Prop} {sb:Nat} {xs:List Sh} {used:Nat->Bool} {ne:Nat} {evs:List Value} (h:fh w F sb xs used ne evs) (hx:xs.length<=1000000) (e:En) (hA:bG w e) (hkey:e.key.size<=70368744177664)
include hS hE h hx hA hkey
theorem YS (hr:Pl.bR e=true) (k3:e.kind=3) (i:Nat) (hi:i<xs.length) (hf:Pl.ax xs e.ai=(i:Nat)):
    Calls Tryz.prog 95 #[.pointer (some ⟨sb,0,none⟩),e.agg] w fun r w'=>r=.returned (.bool (!used e.other.toNat && Pl.aL (ah xs i).lo (ah xs i).hi e.key && !decide (e.key.toList=(ah xs i).lo.toList)))/\ae w w':=by
 have HE:=af hE
 have HA:=af hA
 have eY:=af (fun W (g:ae w W)=>uG (h.ag g) hx e.ai)
 have HR:=af (fun W (g:ae w W)=>py hS.key E e W (HE.out.ag g) (HA.out.ag g))
 obtain ⟨v,ve,h⟩:=h
 obtain ⟨a,cap,rfl,jY⟩:=A9 h.row
 have c0:=h.live
 have hb:=h.blt
 have HU:=af h.used
 have HZ:=af h.sz
 obtain ⟨o1,o2⟩:=Pl.ND hr k3
 obtain ⟨z1,z2⟩:=HZ.out _ (kE xs i hi)
 rw [hr] at HR
 rw [hf] at eY
 rcases jY with h0 | ⟨b,off,rfl,hbb,cC⟩
 · rw [h0] at hi;simp at hi
 have rl:=cC.lo i hi
 have rh:=cC.hi i hi
 have Hd:=af (fun W (g:ae w W)=>CE S E hS.zg (ah xs i).lo (ah xs i).hi e.key W z1 z2 hkey (HE.out.ag g))
 have pN:¬((i:Int)<0):=by omega
 have tj:(i:Int)<(xs.length:Int):=by omega
 have Tp:=af (HU.out e.other.toNat (by omega))
 clear HU hE HE h hA HA hf hr HZ z1 z2 cC
 generalize used e.other.toNat=u at *
 generalize (ah xs i).lo=lo at *
 generalize (ah xs i).hi=hi' at *
 unfold En.agg En.vals at *
 obtain ⟨kind,ai,other,server,ak,seq,key,upto,part,parts,ops,aC,aG,av,ar,aw⟩:=e
 dsimp only at *
 subst k3
 obtain ⟨o,rfl⟩:∃o:Nat,other=(o:Int):=⟨other.toNat,by omega⟩
 have NV:=Tp.out
 rw [Int.toNat_natCast] at NV
 have He:(o:Int)<13:=by omega
 have Tq:o<13:=by omega
 clear Tp o1 o2
 generalize Pl.aL lo hi' key=hs at *
 go_in
 go_wp2_with fail
 refine (eY.out _ ((ae.rf w).alloc _)).mono ?_
 rintro r w1 ⟨rfl,hg⟩
 have hc:=hg.cells.1
 have hz:w.heap.size<w1.heap.size:=by have:=hg.size;simp at this;omega
 have hG:=((ae.rf w).alloc _).trans hg
 go_wp2_with fail
 refine (HR.out _ hG).mono ?_
 rintro r w2 ⟨rfl,aB⟩
 have bD:=hG.trans aB
 have hc2:=aB.cells.1
 have hz2:w.heap.size<w2.heap.size:=ltT hz aB.size
 have HG2:=af bD
 clear hg aB
 go_wp2_with fail
 have CR:∀o',w2.cell? ⟨w.heap.size,o',none⟩=(w.alloc (Obj.cells #[.int .i64 3,.int .i64 ai,.int .i64 o,.int .i64 server,.int .i64 ak,.int .i64 seq,.slice aC ops.length aG,.string key,.int .i64 upto,.int .i64 part,.int .i64 parts,.slice av ar aw] 39)).cell? ⟨w.heap.size,o',none⟩:=fun o'=>(hc2 _ _ hz).trans (hc _ _ (by simp))
 have E2:=cell_regrown (w:=w2) (a:=⟨w.heap.size,2,none⟩) (v:=.int .i64 o) ((CR 2).trans (by simp [go_sem]))
 have E7:=cell_regrown (w:=w2) (a:=⟨w.heap.size,7,none⟩) (v:=.string key) ((CR 7).trans (by simp [go_sem]))
 have C0:=cell_regrown ((bD.cells.1 _ _ hb).trans c0)
 have CU:=cell_regrown ((bD.cells.1 _ _ hb).trans NV)
 have R3:=cell_regrown ((bD.cells.1 _ _ hbb).trans rl)
 have R4:=cell_regrown ((bD.cells.1 _ _ hbb).trans rh)
 have NW:∀d os,ae w (grow (redrawn w2 d) os):=fun d os=>bD.trans (below_regrown w2 d os)
 have CS:∀d os,Calls Tryz.prog 74 #[.agg #[.string lo,.string hi'],.string key] (grow (redrawn w2 d) os) fun e w''=>e=.returned (.bool hs)/\∃p:Regrown,w''=grow (redrawn w2 p.d) p.os:=fun d os=>Calls.regrown_of (Hd.out _ (NW d os))
 have NY:=af NW
 clear hc hc2 CR hG bD HG2 Hd HR eY c0 NV rl rh NW hz hz2
 cases u with
 | true=>
  refine wp_region_quiet_below (by kernel_rfl) (by kernel_rfl) ?_
  repeat (go_big_quiet_step (exact CS _ _))
  refine wpQuiet_nil ?_
  intro _ hw'
  obtain ⟨⟨dq,osq⟩,hw''⟩:=hw'
  subst hw''
  go_wp2_with fail
  go_ret
  exact ⟨bt (by simp),NY.out dq osq⟩
 | false=>
  cases hs with
  | false=>
   refine wp_region_quiet_below (by kernel_rfl) (by kernel_rfl) ?_
   repeat (go_big_quiet_step (exact CS _ _))
   refine wpQuiet_nil ?_
   intro _ hw'
   obtain ⟨⟨dq,osq⟩,hw''⟩:=hw'
   subst hw''
   go_wp2_with fail
   go_ret
   exact ⟨bt (by simp),NY.out dq osq⟩
  | true=>
   refine wp_region_quiet_below (by kernel_rfl) (by kernel_rfl) ?_
   repeat (go_big_quiet_step (exact CS _ _))
   refine wpQuiet_nil ?_
   intro _ hw'
   obtain ⟨⟨dq,osq⟩,hw''⟩:=hw'
   subst hw''
   go_wp2_with fail
   go_ret
   exact ⟨bt (by by_cases q:key.toList=lo.toList<;> simp [q]),NY.out dq osq⟩
end
end
section
open Go.RowKit Go.Maps Go.Sort
attribute [local go_sem] Oper.semAt_some
section
variable {S:Nat->Bool} (hS:fZ S) (E:Nat->Addr) {w:World} (hE:aY S E w) {F:Nat->Prop} {sb:Nat} {xs:List Sh} {used:Nat->Bool} {ne:Nat} {evs:List Value} (h:fh w F sb xs used ne evs) (hx:xs.length<=1000000) (e:En) (hA:bG w e) (hkey:e.key.size<=70368744177664)
include hS hE h hx hA hkey
theorem YT (hr:Pl.bR e=true) (k4:e.kind=4) (i:Nat) (hi:i<xs.length) (hf:Pl.ax xs e.ai=(i:Nat)) (hj:Pl.ax xs e.other= -1):
    Calls Tryz.prog 95 #[.pointer (some ⟨sb,0,none⟩),e.agg] w fun r w'=>r=.returned (.bool false)/\ae w w':=by
 have HE:=af hE
 have HA:=af hA
 have eY:=af (fun W (g:ae w W)=>uG (h.ag g) hx e.ai)
 have kp:=af (fun W (g:ae w W)=>uG (h.ag g) hx e.other)
 have HR:=af (fun W (g:ae w W)=>py hS.key E e W (HE.out.ag g) (HA.out.ag g))
 obtain ⟨v,ve,h⟩:=h
 obtain ⟨a,cap,rfl,jY⟩:=A9 h.row
 have c0:=h.live
 have hb:=h.blt
 have HZ:=af h.sz
 obtain ⟨z1,z2⟩:=HZ.out _ (kE xs i hi)
 rw [hr] at HR
 rw [hf] at eY
 rw [hj] at kp
 rcases jY with h0 | ⟨b,off,rfl,hbb,cC⟩
 · rw [h0] at hi;simp at hi
 have pN:¬((i:Int)<0):=by omega
 have tj:(i:Int)<(xs.length:Int):=by omega
 clear hE HE h hA HA hf hr HZ z1 z2 cC hj
 unfold En.agg En.vals at *
 obtain ⟨kind,ai,other,server,ak,seq,key,upto,part,parts,ops,aC,aG,av,ar,aw⟩:=e
 dsimp only at *
 subst k4
 go_in
 go_wp2_with fail
 refine (eY.out _ ((ae.rf w).alloc _)).mono ?_
 rintro r w1 ⟨rfl,hg⟩
 have hc:=hg.cells.1
 have hz:w.heap.size<w1.heap.size:=by have:=hg.size;simp at this;omega
 have hG:=((ae.rf w).alloc _).trans hg
 go_wp2_with fail
 refine (HR.out _ hG).mono ?_
 rintro r w2 ⟨rfl,aB⟩
 have bD:=hG.trans aB
 have hc2:=aB.cells.1
 have hz2:w.heap.size<w2.heap.size:=ltT hz aB.size
 have HG2:=af bD
 have E2:w2.cell? ⟨w.heap.size,2,none⟩=some (.int .i64 other):=((hc2 _ _ hz).trans (hc _ _ (by simp))).trans (by simp [go_sem])
 have E0:w2.cell? ⟨w.heap.size,0,none⟩=some (.int .i64 4):=((hc2 _ _ hz).trans (hc _ _ (by simp))).trans (by simp [go_sem])
 clear hg aB hc hc2 hG bD
 go_wp2_with fail
 refine (kp.out _ HG2.out).mono ?_
 rintro r w3 ⟨rfl,hg3⟩
 have ey:=af (HG2.out.trans hg3)
 clear hg3 E2 E0
 go_wp2_with fail
 go_ret
 exact ⟨rfl,ey.out⟩
theorem YU (hr:Pl.bR e=true) (k4:e.kind=4) (i:Nat) (hi:i<xs.length) (hf:Pl.ax xs e.ai=(i:Nat)) (j:Nat) (hjl:j<xs.length) (hj:Pl.ax xs e.other=(j:Nat)):
    Calls Tryz.prog 95 #[.pointer (some ⟨sb,0,none⟩),e.agg] w fun r w'=>r=.returned (.bool (decide (Pl.aK (Pl.bf (ah xs i).lo (ah xs i).hi) (Pl.bf (ah xs j).lo (ah xs j).hi) (ah xs i).lo (ah xs i).hi (ah xs j).lo (ah xs j).hi=0)))/\ae w w':=by
 have HE:=af hE
 have HA:=af hA
 have eY:=af (fun W (g:ae w W)=>uG (h.ag g) hx e.ai)
 have kp:=af (fun W (g:ae w W)=>uG (h.ag g) hx e.other)
 have HR:=af (fun W (g:ae w W)=>py hS.key E e W (HE.out.ag g) (HA.out.ag g))
 obtain ⟨v,ve,h⟩:=h
 obtain ⟨a,cap,rfl,jY⟩:=A9 h.row
 have c0:=h.live
 have hb:=h.blt
 have HZ:=af h.sz
 obtain ⟨z1,z2⟩:=HZ.out _ (kE xs i hi)
 rw [hr] at HR
 rw [hf] at eY
 rw [hj] at kp
 rcases jY with h0 | ⟨b,off,rfl,hbb,cC⟩
 · rw [h0] at hi;simp at hi
 have pN:¬((i:Int)<0):=by omega
 have tj:(i:Int)<(xs.length:Int):=by omega
 have NZ:¬((j:Int)<0):=by omega
 have ng:(j:Int)<(xs.length:Int):=by omega
 have rl:=cC.lo i hi
 have rh:=cC.hi i hi
 have ql:=cC.lo j hjl
 have qh:=cC.hi j hjl
 obtain ⟨y1,y2⟩:=HZ.out _ (kE xs j hjl)
 have HJ:=af (fun W (g:ae w W)=>NC S E hS.span (ah xs i).lo (ah xs i).hi (ah xs j).lo (ah xs j).hi W z1 z2 y1 y2 (HE.out.ag g))
 clear hE HE h hA HA hf hr HZ z1 z2 y1 y2 cC hj
 generalize Pl.aK (Pl.bf (ah xs i).lo (ah xs i).hi) (Pl.bf (ah xs j).lo (ah xs j).hi) (ah xs i).lo (ah xs i).hi (ah xs j).lo (ah xs j).hi=jn at *
 generalize Pl.aH (Pl.bf (ah xs i).lo (ah xs i).hi) (Pl.bf (ah xs j).lo (ah xs j).hi) (ah xs i).lo (ah xs i).hi (ah xs j).lo (ah xs j).hi=jv at *
 generalize (ah xs i).lo=lo at *
 generalize (ah xs i).hi=hi' at *
 generalize (ah xs j).lo=pO at *
 generalize (ah xs j).hi=hi2 at *
 unfold Lg at HJ
 obtain ⟨N5,N6⟩:=jv
 have HV:Hid (∃ev,aX E jn=ev/\decide (jn=0)=(match ev with | .nilIface=>true | _=>false)/\(ev=.nilIface\/∃t p,ev=.iface t (.pointer (some p)))):=by
  unfold Hid
  by_cases q:jn=0
  · exact ⟨_,rfl,by rw [q];rfl,by rw [q];exact .inl rfl⟩
  · rw [sX E jn q];exact ⟨_,rfl,by simp [q],.inr ⟨_,_,rfl⟩⟩
 obtain ⟨ev,he,hd,hk⟩:=HV.out
 rw [hd]
 rw [he] at HJ
 clear HV he hd
 have HK:=af hk
 clear hk
 unfold En.agg En.vals at *
 obtain ⟨kind,ai,other,server,ak,seq,key,upto,part,parts,ops,aC,aG,av,ar,aw⟩:=e
 dsimp only at *
 subst k4
 go_in
 go_wp2_with fail
 refine (eY.out _ ((ae.rf w).alloc _)).mono ?_
 rintro r w1 ⟨rfl,hg⟩
 have hc:=hg.cells.1
 have hz:w.heap.size<w1.heap.size:=by have:=hg.size;simp at this;omega
 have hG:=((ae.rf w).alloc _).trans hg
 go_wp2_with fail
 refine (HR.out _ hG).mono ?_
 rintro r w2 ⟨rfl,aB⟩
 have bD:=hG.trans aB
 have hc2:=aB.cells.1
 have hz2:w.heap.size<w2.heap.size:=ltT hz aB.size
 have HG2:=af bD
 have E2:w2.cell? ⟨w.heap.size,2,none⟩=some (.int .i64 other):=((hc2 _ _ hz).trans (hc _ _ (by simp))).trans (by simp [go_sem])
 have E0:w2.cell? ⟨w.heap.size,0,none⟩=some (.int .i64 4):=((hc2 _ _ hz).trans (hc _ _ (by simp))).trans (by simp [go_sem])
 clear hg aB hc hc2 hG bD
 go_wp2_with fail
 refine (kp.out _ HG2.out).mono ?_
 rintro r w3 ⟨rfl,hg3⟩
 have ey:=af (HG2.out.trans hg3)
 clear hg3 E2 E0
 have hb3:sb<w3.heap.size:=ltT hb ey.out.size
 have N7:b<w3.heap.size:=ltT hbb ey.out.size
 have C0:=aU ((ey.out.cells.1 _ _ hb).trans c0)
 have R3:=aU ((ey.out.cells.1 _ _ hbb).trans rl)
 have R4:=aU ((ey.out.cells.1 _ _ hbb).trans rh)
 have Q3:=aU ((ey.out.cells.1 _ _ hbb).trans ql)
 have Q4:=aU ((ey.out.cells.1 _ _ hbb).trans qh)
 clear c0 rl rh ql qh eY kp HR HG2
 go_wp2_with fail
 refine gJ 23 [20,21] (ae w3) ae (fun L f w=>ae w3 w/\(L 20=true->∃x y,yr w3.heap.size w (f 20) x y)) (fun f a=>a.put (some 7) (f 20)) (by kernel_rfl) (by kernel_rfl) (fun _ _=>rfl) ⟨(ae.rf w3).drew,fun h=>(by cases h)⟩ (fun _ _ _ h=>h.1) ae.rf (fun L f u u' h g=>⟨h.1.trans g,fun hl=>(h.2 hl).elim fun x hx=>hx.elim fun y hy=>⟨x,y,hy.ag g⟩⟩) ?_
 repeat (first
  | (refine NM (by rfl) (by rfl) ?_)
  | (refine NP (by rfl) (by rfl) (by rfl) ae.rf (by rfl) ?_;intro K hK;go_big_quiet_op;go_big_quiet_on)
  | (refine NN (by rfl) (by rfl) (by rfl) (by rfl) (fun _=>by kernel_rfl) (fun u hu=>HJ.out u (ey.out.trans hu)) ?_;simp only [Act.put,sA,sB,sC]))
 refine td ⟨⟨bH rfl (fun _ a=>a) (fun _ _=>rfl) (fun _=>rfl) ?_,bH rfl (fun f a=>a.put (some 7) (f 20)) (fun _ _=>rfl) (fun _=>rfl) ?_,trivial⟩,?_⟩
 · intro L f u hJ hL hd
   clear HJ HK C0 R3 R4 Q3 Q4
   go_simp
   exact ⟨hJ.1.alloc _,_,_,by rw [fT];exact yr.dQ hJ.1.size _ _ _⟩
 · intro L f u hJ hL hd
   clear HJ HK C0 R3 R4 Q3 Q4
   obtain ⟨x,y,m,hm,hN,c0,c1,f0,f1⟩:=hJ.2 (hd 20 rfl (by decide))
   rw [hm]
   go_simp
   obtain ⟨g1,g2⟩:=Tm hJ.1 hN c0 c1 f0 f1 (.string N5) (.string N6)
   exact ⟨g1,fun _=>⟨_,_,by rw [gg (by decide),hm];exact g2⟩⟩
 · intro f u hJ
   obtain ⟨hG,hF⟩:=hJ
   have hw:=ey.out.trans hG
   rcases HK.out with rfl | ⟨t,p,rfl⟩
   · go_wp2_with fail
     go_ret
     exact ⟨rfl,hw⟩
   · go_wp2_with fail
     go_ret
     exact ⟨rfl,hw⟩
end
end
section
open Go.RowKit Go.Maps Go.Sort
attribute [local go_sem] Oper.semAt_some
section
variable {S:Nat->Bool} (hS:fZ S) (E:Nat->Addr) {w:World} (hE:aY S E w) {F:Nat->Prop} {sb:Nat} {xs:List Sh} {used:Nat->Bool} {ne:Nat} {evs:List Value} (h:fh w F sb xs used ne evs) (hx:xs.length<=1000000) (e:En) (hA:bG w e) (hkey:e.key.size<=70368744177664)
include hS hE h hx hA hkey
theorem YV (hr:Pl.bR e=true) (k2:e.kind≠2) (k3:e.kind≠3) (k4:e.kind≠4) (i:Nat) (hi:i<xs.length) (hf:Pl.ax xs e.ai=(i:Nat)):
    Calls Tryz.prog 95 #[.pointer (some ⟨sb,0,none⟩),e.agg] w fun r w'=>r=.returned (.bool false)/\ae w w':=by
 have HE:=af hE
 have HA:=af hA
 have eY:=af (fun W (g:ae w W)=>uG (h.ag g) hx e.ai)
 have HR:=af (fun W (g:ae w W)=>py hS.key E e W (HE.out.ag g) (HA.out.ag g))
 rw [hr] at HR
 rw [hf] at eY
 have b2:(e.kind==2)=false:=beq_false_of_ne k2
 have b3:(e.kind==3)=false:=beq_false_of_ne k3
 have b4:(e.kind==4)=false:=beq_false_of_ne k4
 have pN:¬((i:Int)<0):=by omega
 clear hE h hA hf hr hi hx
 unfold En.agg En.vals at *
 go_in
 go_wp2_with fail
 refine (eY.out _ ((ae.rf w).alloc _)).mono ?_
 rintro r w1 ⟨rfl,hg⟩
 have hc:=hg.cells.1
 have hz:w.heap.size<w1.heap.size:=by have:=hg.size;simp at this;omega
 have hG:=((ae.rf w).alloc _).trans hg
 go_wp2_with fail
 refine (HR.out _ hG).mono ?_
 rintro r w2 ⟨rfl,aB⟩
 have bD:=hG.trans aB
 have hc2:=aB.cells.1
 have hz2:w.heap.size<w2.heap.size:=ltT hz aB.size
 clear hg aB
 go_wp2_with fail
 go_ret
 exact ⟨rfl,bD⟩
theorem Lq:Calls Tryz.prog 95 #[.pointer (some ⟨sb,0,none⟩),e.agg] w fun r w'=>r=.returned (.bool (Pl.iq xs used e))/\ae w w':=by
 by_cases hr:Pl.bR e=true
 · rcases Pl.CJ xs e.ai with hf | ⟨i,hi,hf,bP⟩
   · exact NU hS E hE h hx e hA hkey (.inr (.inl hf))
   · have pN:¬((i:Int)<0):=by omega
     have zn:(i:Int).toNat=i:=Int.toNat_natCast i
     by_cases k2:e.kind=2
     · exact NU hS E hE h hx e hA hkey (.inr (.inr k2))
     have e0:Pl.iq xs used e=(if e.kind=3 then !used e.other.toNat && Pl.aL (ah xs i).lo (ah xs i).hi e.key && !decide (e.key.toList=(ah xs i).lo.toList)
         else if e.kind=4 then
          if Pl.ax xs e.other<0 then false
          else decide (Pl.aK (Pl.bf (ah xs i).lo (ah xs i).hi) (Pl.bf (ah xs (Pl.ax xs e.other).toNat).lo (ah xs (Pl.ax xs e.other).toNat).hi) (ah xs i).lo (ah xs i).hi (ah xs (Pl.ax xs e.other).toNat).lo (ah xs (Pl.ax xs e.other).toNat).hi=0)
         else false):=by
      unfold Pl.iq
      rw [zZ0 (by rw [hr];simp),hf,zZ0 pN,zZ0 k2,zn]
     rw [e0]
     by_cases k3:e.kind=3
     · rw [zZ1 k3]
       exact YS hS E hE h hx e hA hkey hr k3 i hi hf
     · rw [zZ0 k3]
       by_cases k4:e.kind=4
       · rw [zZ1 k4]
         rcases Pl.CJ xs e.other with hj | ⟨j,hjl,hj,eA⟩
         · rw [hj,zZ1 (by decide)]
           exact YT hS E hE h hx e hA hkey hr k4 i hi hf hj
         · rw [hj,zZ0 (by omega),Int.toNat_natCast]
           exact YU hS E hE h hx e hA hkey hr k4 i hi hf j hjl hj
       · rw [zZ0 k4]
         exact YV hS E hE h hx e hA hkey hr k2 k3 k4 i hi hf
 · exact NU hS E hE h hx e hA hkey (.inl (by simpa using hr))
end
end
section
open Go.RowKit Go.Maps
attribute [local go_sem] Oper.semAt_some
def qT (w:World) (F:Nat->Prop) (sb:Nat) (ys:List Sh) (used:Nat->Bool) (ne:Nat) (evs:List Value) (w':World):Prop:=aj F w w'/\∃F',fh w' F' sb ys used ne evs/\∀j,F' j->F j\/w.heap.size<=j
section
variable {w u:World} {F:Nat->Prop} {sb:Nat} {v ve:Value} {xs ys:List Sh} {used:Nat->Bool} {ne:Nat} {evs:List Value}
theorem qT.trans {w1 w2:World} {F1:Nat->Prop} {Tu:List Sh} {Bc:Nat->Bool} {Tv:Nat} {Hf:List Value} (o1:aj F w w1) (iT:∀j,F1 j->F j\/w.heap.size<=j) (h:qT w1 F1 sb Tu Bc Tv Hf w2):qT w F sb Tu Bc Tv Hf w2:=by
 obtain ⟨h1,F',h2,h3⟩:=h
 refine ⟨o1.trans h1 iT,F',h2,fun j hj=>?_⟩
 rcases h3 j hj with h | h
 · exact iT j h
 · exact .inr (zQ0 o1.size h)
theorem dW.ir (h:dW w F sb v ve xs used ne evs) (ho:aj (fun j=>some j=v.ownBlock) w u) (hr:u.ownsRow 0 128 5 v ys.length (dC ys)) (hsz:∀c∈ys,c.lo.size<=70368744177664/\c.hi.size<=70368744177664):dW u F sb v ve ys used ne evs:=by
 have n0:¬some sb=v.ownBlock:=fun e=>(h.aJ sb e.symm).2 rfl
 refine ⟨(ho.cell h.blt n0 0).trans h.live,fun i hi=>(ho.cell h.blt n0 _).trans (h.used i hi),(ho.cell h.blt n0 _).trans h.ev,fun i hi=>(ho.frozen h.blt n0 _).trans (h.fz i hi),hr,?_,hsz,h.bg,h.aJ,h.bu,fun j hj=>ltT (h.lt j hj) ho.size,h.nil⟩
 exact iY ho h.iX (fun b hb e=>(h.bu b hb).2.2 e.symm)
theorem Ls (xs:List Sh) (i:Nat) (hi:i<xs.length) (c:Sh):dC (xs.set i c)=(dC xs).take (i*5)++c.vals++(dC xs).drop ((i+1)*5):=by
 rw [List.set_eq_take_append_cons_drop,zZ1 hi,A8,<-Lc,<-Ld,List.append_assoc]
 congr 1
theorem nM (h:dW w F sb v ve xs used ne evs) {b cap:Nat} (hv:v=.slice (some ⟨b,0,none⟩) xs.length cap) (i:Nat) (hi:i<xs.length) (k:Nat) (hk:k<5):w.cell? ⟨b,i*5+k,none⟩=(ah xs i).vals[k]? :=by
 subst hv
 have:=h.row.cellAt (i*5+k) (by omega)
 rw [mH k hk xs i hi] at this
 exact this
theorem dW.uO {b cap:Nat} (h:dW w F sb (.slice (some ⟨b,0,none⟩) xs.length cap) ve xs used ne evs) (i:Nat) (hi:i<xs.length) (lo hi':ByteArray) (n:Int) (hlo:lo.size<=70368744177664) (hhi:hi'.size<=70368744177664):
    dW (((w.setCell ⟨b,i*5+3,none⟩ (.string lo)).setCell ⟨b,i*5+4,none⟩ (.string hi')).setCell ⟨b,i*5+2,none⟩ (.int .i64 n)) F sb (.slice (some ⟨b,0,none⟩) xs.length cap) ve (xs.set i ⟨(ah xs i).id,(ah xs i).server,n,lo,hi'⟩) used ne evs:=by
 obtain ⟨r1,g1⟩:=h.row.stored (i*5+3) (.string lo)
 obtain ⟨r2,g2⟩:=r1.stored (i*5+4) (.string hi')
 obtain ⟨r3,g3⟩:=r2.stored (i*5+2) (.int .i64 n)
 have hlen:(xs.set i ⟨(ah xs i).id,(ah xs i).server,n,lo,hi'⟩).length=xs.length:=List.length_set
 refine h.ir ((aj.of_grownBy (g1.trans (g2.trans g3))).mono fun j hj=> .inl hj) ?_ ?_
 · rw [hlen]
   have e:dC (xs.set i ⟨(ah xs i).id,(ah xs i).server,n,lo,hi'⟩)=(((dC xs).set (i*5+3) (.string lo)).set (i*5+4) (.string hi')).set (i*5+2) (.int .i64 n):=by
    rw [Ls xs i hi]
    have hfl:(dC xs).length=xs.length*5:=sZ xs
    have g0:=mH 0 (by omega) xs i hi
    have g1:=mH 1 (by omega) xs i hi
    generalize ah xs i=c at *
    obtain ⟨c0,c1,c2,c3,c4⟩:=c
    generalize dC xs=L at *
    simp only [Sh.vals,zK4,zK5,zX3] at g0 g1
    apply zK1
    intro j
    rw [List.getElem?_append,List.getElem?_append,List.getElem?_take,List.getElem?_drop,zK2,zK2,zK2]
    simp only [zX8,List.length_take,List.length_set,Sh.vals,List.length_cons,zK3]
    rw [zX4 (show i*5<=L.length by omega)]
    by_cases h1:j<i*5
    · rw [zZ1 (by omega),zZ1 h1,zZ1 h1,zZ0 (by omega),zZ0 (by omega),zZ0 (by omega)]
    · by_cases h2:j=i*5
      · subst h2;rw [zZ1 (by omega),zZ0 h1,zZ0 (by omega),zZ0 (by omega),zZ0 (by omega),g0];simp
      · by_cases h3:j=i*5+1
        · subst h3;rw [zZ1 (by omega),zZ0 h1,zZ0 (by omega),zZ0 (by omega),zZ0 (by omega),g1];simp
        · by_cases h4:j=i*5+2
          · subst h4;rw [zZ1 (by omega),zZ0 h1,zZ1 rfl,zZ1 (by omega)];simp
          · by_cases h5:j=i*5+3
            · subst h5;rw [zZ1 (by omega),zZ0 h1,zZ0 (by omega),zZ0 (by omega),zZ1 rfl,zZ1 (by omega)];simp
            · by_cases h6:j=i*5+4
              · subst h6;rw [zZ1 (by omega),zZ0 h1,zZ0 (by omega),zZ1 rfl,zZ1 (by omega)];simp
              · rw [zZ0 (by omega),zZ0 (by omega),zZ0 (by omega),zZ0 (by omega)]
                congr 1;omega
   rw [e]
   exact r3
 · intro c hc
   rcases List.mem_or_eq_of_mem_set hc with hc | rfl
   · exact h.sz c hc
   · exact ⟨hlo,hhi⟩
theorem dW.CT {b cap:Nat} (h:dW w F sb (.slice (some ⟨b,0,none⟩) xs.length cap) ve xs used ne evs) (i:Nat) (hi:i<xs.length) (n:Int):
    dW (w.setCell ⟨b,i*5+1,none⟩ (.int .i64 n)) F sb (.slice (some ⟨b,0,none⟩) xs.length cap) ve (xs.set i ⟨(ah xs i).id,n,(ah xs i).since,(ah xs i).lo,(ah xs i).hi⟩) used ne evs:=by
 obtain ⟨r1,g1⟩:=h.row.stored (i*5+1) (.int .i64 n)
 have hlen:(xs.set i ⟨(ah xs i).id,n,(ah xs i).since,(ah xs i).lo,(ah xs i).hi⟩).length=xs.length:=List.length_set
 refine h.ir ((aj.of_grownBy g1).mono fun j hj=> .inl hj) ?_ ?_
 · rw [hlen]
   have e:dC (xs.set i ⟨(ah xs i).id,n,(ah xs i).since,(ah xs i).lo,(ah xs i).hi⟩)=(dC xs).set (i*5+1) (.int .i64 n):=by
    rw [Ls xs i hi]
    have hfl:(dC xs).length=xs.length*5:=sZ xs
    have g0:=mH 0 (by omega) xs i hi
    have g2:=mH 2 (by omega) xs i hi
    have g3:=mH 3 (by omega) xs i hi
    have g4:=mH 4 (by omega) xs i hi
    generalize ah xs i=c at *
    obtain ⟨c0,c1,c2,c3,c4⟩:=c
    generalize dC xs=L at *
    simp only [Sh.vals,zK4,zK5,zX3] at g0 g2 g3 g4
    apply zK1
    intro j
    rw [List.getElem?_append,List.getElem?_append,List.getElem?_take,List.getElem?_drop,zK2]
    simp only [zX8,List.length_take,Sh.vals,List.length_cons,zK3]
    rw [zX4 (show i*5<=L.length by omega)]
    by_cases h1:j<i*5
    · rw [zZ1 (by omega),zZ1 h1,zZ1 h1,zZ0 (by omega)]
    · by_cases h2:j=i*5
      · subst h2;rw [zZ1 (by omega),zZ0 h1,zZ0 (by omega),g0];simp
      · by_cases h3:j=i*5+1
        · subst h3;rw [zZ1 (by omega),zZ0 h1,zZ1 rfl,zZ1 (by omega)];simp
        · by_cases h4:j=i*5+2
          · subst h4;rw [zZ1 (by omega),zZ0 h1,zZ0 (by omega),g2];simp
          · by_cases h5:j=i*5+3
            · subst h5;rw [zZ1 (by omega),zZ0 h1,zZ0 (by omega),g3];simp
            · by_cases h6:j=i*5+4
              · subst h6;rw [zZ1 (by omega),zZ0 h1,zZ0 (by omega),g4];simp
              · rw [zZ0 (by omega),zZ0 (by omega)]
                congr 1;omega
   rw [e]
   exact r1
 · intro c hc
   rcases List.mem_or_eq_of_mem_set hc with hc | rfl
   · exact h.sz c hc
   · exact h.sz (ah xs i) (kE xs i hi)
theorem dW.iu (h:dW w F sb v ve xs used ne evs) (ho:aj (fun j=>some j=v.ownBlock) w u) {r:Value} (hform:∀g,r.ownBlock=some g->v.ownBlock=some g\/w.heap.size<=g) (hr:u.ownsRow 0 128 5 r ys.length (dC ys)) (hsz:∀c∈ys,c.lo.size<=70368744177664/\c.hi.size<=70368744177664):
    qT w F sb ys used ne evs (u.setCell ⟨sb,0,none⟩ r):=by
 have n0:¬some sb=v.ownBlock:=fun e=>(h.aJ sb e.symm).2 rfl
 have hb:=h.blt
 have hb2:sb<u.heap.size:=ltT hb ho.size
 have hc:u.cell? ⟨sb,0,none⟩=some v:=(ho.cell hb n0 0).trans h.live
 have o2:=aj.setCell u ⟨sb,0,none⟩ r
 have uP:∀g,r.ownBlock=some g->g≠sb:=by
  intro g hg
  rcases hform g hg with h1 | h1
  · exact (h.aJ g h1).2
  · omega
 have aq:∀g,r.ownBlock=some g->g<u.heap.size:=by
  intro g hg
  rcases hr.2 with ⟨e,_⟩ | ⟨b,c,cur,e,_,hh,_⟩
  · rw [e] at hg;cases hg
  · rw [e] at hg;cases hg;exact (zZ2.1 hh).1
 have nN:∀k,k≠0->(u.setCell ⟨sb,0,none⟩ r).cell? ⟨sb,k,none⟩=u.cell? ⟨sb,k,none⟩:=fun k hk=>World.cell?_setCell_other _ _ _ _ (fun e=>hk (by injection e with _ e2;exact e2.symm))
 refine ⟨(ho.mono fun j hj=> .inl (h.aJ j hj.symm).1).then (o2.mono fun j hj=> .inl (by subst hj;exact h.bg)),fun j=>F j\/r.ownBlock=some j,⟨r,ve,?_⟩,?_⟩
 · refine ⟨by simp [World.cell?_setCell_same,hc],fun i hi=>?_,?_,fun i hi=>?_,?_,?_,hsz,.inl h.bg,fun g hg=>⟨.inr hg,uP g hg⟩,fun g hg=>?_,?_,h.nil⟩
   · rw [nN _ (by omega)];exact (ho.cell hb n0 _).trans (h.used i hi)
   · rw [nN _ (by omega)];exact (ho.cell hb n0 _).trans h.ev
   · rw [World.frozen?_setCell];exact (ho.frozen hb n0 _).trans (h.fz i hi)
   · exact iY o2 hr (fun b hb e=>uP b hb e)
   · have he:=iY ho h.iX (fun b hb e=>(h.bu b hb).2.2 e.symm)
     exact iY o2 he (fun b hb e=>(h.bu b hb).2.1 e)
   · obtain ⟨h1,h2,h3⟩:=h.bu g hg
     refine ⟨.inl h1,h2,fun e=>?_⟩
     rcases hform g e with h4 | h4
     · exact h3 h4
     · have:=h.lt g h1;omega
   · intro j hj
     rcases hj with hj | hj
     · exact ltT (h.lt j hj) (zQ0 ho.size o2.size)
     · exact ltT (aq j hj) o2.size
 · intro j hj
   rcases hj with hj | hj
   · exact .inl hj
   · rcases hform j hj with h1 | h1
     · exact .inl (h.aJ j h1).1
     · exact .inr h1
theorem dW.kR (h:dW w F sb v ve xs used ne evs) (k:Nat) (hk:k<13):dW (w.setCell ⟨sb,1+k,none⟩ (.bool true)) F sb v ve xs (fun j=>if j=k then true else used j) ne evs:=by
 have ho:=aj.setCell w ⟨sb,1+k,none⟩ (.bool true)
 have nN:∀o,o≠1+k->(w.setCell ⟨sb,1+k,none⟩ (.bool true)).cell? ⟨sb,o,none⟩=w.cell? ⟨sb,o,none⟩:=fun o hne=>World.cell?_setCell_other _ _ _ _ (fun e=>hne (by injection e with _ e2;exact e2.symm))
 refine ⟨by rw [nN _ (by omega)];exact h.live,fun i hi=>?_,by rw [nN _ (by omega)];exact h.ev,fun i hi=>by rw [World.frozen?_setCell];exact h.fz i hi,iY ho h.row (fun b hb e=>(h.aJ b hb).2 e),iY ho h.iX (fun b hb e=>(h.bu b hb).2.1 e),h.sz,h.bg,h.aJ,h.bu,fun j hj=>ltT (h.lt j hj) ho.size,h.nil⟩
 by_cases hik:i=k
 · subst hik
   rw [zZ1 rfl]
   have:=h.used i hi
   simp [World.cell?_setCell_same,this]
 · rw [zZ0 hik,nN _ (by omega)]
   exact h.used i hi
end
end
section
open Go.RowKit Go.Maps
attribute [local go_sem] Oper.semAt_some aT
namespace Pl
def iU (xs:List Sh) (i:Nat) (key:ByteArray) (other server at':Int):List Sh:=
 xs.take i++[⟨(ah xs i).id,(ah xs i).server,at'+1,(ah xs i).lo,key⟩,⟨other,server,at'+1,key,(ah xs i).hi⟩]++xs.drop (i+1)
theorem N8 (xs:List Sh) (i:Nat) (hi:i<xs.length) (key:ByteArray) (other server at':Int):
    iU xs i key other server at'=(xs.set i ⟨(ah xs i).id,(ah xs i).server,at'+1,(ah xs i).lo,key⟩).take (i+1)++[⟨other,server,at'+1,key,(ah xs i).hi⟩]++(xs.set i ⟨(ah xs i).id,(ah xs i).server,at'+1,(ah xs i).lo,key⟩).drop (i+1):=by
 unfold iU
 rw [List.set_eq_take_append_cons_drop,zZ1 hi]
 have e:(xs.take i).length=i:=by rw [List.length_take];omega
 generalize xs.take i=A at *
 generalize xs.drop (i+1)=B
 have e1:i+1 - i=1:=by omega
 have e2:A.take (i+1)=A:=zQ7 (by omega)
 have e3:A.drop (i+1)=[]:=zJ5 (by omega)
 rw [List.take_append,List.drop_append,e,e1,e2,e3]
 simp
theorem Lt (xs:List Sh) (i:Nat) (hi:i<xs.length) (key:ByteArray) (other server at':Int):(iU xs i key other server at').length=xs.length+1:=by
 unfold iU
 simp
 omega
def pP (used:Nat->Bool) (k:Nat) (j:Nat):Bool:=if j=k then true else used j
end Pl
section
variable {S:Nat->Bool} (hS:fZ S) (E:Nat->Addr) {w:World} (hE:aY S E w) {F:Nat->Prop} {sb:Nat} {xs:List Sh} {used:Nat->Bool} {ne:Nat} {evs:List Value} (h:fh w F sb xs used ne evs) (hx:xs.length<=1000) (e:En) (hkey:e.key.size<=70368744177664)
include hS hE h hx hkey
theorem YW (at':Int) (ha0:0<=at') (ha1:at'<1000000) (i:Nat) (hi:i<xs.length) (hf:Pl.ax xs e.ai=(i:Nat)) (o1:1<=e.other) (o2:e.other<=12) (hcut:Pl.cU (Pl.bf (ah xs i).lo (ah xs i).hi) (Pl.aF e.key) (Pl.aL (ah xs i).lo (ah xs i).hi e.key) (ah xs i).lo e.key=0):
    Calls Tryz.prog 97 #[.pointer (some ⟨sb,0,none⟩),e.agg,.int .i64 at'] w fun r w'=>r=.returned (.tuple #[])/\qT w F sb (Pl.iU xs i e.key e.other e.server at') (Pl.pP used e.other.toNat) ne evs w':=by
 have HE:=af hE
 have eY:=af (fun W (g:ae w W)=>uG (h.ag g) (by omega:xs.length<=1000000) e.ai)
 obtain ⟨v,ve,h⟩:=h
 obtain ⟨b,cap,rfl,_,hbb⟩:=h.row.form (by omega:0<xs.length)
 have c0:=h.live
 have hb:=h.blt
 have lW:b≠sb:=(h.aJ b rfl).2
 obtain ⟨z1,z2⟩:=h.sz _ (kE xs i hi)
 rw [hf] at eY
 have pN:¬((i:Int)<0):=by omega
 have tj:(i:Int)<(xs.length:Int):=by omega
 have rl:=nM h rfl i hi 3 (by omega)
 have rh:=nM h rfl i hi 4 (by omega)
 simp only [Sh.vals,zK4,zK5] at rl rh
 have HC:=af (fun W (g:ae w W)=>Ta S E hS.span (ah xs i).lo (ah xs i).hi e.key W z1 z2 hkey (HE.out.ag g))
 rw [hcut] at HC
 unfold K9 at HC
 simp only [Pl.eJ,if_true,ue] at HC
 have HS:=af h
 have HI:=af hi
 clear hE HE hf hcut z1 z2 h hi
 unfold En.agg En.vals at *
 obtain ⟨kind,ai,other,server,ak,seq,key,upto,part,parts,ops,aC,aG,av,ar,aw⟩:=e
 dsimp only at *
 obtain ⟨on,rfl⟩:∃on:Nat,other=(on:Int):=⟨other.toNat,by omega⟩
 have YX:(on:Int)<13:=by omega
 have Bd:on<13:=by omega
 rw [Int.toNat_natCast]
 generalize hlo:(ah xs i).lo=lo at *
 generalize hhi:(ah xs i).hi=hi' at *
 have Lu:=af hlo
 have Lv:=af hhi
 clear hlo hhi
 go_in
 go_wp2_with fail
 refine (eY.out _ ((ae.rf w).alloc _)).mono ?_
 rintro r w1 ⟨rfl,hg⟩
 have hc:=hg.cells.1
 have hz:w.heap.size<w1.heap.size:=by have:=hg.size;simp at this;omega
 have HG:=af (((ae.rf w).alloc _).trans hg)
 have E7:w1.cell? ⟨w.heap.size,7,none⟩=some (.string key):=(hc _ _ (by simp)).trans (by simp [go_sem])
 have E2:w1.cell? ⟨w.heap.size,2,none⟩=some (.int .i64 on):=(hc _ _ (by simp)).trans (by simp [go_sem])
 have E3:w1.cell? ⟨w.heap.size,3,none⟩=some (.int .i64 server):=(hc _ _ (by simp)).trans (by simp [go_sem])
 have hb1:sb<w1.heap.size:=ltT hb HG.out.size
 have CV:b<w1.heap.size:=ltT hbb HG.out.size
 have C0:=aU ((HG.out.cells.1 _ _ hb).trans c0)
 have R3:=aU ((HG.out.cells.1 _ _ hbb).trans rl)
 have R4:=aU ((HG.out.cells.1 _ _ hbb).trans rh)
 have D7:=aU E7
 clear hg hc rl rh c0 eY
 go_wp2_with fail
 -- low, high, err := span.Cut(..)
 refine gJ 20 [15,16,17,18] (ae w1) ae (JV [⟨15,17,[.string lo,.string key]⟩,⟨16,18,[.string key,.string hi']⟩] w1) (fun f a=>(a.put (some 7) (f 15)).put (some 8) (f 16)) (by kernel_rfl) (by kernel_rfl) (fun _ _=>rfl) (JV.start _ w1 _) (fun _ _ _ h=>h.ag) ae.rf (fun _ _ _ _ h g=>h.more g) ?_
 repeat (first
  | refine gy ?_
  | (refine gB ?_;intro K hK;go_big_quiet_op;go_big_quiet_on)
  | (refine pz (fun _=>by kernel_rfl) (fun u hu=>HC.out u (HG.out.trans hu)) ?_;simp only [Act.put,sA,sB,sC])
  | (refine gz ?_;simp only [Act.put,sA,sB,sC]))
 refine td ⟨⟨bH rfl (fun _ a=>a) (fun _ _=>rfl) (fun _=>rfl) ?_,bH rfl (fun _ a=>a) (fun _ _=>rfl) (fun _=>rfl) ?_,bH rfl (fun f a=>(a.put (some 7) (f 15)).put (some 8) (f 16)) (fun _ _=>rfl) (fun _=>rfl) ?_,bH rfl (fun f a=>(a.put (some 7) (f 15)).put (some 8) (f 16)) (fun _ _=>rfl) (fun _=>rfl) ?_,trivial⟩,?_⟩
 · intro L f u hJ hL hd
   clear HC C0 R3 R4 D7
   go_simp
   exact hJ.alloc (by rfl) (V:=⟨15,17,[.string lo,.string key]⟩) (by simp) hL [.string ⟨#[]⟩,.string ⟨#[]⟩] rfl _
 · intro L f u hJ hL hd
   clear HC C0 R3 R4 D7
   go_simp
   exact hJ.alloc (by rfl) (V:=⟨16,18,[.string key,.string hi']⟩) (by simp) hL [.string ⟨#[]⟩,.string ⟨#[]⟩] rfl _
 · intro L f u hJ hL hd
   clear HC C0 R3 R4 D7
   obtain ⟨m,x,y,hm,k0,k1,f0,f1⟩:=hJ.two (V:=⟨15,17,[.string lo,.string key]⟩) (by simp) (hd 15 rfl (by decide)) rfl
   dsimp only at hm
   rw [hm]
   go_simp
   exact hJ.store (by rfl) (V:=⟨15,17,[.string lo,.string key]⟩) (by simp) (hd 15 rfl (by decide)) hm
 · intro L f u hJ hL hd
   clear HC C0 R3 R4 D7
   obtain ⟨m,x,y,hm,k0,k1,f0,f1⟩:=hJ.two (V:=⟨16,18,[.string key,.string hi']⟩) (by simp) (hd 16 rfl (by decide)) rfl
   dsimp only at hm
   rw [hm]
   go_simp
   exact hJ.store (by rfl) (V:=⟨16,18,[.string key,.string hi']⟩) (by simp) (hd 16 rfl (by decide)) hm
 · intro f u hJ
   clear HC C0 R3 R4 D7
   have fU:=HG.out.trans hJ.ag
   obtain ⟨m7,q7,n7,l7,a0,a1,_,_⟩:=(hJ.full (V:=⟨15,17,[.string lo,.string key]⟩) (by simp) rfl).two
   obtain ⟨m8,q8,n8,l8,b0,b1,_,_⟩:=(hJ.full (V:=⟨16,18,[.string key,.string hi']⟩) (by simp) rfl).two
   dsimp only at q7 q8
   have Tw:=(hJ.ag.cells.1 _ _ hz).trans E2
   have Tx:=(hJ.ag.cells.1 _ _ hz).trans E3
   have uQ:w.heap.size<u.heap.size:=ltT hz hJ.ag.size
   have ni:=af fU
   clear hJ HG fU E2 E3 E7
   rw [q7,q8]
   clear q7 q8
   go_wp2_with fail
   -- m.live[i].Span, m.live[i].Since = low, at+1
   have eT:=af (HS.out.ag ni.out)
   have CW:sb<u.heap.size:=ltT hb ni.out.size
   have Lx:b<u.heap.size:=ltT hbb ni.out.size
   have uR:b≠m7:=by omega
   have qU:b≠m8:=by omega
   have C0:=aV (S:=fun j=>j=b) eT.out.live (Ne.symm lW)
   have A0:=aV (S:=fun j=>j=b) a0 (Ne.symm uR)
   have A1:=aV (S:=fun j=>j=b) a1 (Ne.symm uR)
   have k2:=nM eT.out rfl i HI.out 2 (by omega)
   have k3:=nM eT.out rfl i HI.out 3 (by omega)
   have k4:=nM eT.out rfl i HI.out 4 (by omega)
   simp only [Sh.vals,zK4,zK5] at k2 k3 k4
   have f2:u.frozen? ⟨b,i*5+2,none⟩=false:=eT.out.row.frozenAt _
   have f3:u.frozen? ⟨b,i*5+3,none⟩=false:=eT.out.row.frozenAt _
   have f4:u.frozen? ⟨b,i*5+4,none⟩=false:=eT.out.row.frozenAt _
   have hw1:IntKind.i64.wrap (at'+1)=at'+1:=IntWalk.i64_in _ (by omega)
   refine gJ 16 [15] (aj (fun j=>j=b) u) Eq (fun L _ x=>x=if L 15=true then (u.drew.setCell ⟨b,i*5+3,none⟩ (.string lo)).setCell ⟨b,i*5+4,none⟩ (.string key) else u.drew) (fun _ a=>a) (by kernel_rfl) (by kernel_rfl) (fun _ _=>rfl) rfl ?_ (fun _=>rfl) (fun _ _ _ _ h g=>g▸h) ?_
   · rintro L f x rfl
     split
     · exact ((aj.refl _ u).drew.then (aj.setCell _ ⟨b,i*5+3,none⟩ _)).then (aj.setCell _ ⟨b,i*5+4,none⟩ _)
     · exact (aj.refl _ u).drew
   repeat (first
    | refine gy ?_
    | (refine gB ?_;intro K hK;go_big_quiet_op;go_big_quiet_on)
    | (refine gz ?_;simp only [Act.put,sA,sB,sC]))
   refine jX (by rfl) ⟨⟨bH rfl (fun _ a=>a) (fun _ _=>rfl) (fun _=>rfl) ?_,trivial⟩,?_⟩
   · rintro L f x rfl hL hd
     rw [hL]
     clear C0 A0 A1 eT
     go_simp
   rintro f x hx'
   have hx2:x=(u.drew.setCell ⟨b,i*5+3,none⟩ (.string lo)).setCell ⟨b,i*5+4,none⟩ (.string key):=hx'
   clear hx' A0 A1
   have C1:=C0 ⟨x,by rw [hx2];exact ((aj.refl _ u).drew.then (aj.setCell _ ⟨b,i*5+3,none⟩ _)).then (aj.setCell _ ⟨b,i*5+4,none⟩ _)⟩
   dsimp only at C1
   have K2:x.cell? ⟨b,i*5+2,none⟩=some (.int .i64 (ah xs i).since):=by
    rw [hx2,World.cell?_setCell_other _ _ _ _ (by intro e;injection e with _ e;omega),World.cell?_setCell_other _ _ _ _ (by intro e;injection e with _ e;omega)]
    exact k2
   have F2:x.frozen? ⟨b,i*5+2,none⟩=false:=by
    rw [hx2,World.frozen?_setCell,World.frozen?_setCell];exact f2
   have HX:=af hx2
   clear C0 k2 k3 k4 f2 f3 f4 hx2
   dsimp only [List.drop]
   go_wp2_with fail
   -- m.live = slices.Insert(..)
   have HY:Hid (∃y,y=x.setCell ⟨b,i*5+2,none⟩ (.int .i64 (at'+1))/\dW y F sb (.slice (some ⟨b,0,none⟩) xs.length cap) ve (xs.set i ⟨(ah xs i).id,(ah xs i).server,at'+1,lo,key⟩) used ne evs/\aj (fun j=>j=b) u y):=by
    refine ⟨_,rfl,?_,?_⟩
    · rw [HX.out]
      exact (eT.out.ag (ae.rf u).drew).uO i HI.out lo key (at'+1) (by rw [<-Lu.out];exact (HS.out.sz _ (kE xs i HI.out)).1) hkey
    · rw [HX.out]
      exact (((aj.refl _ u).drew.then (aj.setCell _ ⟨b,i*5+3,none⟩ _)).then (aj.setCell _ ⟨b,i*5+4,none⟩ _)).then (aj.setCell _ ⟨b,i*5+2,none⟩ _)
   obtain ⟨y,hy,qV,iw⟩:=HY.out
   rw [<-hy]
   have kq:=af qV
   have CX:=af iw
   have bz:w.heap.size≠b:=by omega
   have Hg:w.heap.size≠sb:=by omega
   have C2:=aV (S:=fun j=>j=b) qV.live (Ne.symm lW)
   have B0:=aV (S:=fun j=>j=b) ((iw.cell l8 (Ne.symm qU) 0).trans b0) (Ne.symm qU)
   have B1:=aV (S:=fun j=>j=b) ((iw.cell l8 (Ne.symm qU) 1).trans b1) (Ne.symm qU)
   have Hh:=(iw.cell uQ bz 2).trans Tw
   have LA:=(iw.cell uQ bz 3).trans Tx
   have G2:=aV (S:=fun j=>j=b) Hh bz
   have G3:=aV (S:=fun j=>j=b) LA bz
   have uS:w.heap.size<y.heap.size:=ltT uQ iw.size
   have uT:sb<y.heap.size:=ltT CW iw.size
   have hby:b<y.heap.size:=ltT Lx iw.size
   clear hy HY qV iw HX K2 F2 C1 Tw Tx eT a0 a1 b0 b1
   have hw2:IntKind.i64.wrap ((i:Int)+1)=(i:Int)+1:=IntWalk.i64_in _ (by omega)
   have zo:=af (fun W (g:ae y W) vb hvb hne=>uA W 0 (some ⟨b,0,none⟩) xs.length cap (dC (xs.set i ⟨(ah xs i).id,(ah xs i).server,at'+1,lo,key⟩)) (by have:=(kq.out.ag g).row;rw [List.length_set] at this;exact this) (Nat.zero_le _) (Le _) (i+1) HI.out vb (Sh.vals ⟨on,server,at'+1,key,hi'⟩) 1 hvb rfl (by intro u hu;simp [Sh.vals] at hu;rcases hu with rfl | rfl | rfl | rfl | rfl<;> rfl) (by omega) hne)
   obtain ⟨RW,tu⟩:∃RW,RW=(dC (xs.set i ⟨(ah xs i).id,(ah xs i).server,at'+1,lo,key⟩)).take ((i+1)*5)++Sh.vals ⟨on,server,at'+1,key,hi'⟩++(dC (xs.set i ⟨(ah xs i).id,(ah xs i).server,at'+1,lo,key⟩)).drop ((i+1)*5):=⟨_,rfl⟩
   rw [<-tu] at zo
   have CY:=af tu
   clear tu
   refine gJ 17 [15,16] (aj (fun j=>j=b) y) Eq (fun L f x=>(L 16=true->L 15=true)/\(L 16=false->ae y x)/\(L 15=true->L 16=false->∃vb,f 15=.slice (some ⟨vb,0,none⟩) 1 1/\y.heap.size<=vb/\x.heap[vb]? =some (.cells (Sh.vals ⟨on,server,at'+1,key,hi'⟩).toArray 128 (0,0)))/\
    (L 16=true->∃x0,ae y x0/\CG x0 x (.slice (some ⟨b,0,none⟩) xs.length cap) (f 16) 0 (xs.length+1) RW)) (fun f a=>(a.put (some 63) (f 15)).put (some 64) (f 16)) (by kernel_rfl) (by kernel_rfl) (fun _ _=>rfl) ⟨fun h=>(by cases h),fun _=>(ae.rf y).drew,fun h=>(by cases h),fun h=>(by cases h)⟩ ?_ (fun _=>rfl) (fun _ _ _ _ h g=>g▸h) ?_
   · rintro L f x ⟨_,h1,_,h3⟩
     cases hL:L 16 with
     | false=>exact (h1 hL).only _
     | true=>
      obtain ⟨x0,g0,hi0⟩:=h3 hL
      exact (g0.only _).then ((aj.of_grownBy hi0.grown).mono fun j hj=> .inl (Option.some.inj hj))
   repeat (first
    | refine gy ?_
    | (refine gB ?_;intro K hK;go_big_quiet_op;go_big_quiet_on)
    | (refine gz ?_;simp only [Act.put,sA,sB,sC]))
   refine jX (by rfl) ⟨⟨bH rfl (fun _ a=>a) (fun _ _=>rfl) (fun _=>rfl) ?_,bH rfl (fun f a=>a.put (some 63) (f 15)) (fun _ _=>rfl) (fun _=>rfl) ?_,trivial⟩,?_⟩
   · rintro L f x' ⟨h0,h1,h2,h3⟩ hL hd
     clear C2 B0 B1 G2 G3 Hh LA
     have lX:L 16=false:=by
      cases h:L 16 with
      | false=>rfl
      | true=>rw [h0 h] at hL;cases hL
     have h1':=af (h1 lX)
     clear h0 h1 h2 h3 hd
     go_simp
     refine ⟨h1'.out.alloc _,x'.heap.size,fT _ _ _,h1'.out.size,?_⟩
     show (x'.heap.push _)[x'.heap.size]? =_
     simp [Sh.vals]
   · rintro L f x' ⟨h0,h1,h2,h3⟩ hL hd
     clear C2 B0 B1 G2 G3 Hh LA
     obtain ⟨vb,CZ,tv,hvb⟩:=h2 (hd 15 rfl (by decide)) hL
     have h1':=af (h1 hL)
     have N9:=af hvb
     have Oa:=af (hd 15 rfl (by decide))
     clear h0 h1 h2 h3 hd hvb
     rw [CZ]
     go_simp
     refine (zo.out x' h1'.out vb N9.out (fun e=>by have e2:b=vb:=Option.some.inj e;omega)).mono ?_
     rintro r w'' ⟨v,rfl,kS⟩
     exact ⟨v,rfl,by rw [Oa.out],x',h1'.out,by rw [fT];exact kS⟩
   rintro f x' ⟨_,_,_,h3⟩
   obtain ⟨x0,g0,kS⟩:=h3 rfl
   have ho1:aj (fun j=>j=b) y x':=(g0.only _).then ((aj.of_grownBy kS.grown).mono fun j hj=> .inl (Option.some.inj hj))
   have HT:Hid (∀r,f 16=r->qT y F sb (Pl.iU xs i key on server at') used ne evs (x'.setCell ⟨sb,0,none⟩ r)):=by
    rintro r rfl
    refine kq.out.iu (ho1.mono fun j hj=> .inl (congrArg some hj)) ?_ ?_ ?_
    · obtain ⟨g,c,hr,hg⟩:=kS.form
      intro g' hg'
      rw [hr] at hg'
      cases hg'
      rcases hg with hg | hg
      · exact .inl hg
      · exact .inr (zQ0 g0.size hg)
    · have:=kS.row
      rw [CY.out,<-Lc,<-Ld,<-Tb,<-A8,<-A8] at this
      rw [Pl.Lt xs i HI.out,Pl.N8 xs i HI.out,Lu.out,Lv.out]
      exact this
    · intro c hc
      rw [Pl.N8 xs i HI.out,Lu.out,Lv.out] at hc
      rcases List.mem_append.1 hc with hc | hc
      · rcases List.mem_append.1 hc with hc | hc
        · exact kq.out.sz c (zX6 hc)
        · rw [List.mem_singleton] at hc
          subst hc
          exact ⟨hkey,by rw [<-Lv.out];exact (HS.out.sz _ (kE xs i HI.out)).2⟩
      · exact kq.out.sz c (zX7 hc)
   have LB:=af ho1
   have C3:x'.cell? ⟨sb,0,none⟩=some (.slice (some ⟨b,0,none⟩) xs.length cap):=(ho1.cell uT (Ne.symm lW) 0).trans kq.out.live
   have F3:x'.frozen? ⟨sb,0,none⟩=false:=(ho1.frozen uT (Ne.symm lW) 0).trans (kq.out.fz 0 (by omega))
   have Ty:=(ho1.cell uS bz 2).trans Hh
   have rT:w.heap.size<x'.heap.size:=ltT uS ho1.size
   obtain ⟨g3,c3,Ob,_⟩:=kS.form
   have tz:=af (HT.out _ Ob)
   rw [Ob]
   clear kS ho1 HT C2 B0 B1 G2 G3 Hh LA Ob zo h3
   dsimp only [List.drop]
   go_wp2_with fail
   -- m.used[e.Hi] = true
   obtain ⟨z,hzz⟩:∃z,z=x'.setCell ⟨sb,0,none⟩ (.slice (some ⟨g3,0,none⟩) (xs.length+1) c3):=⟨_,rfl⟩
   rw [<-hzz]
   rw [<-hzz] at tz
   have YY:z.cell? ⟨w.heap.size,2,none⟩=some (.int .i64 on):=by
    rw [hzz,World.cell?_setCell_other _ _ _ _ (by intro e;injection e with e _;exact Hg e.symm)]
    exact Ty
   have hzl:w.heap.size<z.heap.size:=by rw [hzz];simpa using rT
   have Oc:=af (show aj (fun j=>j=b\/j=sb) y z from by
    rw [hzz]
    exact (LB.out.mono fun j hj=> .inl (.inl hj)).then ((aj.setCell x' ⟨sb,0,none⟩ _).mono fun j hj=> .inl (.inr hj)))
   obtain ⟨o4,F',pQ,hF'⟩:=tz.out
   obtain ⟨v',ve',pQ⟩:=pQ
   have U0:=pQ.used on Bd
   have FU:=pQ.fz (1+on) (by omega)
   have Be:=af pQ
   have Tz:=af hF'
   have YZ:=af o4
   have W2:=aU YY
   clear hzz pQ hF' o4 tz C3 F3 Ty
   refine gJ 5 [] (ae z) Eq (fun _ _ q=>q=z.drew) (fun _ a=>a) (by kernel_rfl) (by kernel_rfl) (fun _ _=>rfl) rfl (fun _ _ q h=>by rw [h];exact (ae.rf z).drew) (fun _=>rfl) (fun _ _ _ _ h g=>g▸h) ?_
   repeat (first
    | refine gy ?_
    | (refine gB ?_;intro K hK;go_big_quiet_op;go_big_quiet_on)
    | (refine gz ?_;simp only [Act.put,sA,sB,sC]))
   refine jX (by rfl) ⟨trivial,?_⟩
   rintro f2 q rfl
   clear W2
   dsimp only [List.drop]
   go_wp2_with fail
   go_end0
   refine ⟨rfl,?_⟩
   have hfin:=(Be.out.ag (ae.rf z).drew).kR on Bd
   have o0:aj F w y:=(ni.out.only F).then (CX.out.mono fun j hj=> .inl (by subst hj;exact (HS.out.aJ j rfl).1))
   have o5:aj F w z:=o0.then YZ.out
   refine ⟨o5.trans (((aj.refl F' z).drew).then ((aj.setCell _ ⟨sb,1+on,none⟩ _).mono fun j hj=> .inl (by subst hj;exact Be.out.bg))) ?_,F',⟨_,_,hfin⟩,?_⟩
   · intro j hj
     rcases Tz.out j hj with h | h
     · exact .inl h
     · exact .inr (zQ0 o0.size h)
   · intro j hj
     rcases Tz.out j hj with h | h
     · exact .inl h
     · exact .inr (zQ0 o0.size h)
end
end
section
open Go.RowKit Go.Maps
attribute [local go_sem] Oper.semAt_some aT
namespace Pl
def ja (xs:List Sh) (i j:Nat) (v:ByteArray×ByteArray) (at':Int):List Sh:=
 (xs.set i ⟨(ah xs i).id,(ah xs i).server,at'+1,v.1,v.2⟩).take j++(xs.set i ⟨(ah xs i).id,(ah xs i).server,at'+1,v.1,v.2⟩).drop (j+1)
theorem LC (xs:List Sh) (i j:Nat) (hj:j<xs.length) (v:ByteArray×ByteArray) (at':Int):(ja xs i j v at').length=xs.length - 1:=by
 unfold ja
 simp
 omega
theorem TA (ra rb:Bool) (a b c d:ByteArray) (B:Nat) (h1:a.size<=B) (h2:b.size<=B) (h3:c.size<=B) (h4:d.size<=B):(aH ra rb a b c d).1.size<=B/\(aH ra rb a b c d).2.size<=B:=by
 have h0:(⟨#[]⟩:ByteArray).size<=B:=Nat.zero_le _
 unfold aH
 split
 · exact ⟨h0,h0⟩
 · split
   · exact ⟨h1,h4⟩
   · split
     · exact ⟨h3,h2⟩
     · exact ⟨h0,h0⟩
end Pl
section
variable {S:Nat->Bool} (hS:fZ S) (E:Nat->Addr) {w:World} (hE:aY S E w) {F:Nat->Prop} {sb:Nat} {xs:List Sh} {used:Nat->Bool} {ne:Nat} {evs:List Value} (h:fh w F sb xs used ne evs) (hx:xs.length<=1000) (e:En)
include hS hE h hx
theorem Y0 (at':Int) (ha0:0<=at') (ha1:at'<1000000) (i:Nat) (hi:i<xs.length) (hf:Pl.ax xs e.ai=(i:Nat)) (j:Nat) (hj:j<xs.length) (kF:Pl.ax xs e.other=(j:Nat)) (nZ:Pl.aK (Pl.bf (ah xs i).lo (ah xs i).hi) (Pl.bf (ah xs j).lo (ah xs j).hi) (ah xs i).lo (ah xs i).hi (ah xs j).lo (ah xs j).hi=0):
    Calls Tryz.prog 98 #[.pointer (some ⟨sb,0,none⟩),e.agg,.int .i64 at'] w fun r w'=>r=.returned (.tuple #[])/\qT w F sb (Pl.ja xs i j (Pl.aH (Pl.bf (ah xs i).lo (ah xs i).hi) (Pl.bf (ah xs j).lo (ah xs j).hi) (ah xs i).lo (ah xs i).hi (ah xs j).lo (ah xs j).hi) at') used ne evs w':=by
 have HE:=af hE
 have eY:=af (fun W (g:ae w W)=>uG (h.ag g) (by omega:xs.length<=1000000) e.ai)
 have kp:=af (fun W (g:ae w W)=>uG (h.ag g) (by omega:xs.length<=1000000) e.other)
 obtain ⟨v,ve,h⟩:=h
 obtain ⟨b,cap,rfl,_,hbb⟩:=h.row.form (by omega:0<xs.length)
 have c0:=h.live
 have hb:=h.blt
 have lW:b≠sb:=(h.aJ b rfl).2
 obtain ⟨z1,z2⟩:=h.sz _ (kE xs i hi)
 obtain ⟨y1,y2⟩:=h.sz _ (kE xs j hj)
 rw [hf] at eY
 rw [kF] at kp
 have pN:¬((i:Int)<0):=by omega
 have tj:(i:Int)<(xs.length:Int):=by omega
 have NZ:¬((j:Int)<0):=by omega
 have ng:(j:Int)<(xs.length:Int):=by omega
 have rl:=nM h rfl i hi 3 (by omega)
 have rh:=nM h rfl i hi 4 (by omega)
 have ql:=nM h rfl j hj 3 (by omega)
 have qh:=nM h rfl j hj 4 (by omega)
 simp only [Sh.vals,zK4,zK5] at rl rh ql qh
 have HC:=af (fun W (g:ae w W)=>NC S E hS.span (ah xs i).lo (ah xs i).hi (ah xs j).lo (ah xs j).hi W z1 z2 y1 y2 (HE.out.ag g))
 rw [nZ] at HC
 unfold Lg at HC
 simp only [ue] at HC
 have Od:=af (Pl.TA (Pl.bf (ah xs i).lo (ah xs i).hi) (Pl.bf (ah xs j).lo (ah xs j).hi) (ah xs i).lo (ah xs i).hi (ah xs j).lo (ah xs j).hi _ z1 z2 y1 y2)
 have HS:=af h
 have HI:=af hi
 have Hj:=af hj
 clear hE HE hf kF nZ z1 z2 y1 y2 h hi hj
 generalize Pl.aH (Pl.bf (ah xs i).lo (ah xs i).hi) (Pl.bf (ah xs j).lo (ah xs j).hi) (ah xs i).lo (ah xs i).hi (ah xs j).lo (ah xs j).hi=jv at *
 obtain ⟨lo,key⟩:=jv
 dsimp only at HC Od
 unfold En.agg En.vals at *
 obtain ⟨kind,ai,other,server,ak,seq,C5,upto,part,parts,ops,aC,aG,av,ar,aw⟩:=e
 dsimp only at *
 generalize (ah xs i).lo=Y1 at *
 generalize (ah xs i).hi=hi' at *
 generalize (ah xs j).lo=pO at *
 generalize (ah xs j).hi=hi2 at *
 go_in
 go_wp2_with fail
 -- i, k := m.find(e.Shard), m.find(e.Hi)
 have E1:=aU (w:=w.alloc (.cells #[.int .i64 kind,.int .i64 ai,.int .i64 other,.int .i64 server,.int .i64 ak,.int .i64 seq,.slice aC ops.length aG,.string C5,.int .i64 upto,.int .i64 part,.int .i64 parts,.slice av ar aw] 39)) (a:=⟨w.heap.size,1,none⟩) (v:=.int .i64 ai) (by simp [go_sem])
 have E2:=aU (w:=w.alloc (.cells #[.int .i64 kind,.int .i64 ai,.int .i64 other,.int .i64 server,.int .i64 ak,.int .i64 seq,.slice aC ops.length aG,.string C5,.int .i64 upto,.int .i64 part,.int .i64 parts,.slice av ar aw] 39)) (a:=⟨w.heap.size,2,none⟩) (v:=.int .i64 other) (by simp [go_sem])
 have GA:Hid (ae w (w.alloc (.cells #[.int .i64 kind,.int .i64 ai,.int .i64 other,.int .i64 server,.int .i64 ak,.int .i64 seq,.slice aC ops.length aG,.string C5,.int .i64 upto,.int .i64 part,.int .i64 parts,.slice av ar aw] 39))):=(ae.rf w).alloc _
 generalize w.alloc _=wa at *
 refine gJ 7 [] (ae wa) ae (fun _ _ x=>ae wa x) (fun _ a=>a) (by kernel_rfl) (by kernel_rfl) (fun _ _=>rfl) (ae.rf wa).drew (fun _ _ _ h=>h) ae.rf (fun _ _ _ _ h g=>h.trans g) ?_
 repeat (first
  | refine gy ?_
  | (refine gB ?_;intro K hK;go_big_quiet_op;go_big_quiet_on)
  | (refine pz (fun _=>by kernel_rfl) (fun u hu=>eY.out u (GA.out.trans hu)) ?_;simp only [Act.put,sA,sB,sC])
  | (refine gz ?_;simp only [Act.put,sA,sB,sC]))
 refine jX (by rfl) ⟨trivial,?_⟩
 rintro f0 wb hgb
 have Oe:=af (GA.out.trans hgb)
 clear E1 E2 hgb GA
 dsimp only [List.drop]
 go_wp2_with fail
 refine (kp.out wb Oe.out).mono ?_
 rintro r w1 ⟨rfl,hg⟩
 have HG:=af (Oe.out.trans hg)
 have hb1:sb<w1.heap.size:=ltT hb HG.out.size
 have CV:b<w1.heap.size:=ltT hbb HG.out.size
 have C0:=aU ((HG.out.cells.1 _ _ hb).trans c0)
 have R3:=aU ((HG.out.cells.1 _ _ hbb).trans rl)
 have R4:=aU ((HG.out.cells.1 _ _ hbb).trans rh)
 have Q3:=aU ((HG.out.cells.1 _ _ hbb).trans ql)
 have Q4:=aU ((HG.out.cells.1 _ _ hbb).trans qh)
 clear hg rl rh ql qh c0 eY kp Oe
 go_wp2_with fail
 -- both, err := span.Join(..)
 refine gJ 23 [20,21] (ae w1) ae (JV [⟨20,21,[.string lo,.string key]⟩] w1) (fun f a=>a.put (some 8) (f 20)) (by kernel_rfl) (by kernel_rfl) (fun _ _=>rfl) (JV.start _ w1 _) (fun _ _ _ h=>h.ag) ae.rf (fun _ _ _ _ h g=>h.more g) ?_
 repeat (first
  | refine gy ?_
  | (refine gB ?_;intro K hK;go_big_quiet_op;go_big_quiet_on)
  | (refine pz (fun _=>by kernel_rfl) (fun u hu=>HC.out u (HG.out.trans hu)) ?_;simp only [Act.put,sA,sB,sC])
  | (refine gz ?_;simp only [Act.put,sA,sB,sC]))
 refine td ⟨⟨bH rfl (fun _ a=>a) (fun _ _=>rfl) (fun _=>rfl) ?_,bH rfl (fun f a=>a.put (some 8) (f 20)) (fun _ _=>rfl) (fun _=>rfl) ?_,trivial⟩,?_⟩
 · intro L f u hJ hL hd
   clear HC C0 R3 R4 Q3 Q4
   go_simp
   exact hJ.alloc (by rfl) (V:=⟨20,21,[.string lo,.string key]⟩) (by simp) hL [.string ⟨#[]⟩,.string ⟨#[]⟩] rfl _
 · intro L f u hJ hL hd
   clear HC C0 R3 R4 Q3 Q4
   obtain ⟨m,x,y,hm,k0,k1,f0,f1⟩:=hJ.two (V:=⟨20,21,[.string lo,.string key]⟩) (by simp) (hd 20 rfl (by decide)) rfl
   dsimp only at hm
   rw [hm]
   go_simp
   exact hJ.store (by rfl) (V:=⟨20,21,[.string lo,.string key]⟩) (by simp) (hd 20 rfl (by decide)) hm
 · intro f u hJ
   clear HC C0 R3 R4 Q3 Q4
   have fU:=HG.out.trans hJ.ag
   obtain ⟨m7,q7,n7,l7,a0,a1,_,_⟩:=(hJ.full (V:=⟨20,21,[.string lo,.string key]⟩) (by simp) rfl).two
   dsimp only at q7
   have ni:=af fU
   clear hJ HG fU
   rw [q7]
   clear q7
   go_wp2_with fail
   -- m.live[i].Span, m.live[i].Since = low, at+1
   have eT:=af (HS.out.ag ni.out)
   have CW:sb<u.heap.size:=ltT hb ni.out.size
   have Lx:b<u.heap.size:=ltT hbb ni.out.size
   have uR:b≠m7:=by omega
   have C0:=aV (S:=fun j=>j=b) eT.out.live (Ne.symm lW)
   have A0:=aV (S:=fun j=>j=b) a0 (Ne.symm uR)
   have A1:=aV (S:=fun j=>j=b) a1 (Ne.symm uR)
   have k2:=nM eT.out rfl i HI.out 2 (by omega)
   have k3:=nM eT.out rfl i HI.out 3 (by omega)
   have k4:=nM eT.out rfl i HI.out 4 (by omega)
   simp only [Sh.vals,zK4,zK5] at k2 k3 k4
   have f2:u.frozen? ⟨b,i*5+2,none⟩=false:=eT.out.row.frozenAt _
   have f3:u.frozen? ⟨b,i*5+3,none⟩=false:=eT.out.row.frozenAt _
   have f4:u.frozen? ⟨b,i*5+4,none⟩=false:=eT.out.row.frozenAt _
   have hw1:IntKind.i64.wrap (at'+1)=at'+1:=IntWalk.i64_in _ (by omega)
   refine gJ 16 [15] (aj (fun j=>j=b) u) Eq (fun L _ x=>x=if L 15=true then (u.drew.setCell ⟨b,i*5+3,none⟩ (.string lo)).setCell ⟨b,i*5+4,none⟩ (.string key) else u.drew) (fun _ a=>a) (by kernel_rfl) (by kernel_rfl) (fun _ _=>rfl) rfl ?_ (fun _=>rfl) (fun _ _ _ _ h g=>g▸h) ?_
   · rintro L f x rfl
     split
     · exact ((aj.refl _ u).drew.then (aj.setCell _ ⟨b,i*5+3,none⟩ _)).then (aj.setCell _ ⟨b,i*5+4,none⟩ _)
     · exact (aj.refl _ u).drew
   repeat (first
    | refine gy ?_
    | (refine gB ?_;intro K hK;go_big_quiet_op;go_big_quiet_on)
    | (refine gz ?_;simp only [Act.put,sA,sB,sC]))
   refine jX (by rfl) ⟨⟨bH rfl (fun _ a=>a) (fun _ _=>rfl) (fun _=>rfl) ?_,trivial⟩,?_⟩
   · rintro L f x rfl hL hd
     rw [hL]
     clear C0 A0 A1 eT
     go_simp
   rintro f x hx'
   have hx2:x=(u.drew.setCell ⟨b,i*5+3,none⟩ (.string lo)).setCell ⟨b,i*5+4,none⟩ (.string key):=hx'
   clear hx' A0 A1
   have C1:=C0 ⟨x,by rw [hx2];exact ((aj.refl _ u).drew.then (aj.setCell _ ⟨b,i*5+3,none⟩ _)).then (aj.setCell _ ⟨b,i*5+4,none⟩ _)⟩
   dsimp only at C1
   have K2:x.cell? ⟨b,i*5+2,none⟩=some (.int .i64 (ah xs i).since):=by
    rw [hx2,World.cell?_setCell_other _ _ _ _ (by intro e;injection e with _ e;omega),World.cell?_setCell_other _ _ _ _ (by intro e;injection e with _ e;omega)]
    exact k2
   have F2:x.frozen? ⟨b,i*5+2,none⟩=false:=by
    rw [hx2,World.frozen?_setCell,World.frozen?_setCell];exact f2
   have HX:=af hx2
   clear C0 k2 k3 k4 f2 f3 f4 hx2
   dsimp only [List.drop]
   go_wp2_with fail
   have HY:Hid (∃y,y=x.setCell ⟨b,i*5+2,none⟩ (.int .i64 (at'+1))/\dW y F sb (.slice (some ⟨b,0,none⟩) xs.length cap) ve (xs.set i ⟨(ah xs i).id,(ah xs i).server,at'+1,lo,key⟩) used ne evs/\aj (fun j=>j=b) u y):=by
    refine ⟨_,rfl,?_,?_⟩
    · rw [HX.out]
      exact (eT.out.ag (ae.rf u).drew).uO i HI.out lo key (at'+1) Od.out.1 Od.out.2
    · rw [HX.out]
      exact (((aj.refl _ u).drew.then (aj.setCell _ ⟨b,i*5+3,none⟩ _)).then (aj.setCell _ ⟨b,i*5+4,none⟩ _)).then (aj.setCell _ ⟨b,i*5+2,none⟩ _)
   obtain ⟨y,hy,qV,iw⟩:=HY.out
   rw [<-hy]
   have kq:=af qV
   have CX:=af iw
   have C2:=qV.live
   have uT:sb<y.heap.size:=ltT CW iw.size
   clear hy HY qV iw HX K2 F2 C1 eT a0 a1
   have hw2:IntKind.i64.wrap ((j:Int)+1)=(j:Int)+1:=IntWalk.i64_in _ (by omega)
   obtain ⟨q,hq⟩:∃q,xs.length=q+1:=⟨xs.length - 1,by omega⟩
   have HD:=af (uC y 0 q j (some ⟨b,0,none⟩) cap (dC (xs.set i ⟨(ah xs i).id,(ah xs i).server,at'+1,lo,key⟩)) (by have:=kq.out.row;rw [List.length_set,hq] at this;exact this) (Le _) (by have:=Hj.out;omega) (by omega))
   rw [<-hq] at HD
   have HQ:=af hq
   clear hq
   -- m.live = slices.Delete(m.live, k, k+1)
   go_wp2_with fail
   refine HD.out.mono ?_
   rintro r z ⟨rfl,aI,hgr⟩
   have fD:=af aI
   have ho1:aj (fun j=>j=b) y z:=(aj.of_grownBy hgr).mono fun j hj=> .inl (Option.some.inj hj)
   have rU:=af ho1
   have C3:z.cell? ⟨sb,0,none⟩=some (.slice (some ⟨b,0,none⟩) xs.length cap):=(ho1.cell uT (Ne.symm lW) 0).trans C2
   have F3:z.frozen? ⟨sb,0,none⟩=false:=(ho1.frozen uT (Ne.symm lW) 0).trans (kq.out.fz 0 (by omega))
   clear aI hgr ho1 C2 HD
   go_wp2_with fail
   go_end0
   refine ⟨rfl,?_⟩
   have o0:aj F w y:=(ni.out.only F).then (CX.out.mono fun j hj=> .inl (by subst hj;exact (HS.out.aJ j rfl).1))
   refine qT.trans o0 (fun _=> .inl) (kq.out.iu (rU.out.mono fun j hj=> .inl (congrArg some hj)) (fun g hg=> .inl hg) ?_ ?_)
   · have:=fD.out
     rw [Pl.LC xs i j Hj.out,show xs.length - 1=q from by rw [HQ.out];rfl]
     unfold Pl.ja
     rw [A8,Lc,Ld]
     exact this
   · intro c hc
     unfold Pl.ja at hc
     rcases List.mem_append.1 hc with hc | hc
     · exact kq.out.sz c (zX6 hc)
     · exact kq.out.sz c (zX7 hc)
end
end
section
open Go.RowKit Go.Maps
attribute [local go_sem] Oper.semAt_some aT
theorem TB:(Tryz.prog.info? 159).map (fun i=>(i.zero,i.size,i.bytes))=some (some (.agg #[.int .i64 0,.int .i64 0,.int .i64 0,.int .i64 0,.int .i64 0,.int .i64 0,.int .i64 0,.slice none 0 0,.string ⟨#[]⟩,.int .i64 0,.int .i64 0,.int .i64 0,.slice none 0 0]),13,144):=by kernel_rfl
theorem LD:(Value.cells (.agg #[.int .i64 0,.int .i64 0,.int .i64 0,.int .i64 0,.int .i64 0,.int .i64 0,.int .i64 0,.slice none 0 0,.string ⟨#[]⟩,.int .i64 0,.int .i64 0,.int .i64 0,.slice none 0 0])).size=13:=by kernel_rfl
def jf (at':Int) (e:En):List Value:=.int .i64 at'::e.vals
theorem LF (at':Int) (e:En):∀u∈jf at' e,u.oneCell'=true:=by
 intro u hu
 simp only [jf,En.vals,List.mem_cons,List.not_mem_nil,or_false] at hu
 rcases hu with rfl | rfl | rfl | rfl | rfl | rfl | rfl | rfl | rfl | rfl | rfl | rfl | rfl<;> rfl
section
variable {w u:World} {F:Nat->Prop} {sb:Nat} {v ve:Value} {xs:List Sh} {used:Nat->Bool} {ne:Nat} {evs:List Value}
theorem dW.kT {ne':Nat} {rV:List Value} (h:dW w F sb v ve xs used ne evs) (ho:aj (fun j=>some j=ve.ownBlock) w u) {r:Value} (hform:∀g,r.ownBlock=some g->ve.ownBlock=some g\/w.heap.size<=g) (hr:u.ownsRow 0 159 13 r ne' rV) (hpos:0<ne'):
    qT w F sb xs used ne' rV (u.setCell ⟨sb,14,none⟩ r):=by
 have n0:¬some sb=ve.ownBlock:=fun e=>(h.bu sb e.symm).2.1 rfl
 have hb:=h.blt
 have hb2:sb<u.heap.size:=ltT hb ho.size
 have hc:u.cell? ⟨sb,14,none⟩=some ve:=(ho.cell hb n0 14).trans h.ev
 have o2:=aj.setCell u ⟨sb,14,none⟩ r
 have uP:∀g,r.ownBlock=some g->g≠sb:=by
  intro g hg
  rcases hform g hg with h1 | h1
  · exact (h.bu g h1).2.1
  · omega
 have aq:∀g,r.ownBlock=some g->g<u.heap.size:=by
  intro g hg
  rcases hr.2 with ⟨e,_⟩ | ⟨b,c,cur,e,_,hh,_⟩
  · rw [e] at hg;cases hg
  · rw [e] at hg;cases hg;exact (zZ2.1 hh).1
 have nN:∀k,k≠14->(u.setCell ⟨sb,14,none⟩ r).cell? ⟨sb,k,none⟩=u.cell? ⟨sb,k,none⟩:=fun k hk=>World.cell?_setCell_other _ _ _ _ (fun e=>hk (by injection e with _ e2;exact e2.symm))
 refine ⟨(ho.mono fun j hj=> .inl (h.bu j hj.symm).1).then (o2.mono fun j hj=> .inl (by subst hj;exact h.bg)),fun j=>F j\/r.ownBlock=some j,⟨v,r,?_⟩,?_⟩
 · refine ⟨?_,fun i hi=>?_,by simp [World.cell?_setCell_same,hc],fun i hi=>?_,?_,?_,h.sz,.inl h.bg,fun g hg=>⟨.inl (h.aJ g hg).1,(h.aJ g hg).2⟩,fun g hg=>⟨.inr hg,uP g hg,fun e=>?_⟩,?_,fun e0=>absurd e0 (Nat.ne_of_gt hpos)⟩
   · rw [nN _ (by omega)];exact (ho.cell hb n0 _).trans h.live
   · rw [nN _ (by omega)];exact (ho.cell hb n0 _).trans (h.used i hi)
   · rw [World.frozen?_setCell];exact (ho.frozen hb n0 _).trans (h.fz i hi)
   · have hl:=iY ho h.row (fun b hb e=>(h.bu b e.symm).2.2 hb)
     exact iY o2 hl (fun b hb e=>(h.aJ b hb).2 e)
   · exact iY o2 hr (fun b hb e=>uP b hb e)
   · rcases hform g hg with h4 | h4
     · exact (h.bu g h4).2.2 e
     · have:=h.lt g (h.aJ g e).1;omega
   · intro j hj
     rcases hj with hj | hj
     · exact ltT (h.lt j hj) (zQ0 ho.size o2.size)
     · exact ltT (aq j hj) o2.size
 · intro j hj
   rcases hj with hj | hj
   · exact .inl hj
   · rcases hform j hj with h1 | h1
     · exact .inl (h.bu j h1).1
     · exact .inr h1
end
def eK (w:World) (b:Nat) (e:En):Prop:=∀k v,e.vals[k]? =some v->w.cell? ⟨b,k,none⟩=some v
theorem eK.dQ (w:World) (e:En) (t:TypeId):eK (w.alloc (.cells e.vals.toArray t)) w.heap.size e:=by
 intro k v hv
 have hb:(w.alloc (Obj.cells e.vals.toArray t)).heap[w.heap.size]? =some (Obj.cells e.vals.toArray t):=by
  show (w.heap.push _)[w.heap.size]? =_
  simp
 simp only [World.cell?,hb];simpa using hv
theorem eK.only {w w':World} {b:Nat} {e:En} {S:Nat->Prop} (h:eK w b e) (g:aj S w w') (hb:b<w.heap.size) (hS:¬S b):eK w' b e:=fun k v hv=>(g.cell hb hS k).trans (h k v hv)
theorem eK.ag {w w':World} {b:Nat} {e:En} (h:eK w b e) (g:ae w w') (hb:b<w.heap.size):eK w' b e:=h.only (g.only fun _=>False) hb (fun h=>h)
theorem eK.cells {w:World} {b:Nat} {e:En} (h:eK w b e):w.cell? ⟨b,0,none⟩=some (.int .i64 e.kind)/\w.cell? ⟨b,1,none⟩=some (.int .i64 e.ai)/\w.cell? ⟨b,2,none⟩=some (.int .i64 e.other)/\w.cell? ⟨b,3,none⟩=some (.int .i64 e.server)/\w.cell? ⟨b,4,none⟩=some (.int .i64 e.ak)/\w.cell? ⟨b,5,none⟩=some (.int .i64 e.seq)/\w.cell? ⟨b,6,none⟩=some (.slice e.aC e.ops.length e.aG)/\w.cell? ⟨b,7,none⟩=some (.string e.key)/\w.cell? ⟨b,8,none⟩=some (.int .i64 e.upto)/\w.cell? ⟨b,9,none⟩=some (.int .i64 e.part)/\w.cell? ⟨b,10,none⟩=some (.int .i64 e.parts)/\w.cell? ⟨b,11,none⟩=some (.slice e.av e.ar e.aw):=
 ⟨h 0 _ rfl,h 1 _ rfl,h 2 _ rfl,h 3 _ rfl,h 4 _ rfl,h 5 _ rfl,h 6 _ rfl,h 7 _ rfl,h 8 _ rfl,h 9 _ rfl,h 10 _ rfl,h 11 _ rfl⟩
namespace Pl
def eQ (xs:List Sh) (used:Nat->Bool) (e:En) (at':Int):Bool:=iq xs used e && decide (0<=at') && decide (at'<4096)
end Pl
section
variable {S:Nat->Bool} (hS:fZ S) (E:Nat->Addr) {w:World} (hE:aY S E w) {F:Nat->Prop} {sb:Nat} {xs:List Sh} {used:Nat->Bool} {ne:Nat} {evs:List Value} (h:fh w F sb xs used ne evs) (hx:xs.length<=1000) (e:En) (hA:bG w e) (hkey:e.key.size<=70368744177664)
include hS hE h hx hA hkey
theorem TC (at':Int) (hno:Pl.eQ xs used e at'=false):
    Calls Tryz.prog 50 #[.pointer (some ⟨sb,0,none⟩),e.agg,.int .i64 at'] w fun r w'=>r=.returned (.bool false)/\ae w w':=by
 have HC:=af (fun W (g:ae w W)=>Lq hS E (hE.ag g) (h.ag g) (by omega:xs.length<=1000000) e (hA.ag g) hkey)
 have hb:sb<w.heap.size:=by obtain ⟨_,_,h⟩:=h;exact h.blt
 cases hc:Pl.iq xs used e with
 | false=>
  rw [hc] at HC
  clear hc hno hA hE h
  unfold En.agg En.vals at *
  go_in
  go_wp2_with fail
  refine (HC.out _ ((ae.rf w).alloc _)).mono ?_
  rintro r w1 ⟨rfl,hg⟩
  have hG:=((ae.rf w).alloc _).trans hg
  clear hg
  go_wp2_with fail
  go_ret
  exact ⟨rfl,hG⟩
 | true=>
  rw [hc] at HC
  have hat:at'<0\/(0<=at'/\4096<=at'):=by
   unfold Pl.eQ at hno
   rw [hc] at hno
   simp at hno
   omega
  clear hc hno hA hE h
  unfold En.agg En.vals at *
  rcases hat with ha | ⟨ha,ha2⟩
  · go_in
    go_wp2_with fail
    refine (HC.out _ ((ae.rf w).alloc _)).mono ?_
    rintro r w1 ⟨rfl,hg⟩
    have hG:=((ae.rf w).alloc _).trans hg
    clear hg
    go_wp2_with fail
    go_ret
    exact ⟨rfl,hG⟩
  · have ha':¬at'<0:=by omega
    go_in
    go_wp2_with fail
    refine (HC.out _ ((ae.rf w).alloc _)).mono ?_
    rintro r w1 ⟨rfl,hg⟩
    have hG:=((ae.rf w).alloc _).trans hg
    clear hg
    go_wp2_with fail
    go_ret
    exact ⟨rfl,hG⟩
theorem Y3 (at':Int) (iy:Pl.eQ xs used e at'=true) (k2:e.kind=2) (i:Nat) (hi:i<xs.length) (hf:Pl.ax xs e.ai=(i:Nat)):
    Calls Tryz.prog 50 #[.pointer (some ⟨sb,0,none⟩),e.agg,.int .i64 at'] w fun r w'=>r=.returned (.bool true)/\qT w F sb (xs.set i ⟨(ah xs i).id,e.server,(ah xs i).since,(ah xs i).lo,(ah xs i).hi⟩) used ne evs w':=by
 have HC:=af (fun W (g:ae w W)=>Lq hS E (hE.ag g) (h.ag g) (by omega:xs.length<=1000000) e (hA.ag g) hkey)
 have eY:=af (fun W (g:ae w W)=>uG (h.ag g) (by omega:xs.length<=1000000) e.ai)
 obtain ⟨v,ve,h⟩:=h
 obtain ⟨b,cap,rfl,_,hbb⟩:=h.row.form (by omega:0<xs.length)
 have c0:=h.live
 have hb:=h.blt
 have lW:b≠sb:=(h.aJ b rfl).2
 rw [hf] at eY
 have pN:¬((i:Int)<0):=by omega
 have tj:(i:Int)<(xs.length:Int):=by omega
 have HS:=af h
 have HI:=af hi
 have hap:=iy
 unfold Pl.eQ at hap
 simp only [Bool.and_eq_true,decide_eq_true_eq] at hap
 obtain ⟨⟨hc,ha0⟩,ha1⟩:=hap
 have og:¬at'<0:=by omega
 have oh:¬4096<=at':=by omega
 rw [hc] at HC
 clear iy hc hA hE hf h hi
 unfold En.agg En.vals at *
 obtain ⟨kind,ai,other,server,ak,seq,key,upto,part,parts,ops,aC,aG,av,ar,aw⟩:=e
 dsimp only at *
 subst k2
 go_in
 go_wp2_with fail
 refine (HC.out _ ((ae.rf w).alloc _)).mono ?_
 rintro r w1 ⟨rfl,hg⟩
 have hG:=((ae.rf w).alloc _).trans hg
 have hcc:=hg.cells.1
 have hz:w.heap.size<w1.heap.size:=by have:=hg.size;simp at this;omega
 have HG:=af hG
 have E0:w1.cell? ⟨w.heap.size,0,none⟩=some (.int .i64 2):=(hcc _ _ (by simp)).trans (by simp [go_sem])
 have E1:=aU ((hcc w.heap.size 1 (by simp)).trans (by simp [go_sem]:_=some (.int .i64 ai)))
 have E3:=aU ((hcc w.heap.size 3 (by simp)).trans (by simp [go_sem]:_=some (.int .i64 server)))
 clear hg hG hcc
 go_wp2_with fail
 have hb1:sb<w1.heap.size:=ltT hb HG.out.size
 have CV:b<w1.heap.size:=ltT hbb HG.out.size
 have C0:=aU ((HG.out.cells.1 _ _ hb).trans c0)
 clear HC c0
 refine gJ 10 [] (ae w1) ae (fun _ _ x=>ae w1 x) (fun _ a=>a) (by kernel_rfl) (by kernel_rfl) (fun _ _=>rfl) (ae.rf w1).drew (fun _ _ _ h=>h) ae.rf (fun _ _ _ _ h g=>h.trans g) ?_
 repeat (first
  | refine gy ?_
  | (refine gB ?_;intro K hK;go_big_quiet_op;go_big_quiet_on)
  | (refine pz (fun _=>by kernel_rfl) (fun u hu=>eY.out u (HG.out.trans hu)) ?_;simp only [Act.put,sA,sB,sC])
  | (refine gz ?_;simp only [Act.put,sA,sB,sC]))
 refine jX (by rfl) ⟨trivial,?_⟩
 rintro f0 x hgx
 have HX:=af (HS.out.ag (HG.out.trans hgx))
 have eo:=af (HG.out.trans hgx)
 have s1:=nM HX.out rfl i HI.out 1 (by omega)
 simp only [Sh.vals,zK4,zK5] at s1
 have f1:x.frozen? ⟨b,i*5+1,none⟩=false:=HX.out.row.frozenAt _
 clear E0 E1 E3 C0 hgx eY
 dsimp only [List.drop]
 go_wp2_with fail
 go_ret
 refine ⟨rfl,?_⟩
 have hfin:=HX.out.CT i HI.out server
 refine ⟨(eo.out.only F).then ((aj.setCell x ⟨b,i*5+1,none⟩ _).mono fun j hj=> .inl (by subst hj;exact (HS.out.aJ _ rfl).1)),F,⟨_,_,hfin⟩,fun _=> .inl⟩
end
end
section
open Go.RowKit Go.Maps
attribute [local go_sem] Oper.semAt_some
section
variable {w:World} {F:Nat->Prop} {sb:Nat} {xs:List Sh} {used:Nat->Bool} {ne:Nat} {evs:List Value} (h:fh w F sb xs used ne evs) (hx:xs.length<=1000)
include h hx
end
theorem z2A {S:Nat->Bool} (hS:fZ S) (E:Nat->Addr) (c:Sh) (cb:Nat) (key:ByteArray) (w:World) (hE:aY S E w) (hl:c.lo.size<=70368744177664) (hh:c.hi.size<=70368744177664) (hk:key.size<=70368744177664) (hc:w.cell? ⟨cb,0,none⟩=some (.string key)):
    Calls Tryz.prog 115 #[c.cD,.pointer (some ⟨cb,0,none⟩)] w fun e w'=>e=.returned (.bool (Pl.aL c.lo c.hi key))/\ae w w':=by
 obtain ⟨i,s,n,lo,hi⟩:=c
 have HH:=af (fun W (g:ae w W)=>CE S E hS.zg lo hi key W hl hh hk (hE.ag g))
 unfold Sh.cD Sh.vals
 dsimp only at *
 have hb:cb<w.heap.size:=aN hc
 clear hE
 go_in
 go_wp2_with fail
 refine (HH.out _ ((ae.rf w).alloc _)).mono ?_
 rintro e w1 ⟨rfl,hg⟩
 go_wp2_with fail
 go_ret
 exact ⟨rfl,((ae.rf w).alloc _).trans hg⟩
namespace Pl
def kx (xs:List Sh) (key:ByteArray):Int:=if isKey key=true then b7 (fun c=>aL c.lo c.hi key) xs else -1
def oO (xs:List Sh) (key:ByteArray):Sh:=if kx xs key<0 then Sh.none else ah xs (kx xs key).toNat
end Pl
section
variable {S:Nat->Bool} (hS:fZ S) (E:Nat->Addr) {w:World} (hE:aY S E w) {F:Nat->Prop} {sb:Nat} {xs:List Sh} {used:Nat->Bool} {ne:Nat} {evs:List Value} (h:fh w F sb xs used ne evs) (hx:xs.length<=1000)
include hS hE h hx
theorem UN (key:ByteArray) (hk:key.size<=70368744177664):Calls Tryz.prog 59 #[.pointer (some ⟨sb,0,none⟩),.string key] w fun e w'=>e=.returned (.tuple #[(Pl.oO xs key).cD,.bool (decide (0<=Pl.kx xs key))])/\ae w w':=by
 obtain ⟨s2,s3,s6,s7⟩:=id hS.zg
 have HK:=af (fun W (g:ae w W)=>mZ S E s2 s3 s6 s7 key W (by omega) (hE.ag g))
 cases hik:Pl.isKey key with
 | false=>
  have e0:Pl.kx xs key= -1:=by unfold Pl.kx;rw [zZ0 (by rw [hik];simp)]
  have e1:Pl.oO xs key=Sh.none:=by unfold Pl.oO;rw [e0];rfl
  rw [e0,e1]
  have HN:=af (K8 E key hik)
  rw [HN.out] at HK
  unfold Sh.cD Sh.vals Sh.none
  clear e0 e1 h hE hik
  go_in
  go_wp2_with fail
  refine (HK.out _ (((ae.rf w).alloc _).alloc _)).mono ?_
  rintro r w1 ⟨rfl,hg⟩
  have hc:=hg.cells.1
  have hfz:=hg.cells.2
  have hz:w.heap.size+1<w1.heap.size:=by have:=hg.size;simp at this;omega
  have hG:=(((ae.rf w).alloc _).alloc _).trans hg
  clear hg
  go_wp2_with fail
  refine bodyPost_ret (v:=.tuple #[.agg #[.int .i64 0,.int .i64 0,.int .i64 0,.string ⟨#[]⟩,.string ⟨#[]⟩],.bool false]) (by simp [results,Tryz.results59,go_sem,hc,hz]) rfl ⟨rfl,?_⟩
  exact (((((hG.setCell (by simp) _).setCell (by simp) _).setCell (by simp) _).setCell (by simp) _).setCell (by simp) _)
 | true=>
  have HN:=af (K7 E key hik)
  rw [HN.out] at HK
  have e0:Pl.kx xs key=b7 (fun c=>Pl.aL c.lo c.hi key) xs:=by unfold Pl.kx;rw [zZ1 hik]
  have HI:Hid (∀W cb,ae w W->W.cell? ⟨cb,0,none⟩=some (.string key)->∀a cap,iR W a xs->Calls Tryz.prog 114 #[.slice a xs.length cap,.func (.func 115) #[] #[.pointer (some ⟨cb,0,none⟩)]] W fun e w'=>e=.returned (.int .i64 (Pl.kx xs key))/\ae W w'):=by
   intro W cb g hc a cap hA
   rw [e0]
   refine Yz (fun c=>Pl.aL c.lo c.hi key) cb a cap xs W hA (by omega) (fun j hj W' g'=>?_)
   obtain ⟨v,ve,h⟩:=h
   have hz:=h.sz _ (kE xs j hj)
   exact z2A hS E (ah xs j) cb key W' (hE.ag (g.trans g')) hz.1 hz.2 hk ((g'.cells.1 _ _ (aN hc)).trans hc)
  have DT:Pl.kx xs key= -1\/∃i,i<xs.length/\Pl.kx xs key=(i:Nat):=by
   rw [e0]
   unfold b7
   cases hf:xs.findIdx? (fun c=>Pl.aL c.lo c.hi key) with
   | none=>exact .inl rfl
   | some i=>exact .inr ⟨i,(zJ3.1 hf).1,rfl⟩
  obtain ⟨v,ve,h⟩:=h
  have hb:=h.blt
  have HS:=af h
  clear e0 hE hik h
  obtain ⟨a,cap,rfl,_⟩:=A9 HS.out.row
  rcases DT with hf | ⟨i,hi,hf⟩
  · have e1:Pl.oO xs key=Sh.none:=by unfold Pl.oO;rw [hf];rfl
    rw [hf] at HI
    rw [e1,hf]
    unfold Sh.cD Sh.vals Sh.none
    clear e1 hf
    go_in
    go_wp2_with fail
    refine (HK.out _ (((ae.rf w).alloc _).alloc _)).mono ?_
    rintro r w1 ⟨rfl,hg⟩
    have hc:=hg.cells.1
    have hfz:=hg.cells.2
    have hz:w.heap.size+1<w1.heap.size:=by have:=hg.size;simp at this;omega
    have hG:=(((ae.rf w).alloc _).alloc _).trans hg
    have c0:=(hG.cells.1 _ _ hb).trans HS.out.live
    have FP:=af (show w1.cell? ⟨w.heap.size,0,none⟩=some (.string key) from (hc _ _ (by simp;omega)).trans (by simp [go_sem]))
    have HA1:Hid (iR w1 a xs):=by
     obtain ⟨a',cap',e',hA'⟩:=A9 (HS.out.ag hG).row
     cases e';exact hA'
    clear hg
    go_wp2_with fail
    refine (HI.out w1 w.heap.size hG FP.out a cap HA1.out).mono ?_
    rintro r w2 ⟨rfl,aB⟩
    have hc2:=aB.cells.1
    have PJ:=aB.cells.2
    have hz2:w.heap.size+1<w2.heap.size:=ltT hz aB.size
    have bD:=hG.trans aB
    clear aB
    go_wp2_with fail
    refine bodyPost_ret (v:=.tuple #[.agg #[.int .i64 0,.int .i64 0,.int .i64 0,.string ⟨#[]⟩,.string ⟨#[]⟩],.bool false]) (by simp [results,Tryz.results59,go_sem,hc,hc2,hz,hz2]) rfl ⟨rfl,?_⟩
    exact (((((bD.setCell (by simp) _).setCell (by simp) _).setCell (by simp) _).setCell (by simp) _).setCell (by simp) _)
  · have e1:Pl.oO xs key=ah xs i:=by unfold Pl.oO;rw [hf,zZ0 (by omega),Int.toNat_natCast]
    have hd:decide (0<=(i:Int))=true:=by simp
    rw [hf] at HI
    rw [e1,hf,hd]
    obtain ⟨b,cap',e',_,hbb⟩:=HS.out.row.form (by omega)
    cases e'
    have pN:¬((i:Int)<0):=by omega
    have tj:(i:Int)<(xs.length:Int):=by omega
    have IM:=af hi
    clear e1 hf hd hi
    obtain ⟨x0,x1,x2,x3,x4,PK⟩:∃x0 x1 x2 x3 x4,ah xs i=⟨x0,x1,x2,x3,x4⟩:=⟨_,_,_,_,_,rfl⟩
    have PL:=af PK
    rw [PK]
    clear PK
    unfold Sh.cD Sh.vals
    go_in
    go_wp2_with fail
    refine (HK.out _ (((ae.rf w).alloc _).alloc _)).mono ?_
    rintro r w1 ⟨rfl,hg⟩
    have hc:=hg.cells.1
    have hfz:=hg.cells.2
    have hz:w.heap.size+1<w1.heap.size:=by have:=hg.size;simp at this;omega
    have hG:=(((ae.rf w).alloc _).alloc _).trans hg
    have c0:=(hG.cells.1 _ _ hb).trans HS.out.live
    have FP:=af (show w1.cell? ⟨w.heap.size,0,none⟩=some (.string key) from (hc _ _ (by simp;omega)).trans (by simp [go_sem]))
    have HA1:Hid (iR w1 (some ⟨b,0,none⟩) xs):=by
     obtain ⟨a',cap',e',hA'⟩:=A9 (HS.out.ag hG).row
     cases e';exact hA'
    clear hg
    go_wp2_with fail
    refine (HI.out w1 w.heap.size hG FP.out _ cap HA1.out).mono ?_
    rintro r w2 ⟨rfl,aB⟩
    have hc2:=aB.cells.1
    have PJ:=aB.cells.2
    have hz2:w.heap.size+1<w2.heap.size:=ltT hz aB.size
    have bD:=hG.trans aB
    have eT:=af (HS.out.ag bD)
    have c0:=eT.out.live
    have s0:=nM eT.out rfl i IM.out 0 (by omega)
    have s1:=nM eT.out rfl i IM.out 1 (by omega)
    have s2:=nM eT.out rfl i IM.out 2 (by omega)
    have s3:=nM eT.out rfl i IM.out 3 (by omega)
    have s4:=nM eT.out rfl i IM.out 4 (by omega)
    rw [PL.out] at s0 s1 s2 s3 s4
    simp only [Sh.vals,zK4,zK5,zX3] at s0 s1 s2 s3 s4
    clear aB HI HK
    go_wp2_with fail
    refine bodyPost_ret (v:=.tuple #[.agg #[.int .i64 x0,.int .i64 x1,.int .i64 x2,.string x3,.string x4],.bool true]) (by simp [results,Tryz.results59,go_sem,hc,hc2,hz,hz2]) rfl ⟨rfl,?_⟩
    exact (((((bD.setCell (by simp) _).setCell (by simp) _).setCell (by simp) _).setCell (by simp) _).setCell (by simp) _)
end
end
end Go.Proofs.YtbnofojapimfcaaGreatDoor
