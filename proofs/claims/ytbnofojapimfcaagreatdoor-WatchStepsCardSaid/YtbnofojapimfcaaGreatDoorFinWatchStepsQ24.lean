/- Part 24 of the proof. -/
import Derived.Test.YtbnofojapimfcaaGreatDoorFinWatchStepsQ16
import Derived.Test.YtbnofojapimfcaaGreatDoorFinWatchStepsQ19
import Derived.Test.YtbnofojapimfcaaGreatDoorFinWatchStepsQ20
set_option linter.unusedVariables false
set_option linter.unusedSectionVars false
set_option linter.unusedSimpArgs false
set_option maxRecDepth 100000
set_option maxHeartbeats 16000000
namespace Go.Proofs.YtbnofojapimfcaaGreatDoor
section
open Go.RowKit
def MP (lo hi key:ByteArray) (n:Nat) (w:World) (e:Ending) (w':World):Prop:=
 e=.returned (.tuple #[.agg #[.string (Pl.eJ n lo key).1,.string (Pl.eJ n lo key).2],.agg #[.string (Pl.eJ n key hi).1,.string (Pl.eJ n key hi).2],.int .i64 (n:Nat)])/\ae w w'
theorem Wb (lo hi key:ByteArray) (w:World) (hl:lo.size<=16777216) (hh:hi.size<=16777216) (hk:key.size<=16777216):
    Calls Tryz.prog 134 #[.agg #[.string lo,.string hi],.string key] w (MP lo hi key (Pl.cU (Pl.dV lo hi) (Pl.aF key) (Pl.dX lo hi key) lo key) w):=by
 cases h1:Pl.dV lo hi with
 | false=>
  have hn:Pl.cU false (Pl.aF key) (Pl.dX lo hi key) lo key=4:=rfl
  rw [hn]
  clear hn
  go_in
  go_wp2_with fail
  refine (jJ lo hi _ hl hh).mono ?_
  rintro e w1 ⟨rfl,hg⟩
  have hG:ae w w1:=((((ae.rf w).alloc _).alloc _).alloc _).trans hg
  obtain ⟨hc,hf⟩:=hg.cells
  go_wp2_with fail
  refine bodyPost_ret (v:=.tuple #[.agg #[.string bO,.string bO],.agg #[.string bO,.string bO],(.int .i64 4)]) (by simp [results,Tryz.results134,go_sem,hc]) rfl ⟨rfl,?_⟩
  exact ((((hG.setCell (by simp) _).setCell (by simp) _).setCell (by simp;omega) _).setCell (by simp;omega) _)
 | true=>
  cases h2:Pl.isKey key with
  | false=>
   have k0:Pl.aF key≠0:=of_decide_eq_false h2
   have hn:Pl.cU true (Pl.aF key) (Pl.dX lo hi key) lo key=Pl.aF key:=by unfold Pl.cU;rw [zZ0 (by decide),zZ1 k0]
   have hA:∀a b,Pl.eJ (Pl.aF key) a b=(bO,bO):=fun a b=>by unfold Pl.eJ;rw [zZ0 k0]
   have hk1:(((Pl.aF key:Nat):Int)==0)=false:=beq_eq_false_iff_ne.2 (by omega)
   have hk3:(((Pl.aF key:Nat):Int) !=0)=true:=by rw [bne_iff_ne];omega
   unfold MP
   rw [hn,hA,hA]
   clear hn hA k0
   go_in
   go_wp2_with fail
   refine (jJ lo hi _ hl hh).mono ?_
   rintro e w1 ⟨rfl,hg⟩
   have hG:ae w w1:=((((ae.rf w).alloc _).alloc _).alloc _).trans hg
   have hz:w.heap.size<w1.heap.size/\w.heap.size+1<w1.heap.size/\w.heap.size+1+1<w1.heap.size:=by have:=hg.size;simp at this;omega
   obtain ⟨hz0,hz1,hz2⟩:=hz
   obtain ⟨hc,hf⟩:=hg.cells
   go_wp2_with fail
   refine (vr key _ hk).mono ?_
   rintro e w2 ⟨rfl,aB⟩
   obtain ⟨hc2,hf2⟩:=aB.cells
   have bD:ae w w2:=hG.trans aB
   go_wp2_with fail
   refine bodyPost_ret (v:=.tuple #[.agg #[.string bO,.string bO],.agg #[.string bO,.string bO],.int .i64 (Pl.aF key:Nat)]) (by simp [results,Tryz.results134,go_sem,hc,hc2,hz1,hz2]) rfl ⟨rfl,?_⟩
   exact (((bD.setCell (by simp) _).setCell (by simp) _).setCell (by simp;omega) _).setCell (by simp;omega) _
  | true=>
   have k0:Pl.aF key=0:=of_decide_eq_true h2
   have HK:=af (TN key h2)
   cases h3:Pl.dX lo hi key with
   | false=>
    have hn:Pl.cU true (Pl.aF key) false lo key=1:=by unfold Pl.cU;rw [zZ0 (by decide),zZ0 (by omega),zZ1 (Or.inl rfl)]
    rw [hn]
    clear hn k0
    go_in
    go_wp2_with fail
    refine (jJ lo hi _ hl hh).mono ?_
    rintro e w1 ⟨rfl,hg⟩
    have hG:ae w w1:=((((ae.rf w).alloc _).alloc _).alloc _).trans hg
    have hz:w.heap.size<w1.heap.size/\w.heap.size+1<w1.heap.size/\w.heap.size+1+1<w1.heap.size:=by have:=hg.size;simp at this;omega
    obtain ⟨hz0,hz1,hz2⟩:=hz
    obtain ⟨hc,hf⟩:=hg.cells
    go_wp2_with fail
    refine (vr key _ hk).mono ?_
    rw [HK.out]
    rintro e w2 ⟨rfl,aB⟩
    obtain ⟨hc2,hf2⟩:=aB.cells
    have bD:ae w w2:=hG.trans aB
    have hy:w.heap.size<w2.heap.size/\w.heap.size+1<w2.heap.size/\w.heap.size+1+1<w2.heap.size:=by have:=aB.size;omega
    obtain ⟨hy0,hy1,hy2⟩:=hy
    go_wp2_with fail
    refine (FH lo hi key _ hl hh hk).mono ?_
    rintro e w3 ⟨rfl,hg3⟩
    obtain ⟨hc3,hf3⟩:=hg3.cells
    have km:ae w w3:=bD.trans hg3
    go_wp2_with fail
    refine bodyPost_ret (v:=.tuple #[.agg #[.string bO,.string bO],.agg #[.string bO,.string bO],(.int .i64 1)]) (by simp [results,Tryz.results134,go_sem,hc,hc2,hc3,hz1,hz2,hy1,hy2]) rfl ⟨rfl,?_⟩
    exact ((((km.setCell (by simp) _).setCell (by simp) _).setCell (by simp;omega) _).setCell (by simp;omega) _)
   | true=>
    by_cases h4:key.toList=lo.toList
    · have hn:Pl.cU true (Pl.aF key) true lo key=1:=by unfold Pl.cU;rw [zZ0 (by decide),zZ0 (by omega),zZ1 (Or.inr h4)]
      rw [hn]
      have h5:(key.toList==lo.toList)=true:=by simpa using h4
      clear hn k0 h4
      go_in
      go_wp2_with fail
      refine (jJ lo hi _ hl hh).mono ?_
      rintro e w1 ⟨rfl,hg⟩
      have hG:ae w w1:=((((ae.rf w).alloc _).alloc _).alloc _).trans hg
      have hz:w.heap.size<w1.heap.size/\w.heap.size+1<w1.heap.size/\w.heap.size+1+1<w1.heap.size:=by have:=hg.size;simp at this;omega
      obtain ⟨hz0,hz1,hz2⟩:=hz
      obtain ⟨hc,hf⟩:=hg.cells
      go_wp2_with fail
      refine (vr key _ hk).mono ?_
      rw [HK.out]
      rintro e w2 ⟨rfl,aB⟩
      obtain ⟨hc2,hf2⟩:=aB.cells
      have bD:ae w w2:=hG.trans aB
      have hy:w.heap.size<w2.heap.size/\w.heap.size+1<w2.heap.size/\w.heap.size+1+1<w2.heap.size:=by have:=aB.size;omega
      obtain ⟨hy0,hy1,hy2⟩:=hy
      go_wp2_with fail
      refine (FH lo hi key _ hl hh hk).mono ?_
      rintro e w3 ⟨rfl,hg3⟩
      obtain ⟨hc3,hf3⟩:=hg3.cells
      have km:ae w w3:=bD.trans hg3
      go_wp2_with fail
      refine bodyPost_ret (v:=.tuple #[.agg #[.string bO,.string bO],.agg #[.string bO,.string bO],(.int .i64 1)]) (by simp [results,Tryz.results134,go_sem,hc,hc2,hc3,hz1,hz2,hy1,hy2]) rfl ⟨rfl,?_⟩
      exact ((((km.setCell (by simp) _).setCell (by simp) _).setCell (by simp;omega) _).setCell (by simp;omega) _)
    · have hn:Pl.cU true (Pl.aF key) true lo key=0:=by unfold Pl.cU;rw [zZ0 (by decide),zZ0 (by omega),zZ0 (by simpa using h4)]
      rw [hn]
      have h5:(key.toList==lo.toList)=false:=by simpa using h4
      clear hn k0 h4
      go_in
      go_wp2_with fail
      refine (jJ lo hi _ hl hh).mono ?_
      rintro e w1 ⟨rfl,hg⟩
      have hG:ae w w1:=((((ae.rf w).alloc _).alloc _).alloc _).trans hg
      have hz:w.heap.size<w1.heap.size/\w.heap.size+1<w1.heap.size/\w.heap.size+1+1<w1.heap.size:=by have:=hg.size;simp at this;omega
      obtain ⟨hz0,hz1,hz2⟩:=hz
      obtain ⟨hc,hf⟩:=hg.cells
      go_wp2_with fail
      refine (vr key _ hk).mono ?_
      rw [HK.out]
      rintro e w2 ⟨rfl,aB⟩
      obtain ⟨hc2,hf2⟩:=aB.cells
      have bD:ae w w2:=hG.trans aB
      have hy:w.heap.size<w2.heap.size/\w.heap.size+1<w2.heap.size/\w.heap.size+1+1<w2.heap.size:=by have:=aB.size;omega
      obtain ⟨hy0,hy1,hy2⟩:=hy
      go_wp2_with fail
      refine (FH lo hi key _ hl hh hk).mono ?_
      rintro e w3 ⟨rfl,hg3⟩
      obtain ⟨hc3,hf3⟩:=hg3.cells
      have km:ae w w3:=bD.trans hg3
      have l0:w3.cell? ⟨w.heap.size,0,none⟩=some (.string lo):=by rw [hc3 _ _ hy0,hc2 _ _ hz0,hc _ _ (by simp;omega)];simp [go_sem]
      have l1:w3.cell? ⟨w.heap.size,1,none⟩=some (.string hi):=by rw [hc3 _ _ hy0,hc2 _ _ hz0,hc _ _ (by simp;omega)];simp [go_sem]
      go_wp2_with fail
      go_region
      go_wp2_with fail
      refine bodyPost_ret (v:=.tuple #[.agg #[.string lo,.string key],.agg #[.string key,.string hi],(.int .i64 0)]) (by simp [results,Tryz.results134,go_sem,hc,hc2,hc3,hz1,hz2,hy1,hy2]) rfl ⟨rfl,?_⟩
      exact ((((km.setCell (by simp) _).setCell (by simp) _).setCell (by simp;omega) _).setCell (by simp;omega) _).drew
end
section
open Go.RowKit Go.Maps
attribute [local go_sem] Oper.semAt_some
namespace Pl
def gT (s:bj) (e:En):Bool:=
 if bR e=false then false
 else if ax s.xs e.ai<0 then false
 else if e.kind=2 then true
 else if e.kind=3 then !(s.us.any fun u=>u==e.other) && dX (ah s.xs (ax s.xs e.ai).toNat).lo (ah s.xs (ax s.xs e.ai).toNat).hi e.key && !(e.key.toList==(ah s.xs (ax s.xs e.ai).toNat).lo.toList)
 else if e.kind=4 then
  if ax s.xs e.other<0 then false
  else decide (aK (dV (ah s.xs (ax s.xs e.ai).toNat).lo (ah s.xs (ax s.xs e.ai).toNat).hi) (dV (ah s.xs (ax s.xs e.other).toNat).lo (ah s.xs (ax s.xs e.other).toNat).hi) (ah s.xs (ax s.xs e.ai).toNat).lo (ah s.xs (ax s.xs e.ai).toNat).hi (ah s.xs (ax s.xs e.other).toNat).lo (ah s.xs (ax s.xs e.other).toNat).hi=0)
 else false
theorem MS (xs:List Sh) (id:Int):ax xs id= -1\/∃i:Nat,i<xs.length/\ax xs id=(i:Nat):=by
 unfold ax b7
 cases h:xs.findIdx? fun c=>c.id==id with
 | none=>exact .inl rfl
 | some i=>
  obtain ⟨hi,_⟩:=zJ3.1 h
  exact .inr ⟨i,hi,rfl⟩
end Pl
theorem y8U {w:World} {F:Nat->Prop} {mb:Nat} {s:bj} (h:dU w F mb s) (hx:s.xs.length<=1000) (hu:s.us.length<=1000000) (hsz:∀c∈s.xs,c.lo.size<=16777216/\c.hi.size<=16777216) (e:En) (hA:bG w e) (hs:jx e):
    Calls Tryz.prog 132 #[.pointer (some ⟨mb,0,none⟩),e.agg] w fun r w'=>r=.returned (.bool (Pl.gT s e))/\ae w w':=by
 have eY:=af (fun W (g:ae w W)=>Gu (h.ag g) (by omega) e.ai)
 have kp:=af (fun W (g:ae w W)=>Gu (h.ag g) (by omega) e.other)
 have tK:=af (fun W (g:ae w W)=>O5 e W (hA.ag g) hs)
 have hks:=hs.key
 obtain ⟨xs,us,ne,evs⟩:=s
 obtain ⟨vl,vu,ve,h⟩:=h
 dsimp only at *
 obtain ⟨a,cap,rfl,MT⟩:=Wv h.row
 obtain ⟨a2,cap2,rfl,hI⟩:=z3w h.qy
 have c0:=h.live
 have c1:=h.used
 have hb:=h.blt
 have zo:=af (fun W (g:ae w W)=>EH W a2 cap2 us (hI.ag g) hu e.other)
 have mF:=af MT
 have HZ:=af hsz
 clear hsz
 have HC:Hid (∀b,b=Pl.gT ⟨xs,us,ne,evs⟩ e↔b=(if Pl.bR e=false then false else if Pl.ax xs e.ai<0 then false else if e.kind=2 then true else if e.kind=3 then !(us.any fun u=>u==e.other) && Pl.dX (ah xs (Pl.ax xs e.ai).toNat).lo (ah xs (Pl.ax xs e.ai).toNat).hi e.key && !(e.key.toList==(ah xs (Pl.ax xs e.ai).toNat).lo.toList)
  else if e.kind=4 then (if Pl.ax xs e.other<0 then false else decide (Pl.aK (Pl.dV (ah xs (Pl.ax xs e.ai).toNat).lo (ah xs (Pl.ax xs e.ai).toNat).hi) (Pl.dV (ah xs (Pl.ax xs e.other).toNat).lo (ah xs (Pl.ax xs e.other).toNat).hi) (ah xs (Pl.ax xs e.ai).toNat).lo (ah xs (Pl.ax xs e.ai).toNat).hi (ah xs (Pl.ax xs e.other).toNat).lo (ah xs (Pl.ax xs e.other).toNat).hi=0)) else false)):=fun b=>Iff.rfl
 generalize Pl.gT ⟨xs,us,ne,evs⟩ e=rb at HC ⊢
 clear h MT hI hA hs
 have hfi:=Pl.MS xs e.ai
 have kF:=Pl.MS xs e.other
 generalize Pl.ax xs e.ai=fi at *
 generalize Pl.ax xs e.other=fj at *
 generalize Pl.bR e=rt at *
 generalize (us.any fun u=>u==e.other)=uo at *
 obtain ⟨kind,ai,other,server,ak,seq,key,upto,part,parts,ops,aC,aG,av,ar,aw⟩:=e
 unfold En.agg En.vals at *
 dsimp only at *
 have tG:Hid (ae w (w.alloc (.cells #[.int .i64 kind,.int .i64 ai,.int .i64 other,.int .i64 server,.int .i64 ak,.int .i64 seq,.slice aC ops.length aG,.string key,.int .i64 upto,.int .i64 part,.int .i64 parts,.slice av ar aw] 39))):=(ae.rf w).alloc _
 have hcs:=fun i v (hv:(#[Value.int .i64 kind,.int .i64 ai,.int .i64 other,.int .i64 server,.int .i64 ak,.int .i64 seq,.slice aC ops.length aG,.string key,.int .i64 upto,.int .i64 part,.int .i64 parts,.slice av ar aw]:Array Value)[i]? =some v)=>show (w.alloc (.cells #[.int .i64 kind,.int .i64 ai,.int .i64 other,.int .i64 server,.int .i64 ak,.int .i64 seq,.slice aC ops.length aG,.string key,.int .i64 upto,.int .i64 part,.int .i64 parts,.slice av ar aw] 39)).cell? ⟨w.heap.size,i,none⟩=some v from by rw [cell_of_row _ _ i _ _ _ (heap_alloc_new w _)];exact hv
 have lT:=af hcs
 have hz0:w.heap.size<(w.alloc (.cells #[.int .i64 kind,.int .i64 ai,.int .i64 other,.int .i64 server,.int .i64 ak,.int .i64 seq,.slice aC ops.length aG,.string key,.int .i64 upto,.int .i64 part,.int .i64 parts,.slice av ar aw] 39)).heap.size:=by simp
 have DI:=af hz0
 clear hcs hz0
 go_in
 go_wp2_with fail
 generalize hW0:w.alloc _=W0 at *
 clear hW0
 have E1:=aU (lT.out 1 _ rfl)
 have E2:=aU (lT.out 2 _ rfl)
 refine gJ 10 [] (ae W0) ae (fun _ _ x=>ae W0 x) (fun _ a=>a) (by kernel_rfl) (by kernel_rfl) (fun _ _=>rfl) (ae.rf W0).drew (fun _ _ _ h=>h) ae.rf (fun _ _ _ _ h g=>h.trans g) ?_
 iterate 4 (first
  | refine gy ?_
  | (refine gB ?_;intro K hK;go_big_quiet_op;go_big_quiet_on)
  | (refine pz (fun _=>by kernel_rfl) (fun u hu=>eY.out u (tG.out.trans hu)) ?_;simp only [Act.put,sA,sB,sC])
  | (refine gz ?_;simp only [Act.put,sA,sB,sC]))
 repeat (first
  | refine gy ?_
  | (refine gB ?_;intro K hK;go_big_quiet_op;go_big_quiet_on)
  | (refine pz (fun _=>by kernel_rfl) (fun u hu=>kp.out u (tG.out.trans hu)) ?_;simp only [Act.put,sA,sB,sC])
  | (refine gz ?_;simp only [Act.put,sA,sB,sC]))
 refine td ⟨trivial,?_⟩
 rintro f0 x hgx
 dsimp only [List.drop]
 have eo:=af hgx
 clear hgx E1 E2
 have E:=fun i v hv=>(eo.out.cells.1 _ i DI.out).trans (lT.out i v hv)
 have E0:=E 0 _ rfl
 have E1:=E 1 _ rfl
 have E2:=E 2 _ rfl
 have E3:=E 3 _ rfl
 have E4:=E 4 _ rfl
 have E5:=E 5 _ rfl
 have E6:=E 6 _ rfl
 have E7:=E 7 _ rfl
 have E8:=E 8 _ rfl
 have E9:=E 9 _ rfl
 have E10:=E 10 _ rfl
 have E11:=E 11 _ rfl
 have HE:=af E
 clear E
 go_wp2_with fail
 refine (tK.out _ (tG.out.trans eo.out)).mono ?_
 rintro r y ⟨rfl,Ww⟩
 have cR:=af (eo.out.trans Ww)
 clear E0 E1 E2 E3 E4 E5 E6 E7 E8 E9 E10 E11 Ww HE eo
 have E:=fun i v hv=>(cR.out.cells.1 _ i DI.out).trans (lT.out i v hv)
 have E0:=E 0 _ rfl
 have E2:=E 2 _ rfl
 have E7:=E 7 _ rfl
 clear E
 have kI:=tG.out.trans cR.out
 have uS:w.heap.size<y.heap.size:=ltT DI.out cR.out.size
 have Rj:=(kI.cells.1 _ 0 hb).trans c0
 have Rk:=(kI.cells.1 _ 1 hb).trans c1
 have hby:=ltT hb kI.size
 have ki:=af kI
 clear c0 c1 kI tK eY kp
 cases rt with
 | false=>
  go_wp2_with fail
  go_ret
  exact ⟨bt ((HC.out _).2 (by simp)),ki.out⟩
 | true=>
  rcases hfi with rfl | ⟨i,hi,rfl⟩
  · go_wp2_with fail
    go_ret
    exact ⟨bt ((HC.out _).2 (by simp)),ki.out⟩
  have hi0:¬((i:Int)<0):=by omega
  have pN:(i:Int)<(xs.length:Int):=by omega
  by_cases k2:kind=2
  · subst k2
    go_wp2_with fail
    go_ret
    exact ⟨bt ((HC.out _).2 (by simp [hi0])),ki.out⟩
  rcases mF.out with h0 | ⟨b,off,rfl,hbb,hR⟩
  · rw [h0] at hi;simp at hi
  have q3:=(ki.out.cells.1 b (off+i*5+3) hbb).trans (hR.lo i hi)
  have q4:=(ki.out.cells.1 b (off+i*5+4) hbb).trans (hR.hi i hi)
  have j0w:=ltT hbb ki.out.size
  have zi:=HZ.out _ (kE xs i hi)
  have MU:=af (fun j (hj:j<xs.length)=>And.intro ((ki.out.cells.1 b (off+j*5+3) hbb).trans (hR.lo j hj)) (And.intro ((ki.out.cells.1 b (off+j*5+4) hbb).trans (hR.hi j hj)) (HZ.out _ (kE xs j hj))))
  have fX:Hid (∀b,b=rb↔b=(if kind=2 then true else if kind=3 then !uo && Pl.dX (ah xs i).lo (ah xs i).hi key && !(key.toList==(ah xs i).lo.toList)
   else if kind=4 then (if fj<0 then false else decide (Pl.aK (Pl.dV (ah xs i).lo (ah xs i).hi) (Pl.dV (ah xs fj.toNat).lo (ah xs fj.toNat).hi) (ah xs i).lo (ah xs i).hi (ah xs fj.toNat).lo (ah xs fj.toNat).hi=0)) else false)):=fun b=>by
   have:=HC.out b
   rw [zZ0 (by simp),zZ0 hi0,Int.toNat_natCast] at this
   exact this
  clear HC hR
  generalize (ah xs i).lo=lo at *
  generalize (ah xs i).hi=hi' at *
  by_cases k3:kind=3
  · subst k3
    have HH:=af (fun W=>FH lo hi' key W zi.1 zi.2 hks)
    have yH:Hid (∀b,b=rb↔b=(!uo && Pl.dX lo hi' key && !(key.toList==lo.toList))):=fun b=>by
     have:=fX.out b
     rw [zZ0 (by decide),zZ1 rfl] at this
     exact this
    clear fX MU k2
    have G1:ae y (y.alloc (.cells #[.string lo,.string hi'] 23)):=(ae.rf y).alloc _
    have s0:(y.alloc (.cells #[.string lo,.string hi'] 23)).cell? ⟨y.heap.size,0,none⟩=some (.string lo):=by simp [go_sem]
    have s1:(y.alloc (.cells #[.string lo,.string hi'] 23)).cell? ⟨y.heap.size,1,none⟩=some (.string hi'):=by simp [go_sem]
    go_wp2_with fail
    generalize y.alloc _=y1 at *
    have X1:=aU ((G1.cells.1 _ 1 hby).trans Rk)
    have X2:=aU ((G1.cells.1 _ 2 uS).trans E2)
    have X7:=aU ((G1.cells.1 _ 7 uS).trans E7)
    have S0:=aU s0
    have S1:=aU s1
    have bI:=af G1
    clear Rj Rk E0 E2 E7 q3 q4 s0 s1 G1
    cases uo with
    | true=>
     refine gJ 22 [] (ae y1) ae (fun _ _ x=>ae y1 x) (fun _ a=>a) (by kernel_rfl) (by kernel_rfl) (fun _ _=>rfl) (ae.rf y1).drew (fun _ _ _ h=>h) ae.rf (fun _ _ _ _ h g=>h.trans g) ?_
     repeat (first
      | refine gy ?_
      | (refine gB ?_;intro K hK;go_big_quiet_op;go_big_quiet_on)
      | (refine pz (fun _=>by kernel_rfl) (fun u hu=>zo.out u (ki.out.trans (bI.out.trans hu))) ?_;simp only [Act.put,sA,sB,sC])
      | (refine gz ?_;simp only [Act.put,sA,sB,sC]))
     refine td ⟨trivial,?_⟩
     rintro f0 z tP
     dsimp only [List.drop]
     have gq:=af (ki.out.trans (bI.out.trans tP))
     clear tP
     go_wp2_with fail
     go_ret
     exact ⟨bt ((yH.out _).2 (by simp)),gq.out⟩
    | false=>
     generalize Pl.dX lo hi' key=hb2 at *
     cases hb2 with
     | false=>
      refine gJ 22 [] (ae y1) ae (fun _ _ x=>ae y1 x) (fun _ a=>a) (by kernel_rfl) (by kernel_rfl) (fun _ _=>rfl) (ae.rf y1).drew (fun _ _ _ h=>h) ae.rf (fun _ _ _ _ h g=>h.trans g) ?_
      iterate 7 (first
       | refine gy ?_
       | (refine gB ?_;intro K hK;go_big_quiet_op;go_big_quiet_on)
       | (refine pz (fun _=>by kernel_rfl) (fun u hu=>zo.out u (ki.out.trans (bI.out.trans hu))) ?_;simp only [Act.put,sA,sB,sC])
       | (refine gz ?_;simp only [Act.put,sA,sB,sC]))
      repeat (first
       | refine gy ?_
       | (refine gB ?_;intro K hK;go_big_quiet_op;go_big_quiet_on)
       | (refine pz (fun _=>by kernel_rfl) (fun u hu=>HH.out u) ?_;simp only [Act.put,sA,sB,sC])
       | (refine gz ?_;simp only [Act.put,sA,sB,sC]))
      refine td ⟨trivial,?_⟩
      rintro f0 z tP
      dsimp only [List.drop]
      have gq:=af (ki.out.trans (bI.out.trans tP))
      clear tP
      go_wp2_with fail
      go_ret
      exact ⟨bt ((yH.out _).2 (by simp)),gq.out⟩
     | true=>
      cases heq:(key.toList==lo.toList) with
      | true=>
       have hne:(key.toList !=lo.toList)=false:=by rw [bne,heq];rfl
       refine gJ 22 [] (ae y1) ae (fun _ _ x=>ae y1 x) (fun _ a=>a) (by kernel_rfl) (by kernel_rfl) (fun _ _=>rfl) (ae.rf y1).drew (fun _ _ _ h=>h) ae.rf (fun _ _ _ _ h g=>h.trans g) ?_
       iterate 7 (first
        | refine gy ?_
        | (refine gB ?_;intro K hK;go_big_quiet_op;go_big_quiet_on)
        | (refine pz (fun _=>by kernel_rfl) (fun u hu=>zo.out u (ki.out.trans (bI.out.trans hu))) ?_;simp only [Act.put,sA,sB,sC])
        | (refine gz ?_;simp only [Act.put,sA,sB,sC]))
       repeat (first
        | refine gy ?_
        | (refine gB ?_;intro K hK;go_big_quiet_op;go_big_quiet_on)
        | (refine pz (fun _=>by kernel_rfl) (fun u hu=>HH.out u) ?_;simp only [Act.put,sA,sB,sC])
        | (refine gz ?_;simp only [Act.put,sA,sB,sC]))
       refine td ⟨trivial,?_⟩
       rintro f0 z tP
       dsimp only [List.drop]
       have gq:=af (ki.out.trans (bI.out.trans tP))
       clear tP
       go_wp2_with fail
       go_ret
       exact ⟨bt ((yH.out _).2 (by simp [heq])),gq.out⟩
      | false=>
       have hne:(key.toList !=lo.toList)=true:=by rw [bne,heq];rfl
       refine gJ 22 [] (ae y1) ae (fun _ _ x=>ae y1 x) (fun _ a=>a) (by kernel_rfl) (by kernel_rfl) (fun _ _=>rfl) (ae.rf y1).drew (fun _ _ _ h=>h) ae.rf (fun _ _ _ _ h g=>h.trans g) ?_
       iterate 7 (first
        | refine gy ?_
        | (refine gB ?_;intro K hK;go_big_quiet_op;go_big_quiet_on)
        | (refine pz (fun _=>by kernel_rfl) (fun u hu=>zo.out u (ki.out.trans (bI.out.trans hu))) ?_;simp only [Act.put,sA,sB,sC])
        | (refine gz ?_;simp only [Act.put,sA,sB,sC]))
       repeat (first
        | refine gy ?_
        | (refine gB ?_;intro K hK;go_big_quiet_op;go_big_quiet_on)
        | (refine pz (fun _=>by kernel_rfl) (fun u hu=>HH.out u) ?_;simp only [Act.put,sA,sB,sC])
        | (refine gz ?_;simp only [Act.put,sA,sB,sC]))
       refine td ⟨trivial,?_⟩
       rintro f0 z tP
       dsimp only [List.drop]
       have gq:=af (ki.out.trans (bI.out.trans tP))
       clear tP
       go_wp2_with fail
       go_ret
       exact ⟨bt ((yH.out _).2 (by simp [heq])),gq.out⟩
  by_cases k4:kind=4
  · subst k4
    have Rl:Hid (∀b,b=rb↔b=(if fj<0 then false else decide (Pl.aK (Pl.dV lo hi') (Pl.dV (ah xs fj.toNat).lo (ah xs fj.toNat).hi) lo hi' (ah xs fj.toNat).lo (ah xs fj.toNat).hi=0))):=fun b=>by
     have:=fX.out b
     rw [zZ0 (by decide),zZ0 (by decide),zZ1 rfl] at this
     exact this
    clear fX k2 k3
    rcases kF with rfl | ⟨j,hj,rfl⟩
    · go_wp2_with fail
      go_ret
      exact ⟨bt ((Rl.out _).2 (by simp)),ki.out⟩
    have hj0:¬((j:Int)<0):=by omega
    have NZ:(j:Int)<(xs.length:Int):=by omega
    have HC5:Hid (∀b,b=rb↔b=decide (Pl.aK (Pl.dV lo hi') (Pl.dV (ah xs j).lo (ah xs j).hi) lo hi' (ah xs j).lo (ah xs j).hi=0)):=fun b=>by
     have:=Rl.out b
     rw [zZ0 hj0,Int.toNat_natCast] at this
     exact this
    obtain ⟨p3,p4,zj⟩:=MU.out j hj
    have HJ:=af (fun W=>Rc lo hi' (ah xs j).lo (ah xs j).hi W zi.1 zi.2 zj.1 zj.2)
    clear Rl MU
    generalize Pl.aK (Pl.dV lo hi') (Pl.dV (ah xs j).lo (ah xs j).hi) lo hi' (ah xs j).lo (ah xs j).hi=jn at *
    generalize Pl.aH (Pl.dV lo hi') (Pl.dV (ah xs j).lo (ah xs j).hi) lo hi' (ah xs j).lo (ah xs j).hi=jv at *
    unfold MQ at HJ
    obtain ⟨N5,N6⟩:=jv
    dsimp only at HJ
    generalize (ah xs j).lo=pO at *
    generalize (ah xs j).hi=hi2 at *
    have C0:=aU Rj
    have Q3:=aU q3
    have Q4:=aU q4
    have P3:=aU p3
    have P4:=aU p4
    go_wp2_with fail
    clear Rj Rk E0 E2 E7 q3 q4 p3 p4 zo
    refine gJ 23 [20,21] (ae y) ae (fun L f w=>ae y w/\(L 20=true->∃a b,yr y.heap.size w (f 20) a b)) (fun f a=>a.put (some 8) (f 20)) (by kernel_rfl) (by kernel_rfl) (fun _ _=>rfl) ⟨(ae.rf y).drew,fun h=>(by cases h)⟩ (fun _ _ _ h=>h.1) ae.rf (fun L f u u' h g=>⟨h.1.trans g,fun hl=>(h.2 hl).elim fun x hx=>hx.elim fun z hz=>⟨x,z,hz.ag g⟩⟩) ?_
    repeat (first
     | refine gy ?_
     | (refine gB ?_;intro K hK;go_big_quiet_op;go_big_quiet_on)
     | (refine pz (fun _=>by kernel_rfl) (fun u hu=>HJ.out u) ?_;simp only [Act.put,sA,sB,sC])
     | (refine gz ?_;simp only [Act.put,sA,sB,sC]))
    refine td ⟨⟨bH rfl (fun _ a=>a) (fun _ _=>rfl) (fun _=>rfl) ?_,bH rfl (fun f a=>a.put (some 8) (f 20)) (fun _ _=>rfl) (fun _=>rfl) ?_,trivial⟩,?_⟩
    · intro L f u hJ hL hd
      clear C0 Q3 Q4 P3 P4 HJ
      go_simp
      exact ⟨hJ.1.alloc _,_,_,by rw [fT];exact yr.dQ hJ.1.size _ _ _⟩
    · intro L f u hJ hL hd
      clear C0 Q3 Q4 P3 P4 HJ
      obtain ⟨x,z,m,hm,hN,d0,d1,f0,f1⟩:=hJ.2 (hd 20 rfl (by decide))
      rw [hm]
      go_simp
      obtain ⟨g1,g2⟩:=Tm hJ.1 hN d0 d1 f0 f1 (.string N5) (.string N6)
      exact ⟨g1,fun _=>⟨_,_,by rw [gg (by decide),hm];exact g2⟩⟩
    · intro f u hJ
      obtain ⟨fU,hF⟩:=hJ
      have kJ:=af (ki.out.trans fU)
      clear hF fU
      dsimp only [List.drop]
      go_wp2_with fail
      go_ret
      exact ⟨bt ((HC5.out _).2 (by rw [zX5];simp)),kJ.out⟩
  have HC6:Hid (false=rb):=(fX.out _).2 (by rw [zZ0 k2,zZ0 k3,zZ0 k4])
  have e2:(kind==2)=false:=beq_eq_false_iff_ne.2 k2
  have e3:(kind==3)=false:=beq_eq_false_iff_ne.2 k3
  have e4:(kind==4)=false:=beq_eq_false_iff_ne.2 k4
  clear fX k2 k3 k4 MU
  go_wp2_with fail
  go_ret
  exact ⟨bt HC6.out,ki.out⟩
namespace Pl
def dL (s:bj) (e:En) (at':Int):Bool:=gT s e && decide (0<=at') && decide (at'<=4095)
end Pl
structure xt (s:bj):Prop where
 few:s.xs.length<=1000
 us:s.us.length<=100000
 ne:s.ne<=100000
 sz:∀c∈s.xs,c.lo.size<=16777216/\c.hi.size<=16777216
section
variable {w:World} {F:Nat->Prop} {mb:Nat} {s:bj} (h:dU w F mb s) (hk:xt s) (e:En) (hA:bG w e) (hs:jx e)
include h hk hA hs
theorem MV:Hid (∀W,ae w W->Calls Tryz.prog 132 #[.pointer (some ⟨mb,0,none⟩),e.agg] W fun r w'=>r=.returned (.bool (Pl.gT s e))/\ae W w'):=
 fun W g=>y8U (h.ag g) hk.few (zQ0 hk.us (by decide)) hk.sz e (hA.ag g) hs
theorem z2L (at':Int) (hno:Pl.dL s e at'=false):
    Calls Tryz.prog 90 #[.pointer (some ⟨mb,0,none⟩),e.agg,.int .i64 at'] w fun r w'=>r=.returned (.bool false)/\ae w w':=by
 have HC:=MV h hk e hA hs
 unfold Pl.dL at hno
 clear h hk hA hs
 generalize Pl.gT s e=c at *
 unfold En.agg En.vals at *
 obtain ⟨kind,ai,other,server,ak,seq,key,upto,part,parts,ops,aC,aG,av,ar,aw⟩:=e
 dsimp only at *
 cases c with
 | false=>
  clear hno
  go_in
  go_wp2_with fail
  refine (HC.out _ ((ae.rf w).alloc _)).mono ?_
  rintro r w1 ⟨rfl,hg⟩
  have HG:=af (((ae.rf w).alloc _).trans hg)
  clear hg
  go_wp2_with fail
  go_ret
  exact ⟨rfl,HG.out⟩
 | true=>
  by_cases h1:at'<0
  · have d1:decide (at'<0)=true:=decide_eq_true h1
    clear hno
    go_in
    go_wp2_with fail
    refine (HC.out _ ((ae.rf w).alloc _)).mono ?_
    rintro r w1 ⟨rfl,hg⟩
    have HG:=af (((ae.rf w).alloc _).trans hg)
    clear hg
    go_wp2_with fail
    go_ret
    exact ⟨rfl,HG.out⟩
  · have h2:4095<at':=by
     simp only [Bool.true_and,Bool.and_eq_false_iff,decide_eq_false_iff_not] at hno
     omega
    have d1:decide (at'<0)=false:=decide_eq_false h1
    have d2:decide (4095<at')=true:=decide_eq_true h2
    clear hno
    go_in
    go_wp2_with fail
    refine (HC.out _ ((ae.rf w).alloc _)).mono ?_
    rintro r w1 ⟨rfl,hg⟩
    have HG:=af (((ae.rf w).alloc _).trans hg)
    clear hg
    go_wp2_with fail
    go_ret
    exact ⟨rfl,HG.out⟩
theorem y8O (at':Int) (iy:Pl.dL s e at'=true) (k2:e.kind=2) (i:Nat) (hi:i<s.xs.length) (hf:Pl.ax s.xs e.ai=(i:Nat)):
    Calls Tryz.prog 90 #[.pointer (some ⟨mb,0,none⟩),e.agg,.int .i64 at'] w fun r w'=>r=.returned (.bool true)/\lA w F mb ⟨s.xs.set i ⟨(ah s.xs i).id,e.server,(ah s.xs i).since,(ah s.xs i).lo,(ah s.xs i).hi⟩,s.us,s.ne,s.evs⟩ w':=by
 have HC:=MV h hk e hA hs
 have eY:=af (fun W (g:ae w W)=>Gu (h.ag g) (zQ0 hk.few (by decide)) e.ai)
 have fY:=hk.few
 obtain ⟨xs,us,ne,evs⟩:=s
 obtain ⟨vl,vu,ve,h⟩:=h
 dsimp only at *
 obtain ⟨b,cap,rfl,_,hbb⟩:=h.row.form (by omega:0<xs.length)
 have c0:=h.live
 have hb:=h.blt
 have lW:b≠mb:=(h.aJ b rfl).2
 rw [hf] at eY
 have pN:¬((i:Int)<0):=by omega
 have tj:(i:Int)<(xs.length:Int):=by omega
 have HS:=af h
 have HI:=af hi
 have hap:=iy
 unfold Pl.dL at hap
 simp only [Bool.and_eq_true,decide_eq_true_eq] at hap
 obtain ⟨⟨hc,ha0⟩,ha1⟩:=hap
 have og:¬at'<0:=by omega
 have oh:¬4095<at':=by omega
 have d0:decide (at'<0)=false:=decide_eq_false og
 have d1:decide (4095<at')=false:=decide_eq_false oh
 rw [hc] at HC
 clear iy hc hA hf h hi hk hs
 unfold En.agg En.vals at *
 obtain ⟨kind,ai,other,server,ak,seq,key,upto,part,parts,ops,aC,aG,av,ar,aw⟩:=e
 dsimp only at *
 subst k2
 go_in
 go_wp2_with fail
 refine (HC.out _ ((ae.rf w).alloc _)).mono ?_
 rintro r w1 ⟨rfl,hg⟩
 have hG:=((ae.rf w).alloc _).trans hg
 have hcc:=hg.cells.1
 have hz:w.heap.size<w1.heap.size:=by have:=hg.size;simp at this;omega
 have HG:=af hG
 have E0:w1.cell? ⟨w.heap.size,0,none⟩=some (.int .i64 2):=(hcc _ _ (by simp)).trans (by simp [go_sem])
 have E1:w1.cell? ⟨w.heap.size,1,none⟩=some (.int .i64 ai):=(hcc _ _ (by simp)).trans (by simp [go_sem])
 have E3:w1.cell? ⟨w.heap.size,3,none⟩=some (.int .i64 server):=(hcc _ _ (by simp)).trans (by simp [go_sem])
 clear hg hG hcc HC
 go_wp2_with fail
 refine (eY.out _ HG.out).mono ?_
 rintro r w2 ⟨rfl,aB⟩
 have E0':=(aB.cells.1 _ _ hz).trans E0
 have HG2:=af (HG.out.trans aB)
 have hz2:w.heap.size<w2.heap.size:=ltT hz aB.size
 have hb1:mb<w2.heap.size:=ltT hb HG2.out.size
 have CV:b<w2.heap.size:=ltT hbb HG2.out.size
 have C0:=aU ((HG2.out.cells.1 _ _ hb).trans c0)
 have X3:=aU ((aB.cells.1 _ _ hz).trans E3)
 clear aB E0 E1 E3 c0 eY
 go_wp2_with fail
 refine gJ 9 [] (ae w2) Eq (fun _ _ x=>x=w2.drew) (fun _ a=>a) (by kernel_rfl) (by kernel_rfl) (fun _ _=>rfl) rfl (fun _ _ x h=>by rw [h];exact (ae.rf w2).drew) (fun _=>rfl) (fun _ _ _ _ h g=>g▸h) ?_
 repeat (first
  | refine gy ?_
  | (refine gB ?_;intro K hK;go_big_quiet_op;go_big_quiet_on)
  | (refine gz ?_;simp only [Act.put,sA,sB,sC]))
 refine jX (by rfl) ⟨trivial,?_⟩
 rintro f0 x rfl
 have HX:=af (HS.out.ag HG2.out.drew)
 have s1:=sK HX.out rfl i HI.out 1 (by omega)
 simp only [Sh.vals,zK4,zK5] at s1
 have f1:w2.drew.frozen? ⟨b,i*5+1,none⟩=false:=HX.out.row.frozenAt _
 clear E0' C0 X3
 dsimp only [List.drop]
 go_wp2_with fail
 go_ret
 refine ⟨rfl,?_⟩
 have hfin:=HX.out.CT i HI.out server
 exact ⟨(HG2.out.drew.only F).then ((aj.setCell w2.drew ⟨b,i*5+1,none⟩ _).mono fun j hj=> .inl (by subst hj;exact (HS.out.aJ _ rfl).1)),F,⟨_,_,_,hfin⟩,fun _=> .inl⟩
end
end
section
open Go.RowKit Go.Maps
attribute [local go_sem] Oper.semAt_some aT
theorem Wx:(Tryz.prog.info? 191).map (fun i=>(i.zero,i.size,i.bytes))=some (some (.agg #[.int .i64 0,.int .i64 0,.int .i64 0,.string ⟨#[]⟩,.string ⟨#[]⟩]),5,56):=by kernel_rfl
theorem Rm:(Value.cells (.agg #[.int .i64 0,.int .i64 0,.int .i64 0,.string ⟨#[]⟩,.string ⟨#[]⟩])).size=5:=by kernel_rfl
theorem z2V:(Tryz.prog.info? 3).map (fun i=>(i.zero,i.size,i.bytes))=some (some (.int .i64 0),1,8):=by kernel_rfl
theorem z0z:(Value.cells (.int .i64 0)).size=1:=by kernel_rfl
theorem Wy:(Tryz.prog.info? 187).map (fun i=>(i.zero,i.size,i.bytes))=some (some (.agg #[.int .i64 0,.int .i64 0,.int .i64 0,.int .i64 0,.int .i64 0,.int .i64 0,.int .i64 0,.slice none 0 0,.string ⟨#[]⟩,.int .i64 0,.int .i64 0,.int .i64 0,.slice none 0 0]),13,144):=by kernel_rfl
theorem z1X (c:Sh):∀u∈c.vals,u.oneCell'=true:=by
 intro u hu
 simp [Sh.vals] at hu
 rcases hu with rfl | rfl | rfl | rfl | rfl<;> rfl
section
variable {w:World} {F:Nat->Prop} {mb:Nat} {s:bj} (h:dU w F mb s) (hk:xt s) (e:En) (hA:bG w e) (hs:jx e)
include h hk hA hs
theorem y7s (at':Int) (iy:Pl.dL s e at'=true) (k3:e.kind=3) (i:Nat) (hi:i<s.xs.length) (hf:Pl.ax s.xs e.ai=(i:Nat)) (hcut:Pl.cU (Pl.dV (ah s.xs i).lo (ah s.xs i).hi) (Pl.aF e.key) (Pl.dX (ah s.xs i).lo (ah s.xs i).hi e.key) (ah s.xs i).lo e.key=0):
    Calls Tryz.prog 90 #[.pointer (some ⟨mb,0,none⟩),e.agg,.int .i64 at'] w fun r w'=>r=.returned (.bool true)/\lA w F mb ⟨s.xs.set i ⟨(ah s.xs i).id,(ah s.xs i).server,at'+1,(ah s.xs i).lo,e.key⟩++[⟨e.other,e.server,at'+1,e.key,(ah s.xs i).hi⟩],s.us++[e.other],s.ne+1,s.evs++jf at' e⟩ w':=by
 have HC:=MV h hk e hA hs
 have eY:=af (fun W (g:ae w W)=>Gu (h.ag g) (zQ0 hk.few (by decide)) e.ai)
 have hks:=hs.key
 have fY:=hk.few
 have yK:=hk.us
 have hne:=hk.ne
 have hsz:=hk.sz _ (kE s.xs i hi)
 have hap:=iy
 unfold Pl.dL at hap
 simp only [Bool.and_eq_true,decide_eq_true_eq] at hap
 obtain ⟨⟨hc,ha0⟩,ha1⟩:=hap
 have og:¬at'<0:=by omega
 have oh:¬4095<at':=by omega
 have g0:decide (at'<0)=false:=decide_eq_false og
 have g1:decide (4095<at')=false:=decide_eq_false oh
 rw [hc] at HC
 obtain ⟨xs,us,ne,evs⟩:=s
 obtain ⟨vl,vu,ve,h⟩:=h
 dsimp only at *
 obtain ⟨b,cap,rfl,_,hbb⟩:=h.row.form (by omega:0<xs.length)
 have c0:=h.live
 have hb:=h.blt
 have qz:b≠mb:=(h.aJ b rfl).2
 rw [hf] at eY
 have pN:¬((i:Int)<0):=by omega
 have tj:(i:Int)<(xs.length:Int):=by omega
 have rl:=sK h rfl i hi 3 (by omega)
 have rh:=sK h rfl i hi 4 (by omega)
 simp only [Sh.vals,zK4,zK5] at rl rh
 have fX:=af (fun W=>Wb (ah xs i).lo (ah xs i).hi e.key W hsz.1 hsz.2 hks)
 rw [hcut] at fX
 unfold MP at fX
 simp only [Pl.eJ,if_true] at fX
 have HS:=af h
 have HI:=af hi
 have pR:Hid (∀j,F j->j<w.heap.size):=af h.lt
 have HW:=af (eK.dQ w e 39)
 have HV:=af (LF at' e)
 have hvl:(jf at' e).length=13:=rfl
 have C6:Hid (jf at' e=.int .i64 at'::e.vals):=rfl
 have b2:(e.kind==2)=false:=by rw [k3];rfl
 have b3:(e.kind==3)=true:=by rw [k3];rfl
 clear iy hc hA hf h hi hk hs k3 hcut hsz
 generalize hlo:(ah xs i).lo=lo at *
 generalize hhi:(ah xs i).hi=hi' at *
 have Lu:=af hlo
 have Lv:=af hhi
 clear hlo hhi
 unfold En.agg at *
 go_in
 unfold En.vals at HC ⊢
 go_wp2_with fail
 refine (HC.out _ ((ae.rf w).alloc _)).mono ?_
 rintro r w1 ⟨rfl,hg⟩
 have hz:w.heap.size<w1.heap.size:=by have:=hg.size;simp at this;omega
 have HG:=af (((ae.rf w).alloc _).trans hg)
 have bl:=af (HW.out.ag hg (by simp))
 obtain ⟨d0,d1,d2,d3,d4,d5,d6,d7,d8,d9,d10,d11⟩:=bl.out.cells
 clear hg HC
 go_wp2_with fail
 refine (eY.out _ HG.out).mono ?_
 rintro r w2 ⟨rfl,aB⟩
 have HG2:=af (HG.out.trans aB)
 have jg:=af (bl.out.ag aB hz)
 have hz2:w.heap.size<w2.heap.size:=ltT hz aB.size
 clear d0 d1 d2 d3 d4 d5 d6 d7 d8 d9 d10 d11 eY aB
 obtain ⟨d0,d1,d2,d3,d4,d5,d6,d7,d8,d9,d10,d11⟩:=jg.out.cells
 have hb2:mb<w2.heap.size:=ltT hb HG2.out.size
 have Ew:b<w2.heap.size:=ltT hbb HG2.out.size
 go_wp2_with fail
 have C0:=aU ((HG2.out.cells.1 _ _ hb).trans c0)
 have R3:=aU ((HG2.out.cells.1 _ _ hbb).trans rl)
 have R4:=aU ((HG2.out.cells.1 _ _ hbb).trans rh)
 have D7:=aU d7
 clear d0 d1 d2 d3 d4 d5 d6 d7 d8 d9 d10 d11 rl rh c0
 -- a, b, _ := Cut(..)
 refine gJ 20 [15,16,17,18] (ae w2) ae (JV [⟨15,17,[.string lo,.string e.key]⟩,⟨16,18,[.string e.key,.string hi']⟩] w2) (fun f a=>(a.put (some 8) (f 15)).put (some 9) (f 16)) (by kernel_rfl) (by kernel_rfl) (fun _ _=>rfl) (JV.start _ w2 _) (fun _ _ _ h=>h.ag) ae.rf (fun _ _ _ _ h g=>h.more g) ?_
 repeat (first
  | refine gy ?_
  | (refine gB ?_;intro K hK;go_big_quiet_op;go_big_quiet_on)
  | (refine pz (fun _=>by kernel_rfl) (fun u hu=>fX.out u) ?_;simp only [Act.put,sA,sB,sC])
  | (refine gz ?_;simp only [Act.put,sA,sB,sC]))
 refine td ⟨⟨bH rfl (fun _ a=>a) (fun _ _=>rfl) (fun _=>rfl) ?_,bH rfl (fun _ a=>a) (fun _ _=>rfl) (fun _=>rfl) ?_,bH rfl (fun f a=>(a.put (some 8) (f 15)).put (some 9) (f 16)) (fun _ _=>rfl) (fun _=>rfl) ?_,bH rfl (fun f a=>(a.put (some 8) (f 15)).put (some 9) (f 16)) (fun _ _=>rfl) (fun _=>rfl) ?_,trivial⟩,?_⟩
 · intro L f u hJ hL hd
   clear fX C0 R3 R4 D7
   go_simp
   exact hJ.alloc (by rfl) (V:=⟨15,17,[.string lo,.string e.key]⟩) (by simp) hL [.string ⟨#[]⟩,.string ⟨#[]⟩] rfl _
 · intro L f u hJ hL hd
   clear fX C0 R3 R4 D7
   go_simp
   exact hJ.alloc (by rfl) (V:=⟨16,18,[.string e.key,.string hi']⟩) (by simp) hL [.string ⟨#[]⟩,.string ⟨#[]⟩] rfl _
 · intro L f u hJ hL hd
   clear fX C0 R3 R4 D7
   obtain ⟨m,x,y,hm,k0,k1,f0,f1⟩:=hJ.two (V:=⟨15,17,[.string lo,.string e.key]⟩) (by simp) (hd 15 rfl (by decide)) rfl
   dsimp only at hm
   rw [hm]
   go_simp
   exact hJ.store (by rfl) (V:=⟨15,17,[.string lo,.string e.key]⟩) (by simp) (hd 15 rfl (by decide)) hm
 · intro L f u hJ hL hd
   clear fX C0 R3 R4 D7
   obtain ⟨m,x,y,hm,k0,k1,f0,f1⟩:=hJ.two (V:=⟨16,18,[.string e.key,.string hi']⟩) (by simp) (hd 16 rfl (by decide)) rfl
   dsimp only at hm
   rw [hm]
   go_simp
   exact hJ.store (by rfl) (V:=⟨16,18,[.string e.key,.string hi']⟩) (by simp) (hd 16 rfl (by decide)) hm
 intro f u hJ
 clear fX C0 R3 R4 D7
 obtain ⟨m7,q7,n7,l7,a0,a1,_,_⟩:=(hJ.full (V:=⟨15,17,[.string lo,.string e.key]⟩) (by simp) rfl).two
 obtain ⟨m8,q8,n8,l8,e0,e1,_,_⟩:=(hJ.full (V:=⟨16,18,[.string e.key,.string hi']⟩) (by simp) rfl).two
 dsimp only at q7 q8
 have ni:=af (HG2.out.trans hJ.ag)
 have J6:=af (jg.out.ag hJ.ag hz2)
 have uQ:w.heap.size<u.heap.size:=ltT hz2 hJ.ag.size
 clear hJ
 rw [q7,q8]
 clear q7 q8
 go_wp2_with fail
 -- m.Live[i].Span, m.Live[i].Since = a, at+1
 have eT:=af (HS.out.ag ni.out)
 have EI:mb<u.heap.size:=ltT hb ni.out.size
 have Lx:b<u.heap.size:=ltT hbb ni.out.size
 have uR:b≠m7:=by omega
 have qU:b≠m8:=by omega
 have C0:=aV (S:=fun j=>j=b) eT.out.live (Ne.symm qz)
 have A0:=aV (S:=fun j=>j=b) a0 (Ne.symm uR)
 have A1:=aV (S:=fun j=>j=b) a1 (Ne.symm uR)
 have k2:=sK eT.out rfl i HI.out 2 (by omega)
 have k3:=sK eT.out rfl i HI.out 3 (by omega)
 have k4:=sK eT.out rfl i HI.out 4 (by omega)
 simp only [Sh.vals,zK4,zK5] at k2 k3 k4
 have f2:u.frozen? ⟨b,i*5+2,none⟩=false:=eT.out.row.frozenAt _
 have f3:u.frozen? ⟨b,i*5+3,none⟩=false:=eT.out.row.frozenAt _
 have f4:u.frozen? ⟨b,i*5+4,none⟩=false:=eT.out.row.frozenAt _
 have hw1:IntKind.i64.wrap (at'+1)=at'+1:=IntWalk.i64_in _ (by omega)
 refine gJ 16 [15] (aj (fun j=>j=b) u) Eq (fun L _ x=>x=if L 15=true then (u.drew.setCell ⟨b,i*5+3,none⟩ (.string lo)).setCell ⟨b,i*5+4,none⟩ (.string e.key) else u.drew) (fun _ a=>a) (by kernel_rfl) (by kernel_rfl) (fun _ _=>rfl) rfl ?_ (fun _=>rfl) (fun _ _ _ _ h g=>g▸h) ?_
 · rintro L f x rfl
   split
   · exact ((aj.refl _ u).drew.then (aj.setCell _ ⟨b,i*5+3,none⟩ _)).then (aj.setCell _ ⟨b,i*5+4,none⟩ _)
   · exact (aj.refl _ u).drew
 repeat (first
  | refine gy ?_
  | (refine gB ?_;intro K hK;go_big_quiet_op;go_big_quiet_on)
  | (refine gz ?_;simp only [Act.put,sA,sB,sC]))
 refine jX (by rfl) ⟨⟨bH rfl (fun _ a=>a) (fun _ _=>rfl) (fun _=>rfl) ?_,trivial⟩,?_⟩
 · rintro L f x rfl hL hd
   rw [hL]
   clear C0 A0 A1 eT
   go_simp
 rintro f x hx'
 have hx2:x=(u.drew.setCell ⟨b,i*5+3,none⟩ (.string lo)).setCell ⟨b,i*5+4,none⟩ (.string e.key):=hx'
 clear hx' A0 A1
 have C1:=C0 ⟨x,by rw [hx2];exact ((aj.refl _ u).drew.then (aj.setCell _ ⟨b,i*5+3,none⟩ _)).then (aj.setCell _ ⟨b,i*5+4,none⟩ _)⟩
 dsimp only at C1
 have K2:x.cell? ⟨b,i*5+2,none⟩=some (.int .i64 (ah xs i).since):=by
  rw [hx2,World.cell?_setCell_other _ _ _ _ (by intro e;injection e with _ e;omega),World.cell?_setCell_other _ _ _ _ (by intro e;injection e with _ e;omega)]
  exact k2
 have F2:x.frozen? ⟨b,i*5+2,none⟩=false:=by
  rw [hx2,World.frozen?_setCell,World.frozen?_setCell];exact f2
 have HX:=af hx2
 clear C0 k2 k3 k4 f2 f3 f4 hx2
 dsimp only [List.drop]
 go_wp2_with fail
 -- m.Live = append(..)
 have HY:Hid (∃y,y=x.setCell ⟨b,i*5+2,none⟩ (.int .i64 (at'+1))/\eG y F mb (.slice (some ⟨b,0,none⟩) xs.length cap) vu ve (xs.set i ⟨(ah xs i).id,(ah xs i).server,at'+1,lo,e.key⟩) us ne evs/\aj (fun j=>j=b) u y):=by
  refine ⟨_,rfl,?_,?_⟩
  · rw [HX.out]
    exact (eT.out.ag (ae.rf u).drew).uO i HI.out lo e.key (at'+1)
  · rw [HX.out]
    exact (((aj.refl _ u).drew.then (aj.setCell _ ⟨b,i*5+3,none⟩ _)).then (aj.setCell _ ⟨b,i*5+4,none⟩ _)).then (aj.setCell _ ⟨b,i*5+2,none⟩ _)
 obtain ⟨y,hy,qV,iw⟩:=HY.out
 rw [<-hy]
 have kq:=af qV
 have CX:=af iw
 have mY:w.heap.size≠b:=by omega
 have xu:¬F w.heap.size:=fun h=>Nat.lt_irrefl _ (pR.out _ h)
 have MW:=af (J6.out.only iw uQ mY)
 have uS:w.heap.size<y.heap.size:=ltT uQ iw.size
 have xw:mb<y.heap.size:=ltT EI iw.size
 have B0:=aV (S:=fun j=>some j=some b) ((iw.cell l8 (Ne.symm qU) 0).trans e0) (fun h=>qU (Option.some.inj h).symm)
 have B1:=aV (S:=fun j=>some j=some b) ((iw.cell l8 (Ne.symm qU) 1).trans e1) (fun h=>qU (Option.some.inj h).symm)
 have C2:=aV (S:=fun j=>some j=some b) qV.live (fun h=>qz (Option.some.inj h).symm)
 obtain ⟨d0,d1,d2,d3,d4,d5,d6,d7,d8,d9,d10,d11⟩:=MW.out.cells
 have D2:=aV (S:=fun j=>some j=some b) d2 (fun h=>mY (Option.some.inj h))
 have D3:=aV (S:=fun j=>some j=some b) d3 (fun h=>mY (Option.some.inj h))
 clear hy HY qV iw HX K2 F2 C1 eT a0 a1 e0 e1 d0 d1 d2 d3 d4 d5 d6 d7 d8 d9 d10 d11 J6
 have hxl:(xs.set i ⟨(ah xs i).id,(ah xs i).server,at'+1,lo,e.key⟩).length=xs.length:=List.length_set
 have yN:=af hxl
 clear hxl
 obtain ⟨i0,hi0,hz0,hz1,hz3⟩:=info_parts Wx
 refine gJ 15 [13,14] (aj (fun j=>some j=some b) y) Eq (dO 191 13 14 y (Sh.vals ⟨e.other,e.server,at'+1,e.key,hi'⟩) (jo 191 5 (.slice (some ⟨b,0,none⟩) xs.length cap) xs.length (dC (xs.set i ⟨(ah xs i).id,(ah xs i).server,at'+1,lo,e.key⟩)) (Sh.vals ⟨e.other,e.server,at'+1,e.key,hi'⟩))) (fun f a=>(a.put (some 90) (f 13)).put (some 91) (f 14)) (by kernel_rfl) (by kernel_rfl) (fun _ _=>rfl) (dO.start y) (fun L f x h=>h.only fun _ _ _ h=>h.only) (fun _=>rfl) (fun _ _ _ _ h g=>g▸h) ?_
 repeat (first
  | refine gy ?_
  | (refine gB ?_;intro K hK;go_big_quiet_op;go_big_quiet_on)
  | (refine gz ?_;simp only [Act.put,sA,sB,sC]))
 refine jX (by rfl) ⟨⟨bH rfl (fun _ a=>a) (fun _ _=>rfl) (fun _=>rfl) ?_,bH rfl (fun f a=>a.put (some 90) (f 13)) (fun _ _=>rfl) (fun _=>rfl) ?_,trivial⟩,?_⟩
 · intro L f x hJ hL hd
   clear B0 B1 C2 D2 D3
   have hm:=hJ.make (by decide) hL
   have hm2:=af hm
   clear hm hJ
   unfold Sh.vals at hm2
   go_simp
   exact hm2.out
 · intro L f x hJ hL hd
   clear B0 B1 C2 D2 D3
   have yO:=hd 13 rfl (by decide)
   obtain ⟨vb,EJ,tv,hvb⟩:=hJ.made yO hL
   refine yu _ _ _ rfl 191 i0 _ 5 56 Tryz.underlying182 hi0 hz0 hz1 hz3 Rm (by omega) (.slice (some ⟨b,0,none⟩) xs.length cap) xs.length (dC (xs.set i ⟨(ah xs i).id,(ah xs i).server,at'+1,lo,e.key⟩)) rfl ?_ vb 1 (Sh.vals ⟨e.other,e.server,at'+1,e.key,hi'⟩) ?_ rfl hvb (z1X _) (by unfold maxLen;omega) (by omega) ?_
   · exact gI (hJ.ag hL) (by have:=kq.out.row;rw [yN.out] at this;exact this)
   · exact EJ
   · intro r w' hD
     exact hJ.call (by decide) hL yO hD
 rintro f x hJ
 clear B0 B1 C2 D2 D3
 obtain ⟨x0,nQ,g3,c3,BW,aI,hgr,hat⟩:=hJ.done rfl
 rw [BW]
 have ho1:aj (fun j=>some j=some b) y x:=(nQ.only _).then (aj.of_grownBy hgr)
 have C3:x.cell? ⟨mb,0,none⟩=some (.slice (some ⟨b,0,none⟩) xs.length cap):=(ho1.cell xw (fun h=>qz (Option.some.inj h).symm) 0).trans kq.out.live
 have F3:x.frozen? ⟨mb,0,none⟩=false:=(ho1.frozen xw (fun h=>qz (Option.some.inj h).symm) 0).trans (kq.out.fz 0 (by omega))
 have hl1:(xs.set i ⟨(ah xs i).id,(ah xs i).server,at'+1,lo,e.key⟩++[(⟨e.other,e.server,at'+1,e.key,hi'⟩:Sh)]).length=xs.length+1:=by simp
 have HT:=af (kq.out.iu ho1 (r:=.slice (some ⟨g3,0,none⟩) (xs.length+1) c3) (ys:=xs.set i ⟨(ah xs i).id,(ah xs i).server,at'+1,lo,e.key⟩++[⟨e.other,e.server,at'+1,e.key,hi'⟩]) (fun g hg=>by
  cases hg
  rcases hat with h | h
  · exact .inl h
  · exact .inr (by rw [h];exact nQ.size)) (by rw [hl1,A8,Tb];exact aI))
 have J7:=MW.out.only ho1 uS (fun h=>mY (Option.some.inj h))
 have wz:=af J7
 have rT:w.heap.size<x.heap.size:=ltT uS ho1.size
 clear hJ BW aI hgr hat ho1 nQ J7 hl1
 dsimp only [List.drop]
 go_wp2_with fail
 -- m.j0x = append(..)
 obtain ⟨z,hzz⟩:∃z,z=x.setCell ⟨mb,0,none⟩ (.slice (some ⟨g3,0,none⟩) (xs.length+1) c3):=⟨_,rfl⟩
 rw [<-hzz]
 rw [<-hzz] at HT
 have WD:=af (show eK z w.heap.size e from by
  rw [hzz];exact wz.out.only (aj.setCell x ⟨mb,0,none⟩ _) rT (fun h=>by subst h;exact absurd hb (Nat.lt_irrefl _)))
 have hzl:w.heap.size<z.heap.size:=by rw [hzz];simpa using rT
 clear hzz C3 F3
 obtain ⟨oz,F2,⟨vl2,AB,fM,pQ⟩,hF2⟩:=HT.out
 have J8:¬F2 w.heap.size:=fun h=>by
  rcases hF2 _ h with h | h
  · exact xu h
  · omega
 have Be:=af pQ
 have kp:=af hF2
 have Oc:=af oz
 have BX:¬some w.heap.size=AB.ownBlock:=fun h=>J8 (pQ.bu _ h.symm).1
 have xx:¬some mb=AB.ownBlock:=fun h=>(pQ.bu _ h.symm).2.1 rfl
 have J9:mb<z.heap.size:=pQ.blt
 clear pQ hF2 oz HT
 have U1:=aV (S:=fun j=>some j=AB.ownBlock) Be.out.used xx
 obtain ⟨d0,d1,d2,d3,d4,d5,d6,d7,d8,d9,d10,d11⟩:=WD.out.cells
 have D2:=aV (S:=fun j=>some j=AB.ownBlock) d2 BX
 clear d0 d1 d2 d3 d4 d5 d6 d7 d8 d9 d10 d11
 obtain ⟨i1,hi1,hy0,hy1,hy3⟩:=info_parts z2V
 refine gJ 9 [7,8] (aj (fun j=>some j=AB.ownBlock) z) Eq (dO 3 7 8 z [.int .i64 e.other] (jo 3 1 AB us.length (AA us) [.int .i64 e.other])) (fun f a=>(a.put (some 101) (f 7)).put (some 102) (f 8)) (by kernel_rfl) (by kernel_rfl) (fun _ _=>rfl) (dO.start z) (fun L f x h=>h.only fun _ _ _ h=>h.only) (fun _=>rfl) (fun _ _ _ _ h g=>g▸h) ?_
 repeat (first
  | refine gy ?_
  | (refine gB ?_;intro K hK;go_big_quiet_op;go_big_quiet_on)
  | (refine gz ?_;simp only [Act.put,sA,sB,sC]))
 refine jX (by rfl) ⟨⟨bH rfl (fun _ a=>a) (fun _ _=>rfl) (fun _=>rfl) ?_,bH rfl (fun f a=>a.put (some 101) (f 7)) (fun _ _=>rfl) (fun _=>rfl) ?_,trivial⟩,?_⟩
 · intro L f x hJ hL hd
   clear U1 D2
   have hm:=hJ.make (by decide) hL
   have hm2:=af hm
   clear hm hJ
   go_simp
   exact hm2.out
 · intro L f x hJ hL hd
   clear U1 D2
   have h7:=hd 7 rfl (by decide)
   obtain ⟨vb,q7,tv,hvb⟩:=hJ.made h7 hL
   refine yu _ _ _ rfl 3 i1 _ 1 8 Tryz.underlying183 hi1 hy0 hy1 hy3 z0z (by omega) AB us.length (AA us) rfl ?_ vb 1 [.int .i64 e.other] ?_ rfl hvb (by intro u hu;rw [List.mem_singleton.1 hu];rfl) (by unfold maxLen;omega) (by omega) ?_
   · exact gI (hJ.ag hL) Be.out.qy
   · exact q7
   · intro r w' hD
     exact hJ.call (by decide) hL h7 hD
 rintro f x hJ
 clear U1 D2
 obtain ⟨x0,nQ,g4,c4,q8,aI,hgr,hat⟩:=hJ.done rfl
 rw [q8]
 have ho1:aj (fun j=>some j=AB.ownBlock) z x:=(nQ.only _).then (aj.of_grownBy hgr)
 have C3:x.cell? ⟨mb,1,none⟩=some AB:=(ho1.cell J9 xx 1).trans Be.out.used
 have F3:x.frozen? ⟨mb,1,none⟩=false:=(ho1.frozen J9 xx 1).trans (Be.out.fz 1 (by omega))
 have hl1:(us++[e.other]).length=us.length+1:=by simp
 have HT:=af (Be.out.kR ho1 (r:=.slice (some ⟨g4,0,none⟩) (us.length+1) c4) (us':=us++[e.other]) (fun g hg=>by
  cases hg
  rcases hat with h | h
  · exact .inl h
  · exact .inr (by rw [h];exact nQ.size)) (by rw [hl1,show AA (us++[e.other])=AA us++[.int .i64 e.other] from by unfold AA;rw [List.map_append];rfl];exact aI))
 have J7:=WD.out.only ho1 hzl BX
 have wz:=af J7
 have rT:w.heap.size<x.heap.size:=ltT hzl ho1.size
 clear hJ q8 aI hgr hat ho1 nQ J7 hl1
 dsimp only [List.drop]
 go_wp2_with fail
 -- m.Events = append(..)
 obtain ⟨v,hvv⟩:∃v,v=x.setCell ⟨mb,1,none⟩ (.slice (some ⟨g4,0,none⟩) (us.length+1) c4):=⟨_,rfl⟩
 rw [<-hvv]
 rw [<-hvv] at HT
 have JR:=af (show eK v w.heap.size e from by
  rw [hvv];exact wz.out.only (aj.setCell x ⟨mb,1,none⟩ _) rT (fun h=>by subst h;exact absurd hb (Nat.lt_irrefl _)))
 have hzv:w.heap.size<v.heap.size:=by rw [hvv];simpa using rT
 clear hvv C3 F3
 obtain ⟨ov,F3,⟨vl3,vu3,gp,xy⟩,EK⟩:=HT.out
 have EL:¬F3 w.heap.size:=fun h=>by
  rcases EK _ h with h | h
  · exact J8 h
  · omega
 have xz:=af xy
 have Rn:=af EK
 have Ro:=af ov
 have bz:¬some w.heap.size=gp.ownBlock:=fun h=>EL (xy.bX _ h.symm).1
 have ia:¬some mb=gp.ownBlock:=fun h=>(xy.bX _ h.symm).2.1 rfl
 have kU:mb<v.heap.size:=xy.blt
 clear xy EK ov HT
 have qA:Hid (aj F w y/\∀j,F2 j->F j\/w.heap.size<=j):=by
  have o0:aj F w y:=(ni.out.only F).then (CX.out.mono fun j hj=> .inl (by subst hj;exact (HS.out.aJ j rfl).1))
  refine ⟨o0,fun j hj=>?_⟩
  rcases kp.out j hj with h | h
  · exact .inl h
  · exact .inr (zQ0 o0.size h)
 obtain ⟨d0,d1,d2,d3,d4,d5,d6,d7,d8,d9,d10,d11⟩:=JR.out.cells
 have C0:=aV (S:=fun j=>some j=gp.ownBlock) xz.out.ev ia
 have D0:=aV (S:=fun j=>some j=gp.ownBlock) d0 bz
 have D1:=aV (S:=fun j=>some j=gp.ownBlock) d1 bz
 have D2:=aV (S:=fun j=>some j=gp.ownBlock) d2 bz
 have D3:=aV (S:=fun j=>some j=gp.ownBlock) d3 bz
 have D4:=aV (S:=fun j=>some j=gp.ownBlock) d4 bz
 have D5:=aV (S:=fun j=>some j=gp.ownBlock) d5 bz
 have D6:=aV (S:=fun j=>some j=gp.ownBlock) d6 bz
 have D7:=aV (S:=fun j=>some j=gp.ownBlock) d7 bz
 have D8:=aV (S:=fun j=>some j=gp.ownBlock) d8 bz
 have D9:=aV (S:=fun j=>some j=gp.ownBlock) d9 bz
 have oo:=aV (S:=fun j=>some j=gp.ownBlock) d10 bz
 have oq:=aV (S:=fun j=>some j=gp.ownBlock) d11 bz
 clear d0 d1 d2 d3 d4 d5 d6 d7 d8 d9 d10 d11
 obtain ⟨i2,hi2,hx0,hx1,hx3⟩:=info_parts Wy
 refine gJ 10 [8,9] (aj (fun j=>some j=gp.ownBlock) v) Eq (dO 187 8 9 v (jf at' e) (jo 187 13 gp ne evs (jf at' e))) (fun f a=>(a.put (some 175) (f 8)).put (some 176) (f 9)) (by kernel_rfl) (by kernel_rfl) (fun _ _=>rfl) (dO.start v) (fun L f x h=>h.only fun _ _ _ h=>h.only) (fun _=>rfl) (fun _ _ _ _ h g=>g▸h) ?_
 repeat (first
  | refine gy ?_
  | (refine gB ?_;intro K hK;go_big_quiet_op;go_big_quiet_on)
  | (refine gz ?_;simp only [Act.put,sA,sB,sC]))
 refine jX (by rfl) ⟨⟨bH rfl (fun _ a=>a) (fun _ _=>rfl) (fun _=>rfl) ?_,bH rfl (fun f a=>a.put (some 175) (f 8)) (fun _ _=>rfl) (fun _=>rfl) ?_,trivial⟩,?_⟩
 · intro L f x hJ hL hd
   clear C0 D0 D1 D2 D3 D4 D5 D6 D7 D8 D9 oo oq
   have hm:=hJ.make (by decide) hL
   have hm2:=af hm
   clear hm hJ
   rw [C6.out] at hm2
   unfold En.vals at hm2
   go_simp
   exact hm2.out
 · intro L f x hJ hL hd
   clear C0 D0 D1 D2 D3 D4 D5 D6 D7 D8 D9 oo oq
   have h8:=hd 8 rfl (by decide)
   obtain ⟨vb,q8,tv,hvb⟩:=hJ.made h8 hL
   refine yu _ _ _ rfl 187 i2 _ 13 144 Tryz.underlying184 hi2 hx0 hx1 hx3 LD (by omega) gp ne evs rfl ?_ vb 1 (jf at' e) ?_ hvl hvb HV.out (by unfold maxLen;omega) (by omega) ?_
   · exact gI (hJ.ag hL) xz.out.iX
   · exact q8
   · intro r w' hD
     exact hJ.call (by decide) hL h8 hD
 rintro f x hJ
 clear C0 D0 D1 D2 D3 D4 D5 D6 D7 D8 D9 oo oq
 obtain ⟨x0,nQ,g5,c5,q9,aI,hgr,hat⟩:=hJ.done rfl
 rw [q9]
 have ho1:aj (fun j=>some j=gp.ownBlock) v x:=(nQ.only _).then (aj.of_grownBy hgr)
 have C3:x.cell? ⟨mb,2,none⟩=some gp:=(ho1.cell kU ia 2).trans xz.out.ev
 have F4:x.frozen? ⟨mb,2,none⟩=false:=(ho1.frozen kU ia 2).trans (xz.out.fz 2 (by omega))
 have HT:=af (xz.out.kT ho1 (r:=.slice (some ⟨g5,0,none⟩) (ne+1) c5) (fun g hg=>by
  cases hg
  rcases hat with h | h
  · exact .inl h
  · exact .inr (by rw [h];exact nQ.size)) aI)
 clear hJ q9 aI hgr hat ho1 nQ
 dsimp only [List.drop]
 go_wp2_with fail
 go_ret
 refine ⟨rfl,?_⟩
 refine lA.trans (F1:=F3) (w1:=v) ?_ ?_ HT.out
 · exact (qA.out.1.trans Oc.out (fun _=> .inl)).trans Ro.out qA.out.2
 · intro j hj
   rcases Rn.out j hj with h | h
   · exact qA.out.2 j h
   · exact .inr (zQ0 (qA.out.1.trans Oc.out (fun _=> .inl)).size h)
end
end
end Go.Proofs.YtbnofojapimfcaaGreatDoor
