/- Part 27 of the proof. -/
import Derived.Test.YtbnofojapimfcaaGreatDoorFinWatchStepsQ25
set_option linter.unusedVariables false
set_option linter.unusedSectionVars false
set_option linter.unusedSimpArgs false
set_option maxRecDepth 100000
set_option maxHeartbeats 16000000
namespace Go.Proofs.YtbnofojapimfcaaGreatDoor
section
open Go.RowKit Go.Maps
attribute [local go_sem] Oper.semAt_some
theorem y8f (e:En) (w:World) (hA:e.kind=1->bG w e) (hs:∀o∈e.ops,o.key.size<=16777216) (at_:Int) (ms:Nat) (h:¬(e.kind=1/\Pl.bR e=true)):
    Calls Tryz.prog 89 #[.pointer (some ⟨ms,0,none⟩),e.agg,.int .i64 at_] w fun r w'=>r=.returned (.tuple #[gK 0 0,.int .i64 4])/\ae w w':=by
 have HR:=af (fun W (g:ae w W) (h1:e.kind=1)=>L9 e W ((hA h1).ag g) (fun h3=>by omega) hs)
 have HW:=af (pB.start w e)
 obtain ⟨Y,hY⟩:∃Y,Y=(((w.alloc (.cells e.vals.toArray 39)).alloc (.cells #[.int .i64 0,.int .i64 0] 68)).alloc (.cells #[.int .i64 0,.int .i64 0] 68)):=⟨_,rfl⟩
 rw [<-hY] at HW
 have ku:=af hY
 clear hY hA hs
 unfold En.agg at *
 obtain ⟨kind,ai,other,server,ak,seq,key,upto,part,parts,ops,aC,aG,av,ar,aw⟩:=e
 unfold En.vals at HR ku ⊢
 dsimp only at *
 generalize jG:Pl.bR ⟨kind,ai,other,server,ak,seq,key,upto,part,parts,ops,aC,aG,av,ar,aw⟩=rb at *
 unfold gK
 by_cases hk:kind=1
 · subst hk
   obtain rfl:rb=false:=by cases rb with | false=>rfl | true=>exact absurd ⟨rfl,rfl⟩ h
   clear h jG
   go_in
   go_upto_region 2 with fail
   go_wp2_with fail
   rw [<-ku.out]
   refine (HR.out Y HW.out.ag (by trivial)).mono ?_
   rintro e w1 ⟨rfl,aA⟩
   have bl:=af (HW.out.more aA)
   have hl1:=bl.out.lt
   have a0:=bl.out.a0
   have a1:=bl.out.a1
   have f0:=bl.out.f0
   have f1:=bl.out.f1
   have n0:=bl.out.n0
   have n1:=bl.out.n1
   clear aA HW HR
   go_wp2_with fail
   refine bodyPost_ret (v:=.tuple #[.agg #[.int .i64 0,.int .i64 0],.int .i64 4]) (by simp [results,Tryz.results89,go_sem,a0,a1,f0,f1]) rfl ⟨rfl,?_⟩
   exact (bl.out.ag.setCell (show w.heap.size<=w.heap.size+1 by omega) _).setCell (show w.heap.size<=w.heap.size+1 by omega) _
 · have hkb:(kind==1)=false:=beq_eq_false_iff_ne.2 hk
   clear h jG HR
   go_in
   go_upto_region 2 with fail
   have bl:=HW
   obtain ⟨_⟩:True:=trivial
   rw [<-ku.out]
   have hl1:=bl.out.lt
   have a0:=bl.out.a0
   have a1:=bl.out.a1
   have f0:=bl.out.f0
   have f1:=bl.out.f1
   have n0:=bl.out.n0
   have n1:=bl.out.n1
   have c0:Y.cell? ⟨w.heap.size,0,none⟩=some (.int .i64 kind):=bl.out.cT 0 _ rfl
   clear HW
   go_wp2_with fail
   refine bodyPost_ret (v:=.tuple #[.agg #[.int .i64 0,.int .i64 0],.int .i64 4]) (by simp [results,Tryz.results89,go_sem,a0,a1,f0,f1]) rfl ⟨rfl,?_⟩
   exact (bl.out.ag.setCell (show w.heap.size<=w.heap.size+1 by omega) _).setCell (show w.heap.size<=w.heap.size+1 by omega) _
theorem y9m (e:En) {w:World} (hA:e.kind=1->bG w e) (hs:∀o∈e.ops,o.key.size<=16777216) (yG:∀o∈e.ops,o.val.size<=140737488351232) (at_:Int) {G:Nat->Prop} {ms sb:Nat} {lo hi:ByteArray} {D P:List Pr} {S:Int->Option An} (h:dY w G ms sb lo hi D S) (DN:Pl.Tt P D) (hl:lo.size<=16777216) (hh:hi.size<=16777216) (hx:D.length<=1000):
    Calls Tryz.prog 89 #[.pointer (some ⟨ms,0,none⟩),e.agg,.int .i64 at_] w fun r w'=>r=.returned (.tuple #[gK (Pl.eW lo hi P S e at_).code (Pl.eW lo hi P S e at_).at_,.int .i64 ((Pl.eW lo hi P S e at_).err:Nat)])/\∃D',oG w G ms sb lo hi D' (Pl.eW lo hi P S e at_).S w'/\Pl.Tt (Pl.eW lo hi P S e at_).P D':=by
 by_cases h1:e.kind=1/\Pl.bR e=true
 · by_cases h2:at_<0\/4096<=at_
   · have e1:Pl.eW lo hi P S e at_=⟨0,0,1,P,S⟩:=by unfold Pl.eW;rw [zZ0 (not_not_intro h1),zZ1 h2]
     rw [e1]
     refine (y7w e w (hA h1.1) hs at_ ms h1.1 h1.2 h2).mono ?_
     rintro r w' ⟨hr,hg⟩
     exact ⟨hr,D,oG.b9 h hg,DN⟩
   · have e1:(Pl.eW lo hi P S e at_).err=0:=by
      unfold Pl.eW;rw [zZ0 (not_not_intro h1),zZ0 h2]
      split
      · rfl
      · split
        · rfl
        · split<;> rfl
     rw [e1]
     exact z1Z e (hA h1.1) hs yG at_ h DN h1.1 h1.2 (by omega) (by omega) hl hh hx
 · have e1:Pl.eW lo hi P S e at_=⟨0,0,4,P,S⟩:=by unfold Pl.eW;rw [zZ1 h1]
   rw [e1]
   refine (y8f e w hA hs at_ ms h1).mono ?_
   rintro r w' ⟨hr,hg⟩
   exact ⟨hr,D,oG.b9 h hg,DN⟩
end
end Go.Proofs.YtbnofojapimfcaaGreatDoor
