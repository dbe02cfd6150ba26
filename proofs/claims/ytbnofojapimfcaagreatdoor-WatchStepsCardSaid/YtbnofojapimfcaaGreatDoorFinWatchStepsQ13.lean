/- Part 13 of the proof. -/
import Derived.Test.YtbnofojapimfcaaGreatDoorFinWatchStepsQ11
set_option linter.unusedVariables false
set_option linter.unusedSectionVars false
set_option linter.unusedSimpArgs false
set_option maxRecDepth 100000
set_option maxHeartbeats 16000000
namespace Go.Proofs.YtbnofojapimfcaaGreatDoor.Pl
def dD (s:ByteArray) (p:Nat):Nat:=(s.get! p).toNat
theorem Ho (s:ByteArray) (p:Nat):dD s p<256:=zK6 _
theorem Dc (s:ByteArray) (q:Nat) (h:q<s.size):dD s q=(s[q]'h).toNat:=by
 unfold dD
 congr 1
 simp [ByteArray.get!,getElem!_pos,h]
 rfl
theorem zx (s:ByteArray) (p:Nat) (hp:p<s.size):bp (fB s p)=j6 (s.size - p) (dD s p) (dD s (p+1)) (dD s (p+2)) (dD s (p+3)):=by
 rw [Fu,Lib.decode_at,yS _ _ _ _ _ (by omega) (Ho _ _) (Ho _ _) (Ho _ _) (Ho _ _)]
 rfl
theorem Hq (b:Nat) (h:b<128):dE b=some (1,0,b):=by unfold dE;rw [zZ1 h]
theorem Hr (b:Nat) (h:192<=b) (h2:b<224):dE b=some (2,128,b - 192):=by unfold dE;rw [zZ0 (by omega),zZ1 ⟨h,h2⟩]
theorem Ht (b:Nat) (h:224<=b) (h2:b<240):dE b=some (3,2048,b - 224):=by unfold dE;rw [zZ0 (by omega),zZ0 (by omega),zZ1 ⟨h,h2⟩]
theorem Hu (b:Nat) (h:240<=b) (h2:b<248):dE b=some (4,65536,b - 240):=by unfold dE;rw [zZ0 (by omega),zZ0 (by omega),zZ0 (by omega),zZ1 ⟨h,h2⟩]
theorem Bk (b:Nat) (h:128<=b/\b<192\/248<=b):dE b=none:=by unfold dE;rw [zZ0 (by omega),zZ0 (by omega),zZ0 (by omega),zZ0 (by omega)]
theorem vd (s:ByteArray) (p:Nat) (hp:p<s.size) (h:dE (dD s p)=none):bp (fB s p)=none:=by
 rw [zx s p hp,j6,h];rfl
theorem OA (s:ByteArray) (p:Nat) (hp:p<s.size) (k l c:Nat) (h:dE (dD s p)=some (k,l,c)) (hs:s.size - p<k):bp (fB s p)=none:=by
 rw [zx s p hp,j6,h]
 simp only [zK8]
 rw [zZ1 hs]
theorem Hv (s:ByteArray) (p:Nat) (hp:p<s.size) (l c:Nat) (h:dE (dD s p)=some (1,l,c)) (hs:¬s.size - p<1):
    bp (fB s p)=if im l c then some (c,1) else none:=by
 rw [zx s p hp,j6,h]
 simp only [zK8]
 rw [zZ0 hs,zZ1 trivial]
theorem oC (s:ByteArray) (p:Nat) (hp:p<s.size) (k l c:Nat) (h:dE (dD s p)=some (k,l,c)) (hk:k≠1) (hm:ba (dD s (p+1))=false):bp (fB s p)=none:=by
 rw [zx s p hp,j6,h]
 simp only [zK8]
 by_cases hs:s.size - p<k
 · rw [zZ1 hs]
 · rw [zZ0 hs,zZ0 hk,hm];rfl
theorem Bl (s:ByteArray) (p:Nat) (hp:p<s.size) (l c:Nat) (h:dE (dD s p)=some (2,l,c)) (hs:¬s.size - p<2) (hm:ba (dD s (p+1))=true):
    bp (fB s p)=if im l (c*64+dD s (p+1) - 128) then some (c*64+dD s (p+1) - 128,2) else none:=by
 rw [zx s p hp,j6,h]
 simp only [zK8]
 rw [zZ0 hs,zZ0 (by decide),hm];rfl
theorem vg (s:ByteArray) (p:Nat) (hp:p<s.size) (k l c:Nat) (h:dE (dD s p)=some (k,l,c)) (hk:k≠1) (hk2:k≠2) (hm:ba (dD s (p+2))=false):bp (fB s p)=none:=by
 cases hm1:ba (dD s (p+1)) with
 | false=>exact oC s p hp k l c h hk hm1
 | true=>
  rw [zx s p hp,j6,h]
  simp only [zK8]
  by_cases hs:s.size - p<k
  · rw [zZ1 hs]
  · rw [zZ0 hs,zZ0 hk,hm1,zZ0 (by decide),zZ0 hk2,hm];rfl
theorem LL (s:ByteArray) (p:Nat) (hp:p<s.size) (l c:Nat) (h:dE (dD s p)=some (3,l,c)) (hs:¬s.size - p<3) (hm:ba (dD s (p+1))=true) (hm2:ba (dD s (p+2))=true):
    bp (fB s p)=if im l ((c*64+dD s (p+1) - 128)*64+dD s (p+2) - 128) then some ((c*64+dD s (p+1) - 128)*64+dD s (p+2) - 128,3) else none:=by
 rw [zx s p hp,j6,h]
 simp only [zK8]
 rw [zZ0 hs,zZ0 (by decide),hm,zZ0 (by decide),zZ0 (by decide),hm2];rfl
theorem Hw (s:ByteArray) (p:Nat) (hp:p<s.size) (l c:Nat) (h:dE (dD s p)=some (4,l,c)) (hm:ba (dD s (p+3))=false):bp (fB s p)=none:=by
 cases hm1:ba (dD s (p+1)) with
 | false=>exact oC s p hp 4 l c h (by decide) hm1
 | true=>
  cases hm2:ba (dD s (p+2)) with
  | false=>exact vg s p hp 4 l c h (by decide) (by decide) hm2
  | true=>
   rw [zx s p hp,j6,h]
   simp only [zK8]
   by_cases hs:s.size - p<4
   · rw [zZ1 hs]
   · rw [zZ0 hs,zZ0 (by decide),hm1,zZ0 (by decide),zZ0 (by decide),hm2,zZ0 (by decide),zZ0 (by decide),hm];rfl
theorem OB (s:ByteArray) (p:Nat) (hp:p<s.size) (l c:Nat) (h:dE (dD s p)=some (4,l,c)) (hs:¬s.size - p<4) (hm:ba (dD s (p+1))=true) (hm2:ba (dD s (p+2))=true) (zu:ba (dD s (p+3))=true):
    bp (fB s p)=if im l (((c*64+dD s (p+1) - 128)*64+dD s (p+2) - 128)*64+dD s (p+3) - 128) then some (((c*64+dD s (p+1) - 128)*64+dD s (p+2) - 128)*64+dD s (p+3) - 128,4) else none:=by
 rw [zx s p hp,j6,h]
 simp only [zK8]
 rw [zZ0 hs,zZ0 (by decide),hm,zZ0 (by decide),zZ0 (by decide),hm2,zZ0 (by decide),zZ0 (by decide),zu];rfl
theorem lK (s:ByteArray) (p:Nat) (hp:p<s.size) (r:List Nat) (h:runes s.data.toList=(kC s p).map (r++·)) (hs:bp (fB s p)=none):runes s.data.toList=none:=by
 rw [h]
 unfold kC
 rw [rM _ (AX s p hp),hs];rfl
theorem Hx (s:ByteArray) (p:Nat) (hp:p<s.size) (r:List Nat) (h:runes s.data.toList=(kC s p).map (r++·)) (c k:Nat) (hs:bp (fB s p)=some (c,k)):
    runes s.data.toList=(kC s (p+k)).map ((r++[c])++·)/\p+k<=s.size/\1<=k:=by
 have hw:=GL (fB s p) (AX s p hp) (c,k) hs
 rw [Cq] at hw
 refine ⟨?_,by simp at hw;omega,by simp at hw;omega⟩
 rw [h]
 unfold kC
 rw [rM _ (AX s p hp),hs]
 simp only [zK8,Option.map_map]
 rw [Sw]
 congr 1
 funext x
 simp
theorem Zp (s:ByteArray) (p:Nat) (hp:¬p<s.size) (r:List Nat) (h:runes s.data.toList=(kC s p).map (r++·)):runes s.data.toList=some r:=by
 rw [h,GM s p hp];simp
end Go.Proofs.YtbnofojapimfcaaGreatDoor.Pl
namespace Go.Proofs.YtbnofojapimfcaaGreatDoor
section
open Go.RowKit
theorem A.info3:(Tryz.prog.info? 3).map (fun i=>(i.zero,i.size,i.bytes))=some (some (.int .i64 0),1,8):=by kernel_rfl
theorem jS {w wr:World} {T:TypeId} {v:Value} {n:Nat} {xs:List Value} (h:wr.ownsRow w.heap.size T 1 v n xs) (hB:Below w.heap.size w wr) (k:Nat):∃wq,wq.ownsRow w.heap.size T 1 v n xs/\Below w.heap.size w wq/\wq=wr.drewN k:=⟨wr.drewN k,h,⟨hB.os,hB.tape,hB.output,hB.size,hB.block⟩,rfl⟩
def TK (s:ByteArray) (w:World) (e:Ending) (w':World):Prop:=
 ae w w'/\((Pl.runes s.data.toList=none/\e=.returned (.tuple #[.slice none 0 0,.bool false]))\/
  ∃l v,Pl.runes s.data.toList=some l/\e=.returned (.tuple #[v,.bool true])/\w'.ownsRow w.heap.size 3 1 v l.length (l.map fun c=>Value.int .i64 (c:Nat)))
theorem lL {s:ByteArray} {w w':World} {e:Ending} (hB:Below w.heap.size w w') (h:Pl.runes s.data.toList=none) (he:e=.returned (.tuple #[.slice none 0 0,.bool false])):TK s w e w':=
 ⟨hB,.inl ⟨h,he⟩⟩
theorem TL (s:ByteArray) (w:World) (hs:s.size<=16777216):
    Calls Tryz.prog 117 #[.string s] w (TK s w):=by
 obtain ⟨i0,hi,hz0,hz1,hz2⟩:=info_parts A.info3
 go_in
 go_wp2
 go_loopw [4,5] (fun out i w'=>∃(p:Nat) (r:List Nat),i=.int .i64 p/\p<=s.size/\w'.ownsRow w.heap.size 3 1 out r.length (r.map fun c=>Value.int .i64 (c:Nat))/\Below w.heap.size w w'/\Hid (Pl.runes s.data.toList=(Pl.kC s p).map (r++·))/\r.length<=p) (fun _ i _=>s.size - (intOf i).toNat)
 case atStart=>exact ⟨0,[],rfl,Nat.zero_le _,World.ownsRow_made (cap:=0) w #[] (zZ3 _) (by unfold maxLen;omega) (by simp),(Below.refl _ _).alloc (zZ3 _) _,by unfold Hid;rw [Pl.XI];simp,zZ3 _⟩
 case round=>
  obtain ⟨p,r,rfl,hle,aD,hB,HR,hrl⟩:=hrel
  by_cases hp:p<s.size
  · have hp':(p:Int)<(s.size:Int):=by omega
    have hb:=zK6 (s[p]'hp)
    have e0:=af (Pl.Dc s p hp)
    by_cases c0:((s[p]'hp).toNat:Int)<128
    · have q:decide ((s.size:Int) - (p:Int)<1)=false:=by simp;omega
      go_wp2_with fail
      go_quiet (fail)
      obtain ⟨wq,hown2,hB2,cJ⟩:=jS aD hB nq
      rw [<-cJ]
      clear cJ
      go_wp2_with fail
      refine wp_loop_rounds 1 ?_
      rw [rounds_succ]
      have L:=af (Pl.Hq _ (show Pl.dD s p<128 by rw [e0.out];omega))
      have hst:Pl.bp (Pl.fB s p)=some (Pl.dD s p,1):=by
       rw [Pl.Hv s p hp _ _ L.out (by omega),zZ1]
       simp [Pl.im];have:=Pl.Ho s p;omega
      rw [e0.out] at hst
      have HST:=af hst
      clear hst
      go_wp2_with (at_builtin;go_loud (refine wpList_append_own _ rfl _ _ 183 rfl w.heap.size 3 i0 (.int .i64 0) 1 8 Tryz.underlying183 hi hz0 hz1 hz2 rfl (by decide) _ _ _ rfl (hown2.alloc _) ⟨wq.heap.size,0,none⟩ 1 1 [.int .i64 (((s[p]'hp).toNat:Int))] rfl rfl (cell_one_new _ _ _) (ints_oneCell .i64 [(((s[p]'hp).toNat:Int))]) (by unfold maxLen;omega) (by omega) (by have:=hB2.size;simp;omega) ?_);intro v' w1 hown1 hgrow1 qX)
      obtain ⟨g1,g2,g3⟩:=Pl.Hx s p hp r HR.out ((s[p]'hp).toNat) 1 (HST.out)
      have zy:Below w.heap.size w w1:=(hB2.alloc hB2.size _).grown hgrow1 (by have:=hB2.size;simp;omega) (fun j hj=>(hown2.lt j hj).1)
      go_wp2
      go_roundw
      case rel=>exact ⟨p+1,r++[(s[p]'hp).toNat],by go_num,g2,by simpa using hown1,zy,g1,by simp;omega⟩
      case measure=>simp [intOf];omega
    · by_cases c2:((s[p]'hp).toNat:Int)<192
      · have z1:¬192<=((s[p]'hp).toNat:Int):=by omega
        have z2:¬224<=((s[p]'hp).toNat:Int):=by omega
        have z3:¬240<=((s[p]'hp).toNat:Int):=by omega
        have HST:=af (Pl.vd s p hp (Pl.Bk _ (by rw [e0.out];omega)))
        go_wp2_with fail
        go_quiet (fail)
        obtain ⟨wq,hown2,hB2,cJ⟩:=jS aD hB nq
        rw [<-cJ]
        clear cJ
        go_wp2_with fail
        go_ret2
        exact lL hB2 (Pl.lK s p hp r HR.out (HST.out)) rfl
      · by_cases c3:((s[p]'hp).toNat:Int)<224
        · have c2a:192<=((s[p]'hp).toNat:Int):=by omega
          have c2b:((s[p]'hp).toNat:Int)<224:=by omega
          have L:=af (Pl.Hr _ (show 192<=Pl.dD s p by rw [e0.out];omega) (show Pl.dD s p<224 by rw [e0.out];omega))
          by_cases sh:s.size - p<2
          · have q:((s.size:Int) - (p:Int)<2):=by omega
            have HST:=af (Pl.OA s p hp _ _ _ L.out (by omega))
            go_wp2_with fail
            go_quiet (fail)
            obtain ⟨wq,hown2,hB2,cJ⟩:=jS aD hB nq
            rw [<-cJ]
            clear cJ
            go_wp2_with fail
            go_ret2
            exact lL hB2 (Pl.lK s p hp r HR.out (HST.out)) rfl
          · have q:decide ((s.size:Int) - (p:Int)<2)=false:=by simp;omega
            have h1:p+1<s.size:=by omega
            have h1':(p:Int)+1<(s.size:Int):=by omega
            have hb1:=zK6 (s[p+1]'h1)
            have e1:=af (Pl.Dc s (p+1) h1)
            by_cases d1:((s[p+1]'h1).toNat:Int)<128
            · have M:Pl.ba (Pl.dD s (p+1))=false:=by rw [e1.out];simp [Pl.ba];omega
              have HST:=af (Pl.oC s p hp _ _ _ L.out (by decide) M)
              clear M
              go_wp2_with fail
              go_quiet (fail)
              obtain ⟨wq,hown2,hB2,cJ⟩:=jS aD hB nq
              rw [<-cJ]
              clear cJ
              go_wp2_with fail
              refine wp_loop_rounds 2 ?_
              rw [rounds_succ]
              go_wp2_with fail
              go_ret2
              exact lL hB2 (Pl.lK s p hp r HR.out (HST.out)) rfl
            · by_cases TM:191<((s[p+1]'h1).toNat:Int)
              · have M:Pl.ba (Pl.dD s (p+1))=false:=by rw [e1.out];simp [Pl.ba];omega
                have HST:=af (Pl.oC s p hp _ _ _ L.out (by decide) M)
                clear M
                go_wp2_with fail
                go_quiet (fail)
                obtain ⟨wq,hown2,hB2,cJ⟩:=jS aD hB nq
                rw [<-cJ]
                clear cJ
                go_wp2_with fail
                refine wp_loop_rounds 2 ?_
                rw [rounds_succ]
                go_wp2_with fail
                go_ret2
                exact lL hB2 (Pl.lK s p hp r HR.out (HST.out)) rfl
              · have m1:Pl.ba (Pl.dD s (p+1))=true:=by rw [e1.out];simp [Pl.ba];omega
                have M1:=af m1
                clear m1
                by_cases f1:((((s[p]'hp).toNat:Int) - 192)*64+((s[p+1]'h1).toNat:Int) - 128)<128
                · have hst:Pl.bp (Pl.fB s p)=none:=by
                   rw [Pl.Bl s p hp _ _ L.out (by omega) M1.out,e0.out,e1.out,zZ0]
                   rw [Pl.yl];simp only [decide_eq_true_eq];omega
                  have HST:=af hst
                  clear hst
                  go_wp2_with fail
                  go_quiet (fail)
                  obtain ⟨wq,hown2,hB2,cJ⟩:=jS aD hB nq
                  rw [<-cJ]
                  clear cJ
                  go_wp2_with fail
                  refine wp_loop_rounds 2 ?_
                  iterate 2 (rw [rounds_succ];go_wp2_with fail)
                  go_ret2
                  exact lL hB2 (Pl.lK s p hp r HR.out (HST.out)) rfl
                · have f2:((((s[p]'hp).toNat:Int) - 192)*64+((s[p+1]'h1).toNat:Int) - 128)<55296:=by omega
                  have hst:Pl.bp (Pl.fB s p)=some ((((s[p]'hp).toNat - 192)*64+(s[p+1]'h1).toNat - 128),2):=by
                   rw [Pl.Bl s p hp _ _ L.out (by omega) M1.out,e0.out,e1.out,zZ1]
                   rw [Pl.yl];simp only [decide_eq_true_eq];omega
                  have HST:=af hst
                  clear hst
                  go_wp2_with fail
                  go_quiet (fail)
                  obtain ⟨wq,hown2,hB2,cJ⟩:=jS aD hB nq
                  rw [<-cJ]
                  clear cJ
                  go_wp2_with fail
                  refine wp_loop_rounds 2 ?_
                  rw [rounds_succ]
                  go_wp2_with fail
                  rw [rounds_succ]
                  go_wp2_with (at_builtin;go_loud (refine wpList_append_own _ rfl _ _ 183 rfl w.heap.size 3 i0 (.int .i64 0) 1 8 Tryz.underlying183 hi hz0 hz1 hz2 rfl (by decide) _ _ _ rfl (hown2.alloc _) ⟨wq.heap.size,0,none⟩ 1 1 [.int .i64 (((((s[p]'hp).toNat:Int) - 192)*64+((s[p+1]'h1).toNat:Int) - 128))] rfl rfl (cell_one_new _ _ _) (ints_oneCell .i64 [(((((s[p]'hp).toNat:Int) - 192)*64+((s[p+1]'h1).toNat:Int) - 128))]) (by unfold maxLen;omega) (by omega) (by have:=hB2.size;simp;omega) ?_);intro v' w1 hown1 hgrow1 qX)
                  obtain ⟨g1,g2,g3⟩:=Pl.Hx s p hp r HR.out ((((s[p]'hp).toNat - 192)*64+(s[p+1]'h1).toNat - 128)) 2 (HST.out)
                  have zy:Below w.heap.size w w1:=(hB2.alloc hB2.size _).grown hgrow1 (by have:=hB2.size;simp;omega) (fun j hj=>(hown2.lt j hj).1)
                  have hce:(((((s[p]'hp).toNat:Int) - 192)*64+((s[p+1]'h1).toNat:Int) - 128):Int)=(((((s[p]'hp).toNat - 192)*64+(s[p+1]'h1).toNat - 128):Nat):Int):=by omega
                  have HO:=af hown1
                  clear hown1
                  have Dd:=af hce
                  clear hce
                  go_wp2
                  go_roundw
                  case rel=>exact ⟨p+2,r++[(((s[p]'hp).toNat - 192)*64+(s[p+1]'h1).toNat - 128)],by go_num,g2,by have:=HO.out;rw [Dd.out] at this;simpa using this,zy,g1,by simp;omega⟩
                  case measure=>simp [intOf];omega
        · by_cases c4:((s[p]'hp).toNat:Int)<240
          · have c3a:224<=((s[p]'hp).toNat:Int):=by omega
            have c3b:((s[p]'hp).toNat:Int)<240:=by omega
            have L:=af (Pl.Ht _ (show 224<=Pl.dD s p by rw [e0.out];omega) (show Pl.dD s p<240 by rw [e0.out];omega))
            by_cases sh:s.size - p<3
            · have q:((s.size:Int) - (p:Int)<3):=by omega
              have HST:=af (Pl.OA s p hp _ _ _ L.out (by omega))
              go_wp2_with fail
              go_quiet (fail)
              obtain ⟨wq,hown2,hB2,cJ⟩:=jS aD hB nq
              rw [<-cJ]
              clear cJ
              go_wp2_with fail
              go_ret2
              exact lL hB2 (Pl.lK s p hp r HR.out (HST.out)) rfl
            · have q:decide ((s.size:Int) - (p:Int)<3)=false:=by simp;omega
              have h1:p+1<s.size:=by omega
              have h1':(p:Int)+1<(s.size:Int):=by omega
              have hb1:=zK6 (s[p+1]'h1)
              have e1:=af (Pl.Dc s (p+1) h1)
              by_cases d1:((s[p+1]'h1).toNat:Int)<128
              · have M:Pl.ba (Pl.dD s (p+1))=false:=by rw [e1.out];simp [Pl.ba];omega
                have HST:=af (Pl.oC s p hp _ _ _ L.out (by decide) M)
                clear M
                go_wp2_with fail
                go_quiet (fail)
                obtain ⟨wq,hown2,hB2,cJ⟩:=jS aD hB nq
                rw [<-cJ]
                clear cJ
                go_wp2_with fail
                refine wp_loop_rounds 2 ?_
                rw [rounds_succ]
                go_wp2_with fail
                go_ret2
                exact lL hB2 (Pl.lK s p hp r HR.out (HST.out)) rfl
              · by_cases TM:191<((s[p+1]'h1).toNat:Int)
                · have M:Pl.ba (Pl.dD s (p+1))=false:=by rw [e1.out];simp [Pl.ba];omega
                  have HST:=af (Pl.oC s p hp _ _ _ L.out (by decide) M)
                  clear M
                  go_wp2_with fail
                  go_quiet (fail)
                  obtain ⟨wq,hown2,hB2,cJ⟩:=jS aD hB nq
                  rw [<-cJ]
                  clear cJ
                  go_wp2_with fail
                  refine wp_loop_rounds 2 ?_
                  rw [rounds_succ]
                  go_wp2_with fail
                  go_ret2
                  exact lL hB2 (Pl.lK s p hp r HR.out (HST.out)) rfl
                · have m1:Pl.ba (Pl.dD s (p+1))=true:=by rw [e1.out];simp [Pl.ba];omega
                  have M1:=af m1
                  clear m1
                  have h2:p+2<s.size:=by omega
                  have h2':(p:Int)+2<(s.size:Int):=by omega
                  have hb2:=zK6 (s[p+2]'h2)
                  have e2:=af (Pl.Dc s (p+2) h2)
                  by_cases d2:((s[p+2]'h2).toNat:Int)<128
                  · have M:Pl.ba (Pl.dD s (p+2))=false:=by rw [e2.out];simp [Pl.ba];omega
                    have HST:=af (Pl.vg s p hp _ _ _ L.out (by decide) (by decide) M)
                    clear M
                    go_wp2_with fail
                    go_quiet (fail)
                    obtain ⟨wq,hown2,hB2,cJ⟩:=jS aD hB nq
                    rw [<-cJ]
                    clear cJ
                    go_wp2_with fail
                    refine wp_loop_rounds 3 ?_
                    iterate 2 (rw [rounds_succ];go_wp2_with fail)
                    go_ret2
                    exact lL hB2 (Pl.lK s p hp r HR.out (HST.out)) rfl
                  · by_cases Zq:191<((s[p+2]'h2).toNat:Int)
                    · have M:Pl.ba (Pl.dD s (p+2))=false:=by rw [e2.out];simp [Pl.ba];omega
                      have HST:=af (Pl.vg s p hp _ _ _ L.out (by decide) (by decide) M)
                      clear M
                      go_wp2_with fail
                      go_quiet (fail)
                      obtain ⟨wq,hown2,hB2,cJ⟩:=jS aD hB nq
                      rw [<-cJ]
                      clear cJ
                      go_wp2_with fail
                      refine wp_loop_rounds 3 ?_
                      iterate 2 (rw [rounds_succ];go_wp2_with fail)
                      go_ret2
                      exact lL hB2 (Pl.lK s p hp r HR.out (HST.out)) rfl
                    · have m2:Pl.ba (Pl.dD s (p+2))=true:=by rw [e2.out];simp [Pl.ba];omega
                      have M2:=af m2
                      clear m2
                      by_cases f1:(((((s[p]'hp).toNat:Int) - 224)*64+((s[p+1]'h1).toNat:Int) - 128)*64+((s[p+2]'h2).toNat:Int) - 128)<2048
                      · have hst:Pl.bp (Pl.fB s p)=none:=by
                         rw [Pl.LL s p hp _ _ L.out (by omega) M1.out M2.out,e0.out,e1.out,e2.out,zZ0]
                         rw [Pl.yl];simp only [decide_eq_true_eq];omega
                        have HST:=af hst
                        clear hst
                        go_wp2_with fail
                        go_quiet (fail)
                        obtain ⟨wq,hown2,hB2,cJ⟩:=jS aD hB nq
                        rw [<-cJ]
                        clear cJ
                        go_wp2_with fail
                        refine wp_loop_rounds 3 ?_
                        iterate 3 (rw [rounds_succ];go_wp2_with fail)
                        go_ret2
                        exact lL hB2 (Pl.lK s p hp r HR.out (HST.out)) rfl
                      · by_cases f2:55296<=(((((s[p]'hp).toNat:Int) - 224)*64+((s[p+1]'h1).toNat:Int) - 128)*64+((s[p+2]'h2).toNat:Int) - 128)
                        · by_cases f3:(((((s[p]'hp).toNat:Int) - 224)*64+((s[p+1]'h1).toNat:Int) - 128)*64+((s[p+2]'h2).toNat:Int) - 128)<=57343
                          · have f4:¬1114111<(((((s[p]'hp).toNat:Int) - 224)*64+((s[p+1]'h1).toNat:Int) - 128)*64+((s[p+2]'h2).toNat:Int) - 128):=by omega
                            have hst:Pl.bp (Pl.fB s p)=none:=by
                             rw [Pl.LL s p hp _ _ L.out (by omega) M1.out M2.out,e0.out,e1.out,e2.out,zZ0]
                             rw [Pl.yl];simp only [decide_eq_true_eq];omega
                            have HST:=af hst
                            clear hst
                            go_wp2_with fail
                            go_quiet (fail)
                            obtain ⟨wq,hown2,hB2,cJ⟩:=jS aD hB nq
                            rw [<-cJ]
                            clear cJ
                            go_wp2_with fail
                            refine wp_loop_rounds 3 ?_
                            iterate 3 (rw [rounds_succ];go_wp2_with fail)
                            go_ret2
                            exact lL hB2 (Pl.lK s p hp r HR.out (HST.out)) rfl
                          · have f4:¬1114111<(((((s[p]'hp).toNat:Int) - 224)*64+((s[p+1]'h1).toNat:Int) - 128)*64+((s[p+2]'h2).toNat:Int) - 128):=by omega
                            have hst:Pl.bp (Pl.fB s p)=some (((((s[p]'hp).toNat - 224)*64+(s[p+1]'h1).toNat - 128)*64+(s[p+2]'h2).toNat - 128),3):=by
                             rw [Pl.LL s p hp _ _ L.out (by omega) M1.out M2.out,e0.out,e1.out,e2.out,zZ1]
                             rw [Pl.yl];simp only [decide_eq_true_eq];omega
                            have HST:=af hst
                            clear hst
                            go_wp2_with fail
                            go_quiet (fail)
                            obtain ⟨wq,hown2,hB2,cJ⟩:=jS aD hB nq
                            rw [<-cJ]
                            clear cJ
                            go_wp2_with fail
                            refine wp_loop_rounds 3 ?_
                            iterate 2 (rw [rounds_succ];go_wp2_with fail)
                            rw [rounds_succ]
                            go_wp2_with (at_builtin;go_loud (refine wpList_append_own _ rfl _ _ 183 rfl w.heap.size 3 i0 (.int .i64 0) 1 8 Tryz.underlying183 hi hz0 hz1 hz2 rfl (by decide) _ _ _ rfl (hown2.alloc _) ⟨wq.heap.size,0,none⟩ 1 1 [.int .i64 ((((((s[p]'hp).toNat:Int) - 224)*64+((s[p+1]'h1).toNat:Int) - 128)*64+((s[p+2]'h2).toNat:Int) - 128))] rfl rfl (cell_one_new _ _ _) (ints_oneCell .i64 [((((((s[p]'hp).toNat:Int) - 224)*64+((s[p+1]'h1).toNat:Int) - 128)*64+((s[p+2]'h2).toNat:Int) - 128))]) (by unfold maxLen;omega) (by omega) (by have:=hB2.size;simp;omega) ?_);intro v' w1 hown1 hgrow1 qX)
                            obtain ⟨g1,g2,g3⟩:=Pl.Hx s p hp r HR.out (((((s[p]'hp).toNat - 224)*64+(s[p+1]'h1).toNat - 128)*64+(s[p+2]'h2).toNat - 128)) 3 (HST.out)
                            have zy:Below w.heap.size w w1:=(hB2.alloc hB2.size _).grown hgrow1 (by have:=hB2.size;simp;omega) (fun j hj=>(hown2.lt j hj).1)
                            have hce:((((((s[p]'hp).toNat:Int) - 224)*64+((s[p+1]'h1).toNat:Int) - 128)*64+((s[p+2]'h2).toNat:Int) - 128):Int)=((((((s[p]'hp).toNat - 224)*64+(s[p+1]'h1).toNat - 128)*64+(s[p+2]'h2).toNat - 128):Nat):Int):=by omega
                            have HO:=af hown1
                            clear hown1
                            have Dd:=af hce
                            clear hce
                            go_wp2
                            go_roundw
                            case rel=>exact ⟨p+3,r++[((((s[p]'hp).toNat - 224)*64+(s[p+1]'h1).toNat - 128)*64+(s[p+2]'h2).toNat - 128)],by go_num,g2,by have:=HO.out;rw [Dd.out] at this;simpa using this,zy,g1,by simp;omega⟩
                            case measure=>simp [intOf];omega
                        · have f4:¬1114111<(((((s[p]'hp).toNat:Int) - 224)*64+((s[p+1]'h1).toNat:Int) - 128)*64+((s[p+2]'h2).toNat:Int) - 128):=by omega
                          have hst:Pl.bp (Pl.fB s p)=some (((((s[p]'hp).toNat - 224)*64+(s[p+1]'h1).toNat - 128)*64+(s[p+2]'h2).toNat - 128),3):=by
                           rw [Pl.LL s p hp _ _ L.out (by omega) M1.out M2.out,e0.out,e1.out,e2.out,zZ1]
                           rw [Pl.yl];simp only [decide_eq_true_eq];omega
                          have HST:=af hst
                          clear hst
                          go_wp2_with fail
                          go_quiet (fail)
                          obtain ⟨wq,hown2,hB2,cJ⟩:=jS aD hB nq
                          rw [<-cJ]
                          clear cJ
                          go_wp2_with fail
                          refine wp_loop_rounds 3 ?_
                          iterate 2 (rw [rounds_succ];go_wp2_with fail)
                          rw [rounds_succ]
                          go_wp2_with (at_builtin;go_loud (refine wpList_append_own _ rfl _ _ 183 rfl w.heap.size 3 i0 (.int .i64 0) 1 8 Tryz.underlying183 hi hz0 hz1 hz2 rfl (by decide) _ _ _ rfl (hown2.alloc _) ⟨wq.heap.size,0,none⟩ 1 1 [.int .i64 ((((((s[p]'hp).toNat:Int) - 224)*64+((s[p+1]'h1).toNat:Int) - 128)*64+((s[p+2]'h2).toNat:Int) - 128))] rfl rfl (cell_one_new _ _ _) (ints_oneCell .i64 [((((((s[p]'hp).toNat:Int) - 224)*64+((s[p+1]'h1).toNat:Int) - 128)*64+((s[p+2]'h2).toNat:Int) - 128))]) (by unfold maxLen;omega) (by omega) (by have:=hB2.size;simp;omega) ?_);intro v' w1 hown1 hgrow1 qX)
                          obtain ⟨g1,g2,g3⟩:=Pl.Hx s p hp r HR.out (((((s[p]'hp).toNat - 224)*64+(s[p+1]'h1).toNat - 128)*64+(s[p+2]'h2).toNat - 128)) 3 (HST.out)
                          have zy:Below w.heap.size w w1:=(hB2.alloc hB2.size _).grown hgrow1 (by have:=hB2.size;simp;omega) (fun j hj=>(hown2.lt j hj).1)
                          have hce:((((((s[p]'hp).toNat:Int) - 224)*64+((s[p+1]'h1).toNat:Int) - 128)*64+((s[p+2]'h2).toNat:Int) - 128):Int)=((((((s[p]'hp).toNat - 224)*64+(s[p+1]'h1).toNat - 128)*64+(s[p+2]'h2).toNat - 128):Nat):Int):=by omega
                          have HO:=af hown1
                          clear hown1
                          have Dd:=af hce
                          clear hce
                          go_wp2
                          go_roundw
                          case rel=>exact ⟨p+3,r++[((((s[p]'hp).toNat - 224)*64+(s[p+1]'h1).toNat - 128)*64+(s[p+2]'h2).toNat - 128)],by go_num,g2,by have:=HO.out;rw [Dd.out] at this;simpa using this,zy,g1,by simp;omega⟩
                          case measure=>simp [intOf];omega
          · by_cases c5:((s[p]'hp).toNat:Int)<248
            · have c4a:240<=((s[p]'hp).toNat:Int):=by omega
              have c4b:((s[p]'hp).toNat:Int)<248:=by omega
              have L:=af (Pl.Hu _ (show 240<=Pl.dD s p by rw [e0.out];omega) (show Pl.dD s p<248 by rw [e0.out];omega))
              by_cases sh:s.size - p<4
              · have q:((s.size:Int) - (p:Int)<4):=by omega
                have HST:=af (Pl.OA s p hp _ _ _ L.out (by omega))
                go_wp2_with fail
                go_quiet (fail)
                obtain ⟨wq,hown2,hB2,cJ⟩:=jS aD hB nq
                rw [<-cJ]
                clear cJ
                go_wp2_with fail
                go_ret2
                exact lL hB2 (Pl.lK s p hp r HR.out (HST.out)) rfl
              · have q:decide ((s.size:Int) - (p:Int)<4)=false:=by simp;omega
                have h1:p+1<s.size:=by omega
                have h1':(p:Int)+1<(s.size:Int):=by omega
                have hb1:=zK6 (s[p+1]'h1)
                have e1:=af (Pl.Dc s (p+1) h1)
                by_cases d1:((s[p+1]'h1).toNat:Int)<128
                · have M:Pl.ba (Pl.dD s (p+1))=false:=by rw [e1.out];simp [Pl.ba];omega
                  have HST:=af (Pl.oC s p hp _ _ _ L.out (by decide) M)
                  clear M
                  go_wp2_with fail
                  go_quiet (fail)
                  obtain ⟨wq,hown2,hB2,cJ⟩:=jS aD hB nq
                  rw [<-cJ]
                  clear cJ
                  go_wp2_with fail
                  refine wp_loop_rounds 2 ?_
                  rw [rounds_succ]
                  go_wp2_with fail
                  go_ret2
                  exact lL hB2 (Pl.lK s p hp r HR.out (HST.out)) rfl
                · by_cases TM:191<((s[p+1]'h1).toNat:Int)
                  · have M:Pl.ba (Pl.dD s (p+1))=false:=by rw [e1.out];simp [Pl.ba];omega
                    have HST:=af (Pl.oC s p hp _ _ _ L.out (by decide) M)
                    clear M
                    go_wp2_with fail
                    go_quiet (fail)
                    obtain ⟨wq,hown2,hB2,cJ⟩:=jS aD hB nq
                    rw [<-cJ]
                    clear cJ
                    go_wp2_with fail
                    refine wp_loop_rounds 2 ?_
                    rw [rounds_succ]
                    go_wp2_with fail
                    go_ret2
                    exact lL hB2 (Pl.lK s p hp r HR.out (HST.out)) rfl
                  · have m1:Pl.ba (Pl.dD s (p+1))=true:=by rw [e1.out];simp [Pl.ba];omega
                    have M1:=af m1
                    clear m1
                    have h2:p+2<s.size:=by omega
                    have h2':(p:Int)+2<(s.size:Int):=by omega
                    have hb2:=zK6 (s[p+2]'h2)
                    have e2:=af (Pl.Dc s (p+2) h2)
                    by_cases d2:((s[p+2]'h2).toNat:Int)<128
                    · have M:Pl.ba (Pl.dD s (p+2))=false:=by rw [e2.out];simp [Pl.ba];omega
                      have HST:=af (Pl.vg s p hp _ _ _ L.out (by decide) (by decide) M)
                      clear M
                      go_wp2_with fail
                      go_quiet (fail)
                      obtain ⟨wq,hown2,hB2,cJ⟩:=jS aD hB nq
                      rw [<-cJ]
                      clear cJ
                      go_wp2_with fail
                      refine wp_loop_rounds 3 ?_
                      iterate 2 (rw [rounds_succ];go_wp2_with fail)
                      go_ret2
                      exact lL hB2 (Pl.lK s p hp r HR.out (HST.out)) rfl
                    · by_cases Zq:191<((s[p+2]'h2).toNat:Int)
                      · have M:Pl.ba (Pl.dD s (p+2))=false:=by rw [e2.out];simp [Pl.ba];omega
                        have HST:=af (Pl.vg s p hp _ _ _ L.out (by decide) (by decide) M)
                        clear M
                        go_wp2_with fail
                        go_quiet (fail)
                        obtain ⟨wq,hown2,hB2,cJ⟩:=jS aD hB nq
                        rw [<-cJ]
                        clear cJ
                        go_wp2_with fail
                        refine wp_loop_rounds 3 ?_
                        iterate 2 (rw [rounds_succ];go_wp2_with fail)
                        go_ret2
                        exact lL hB2 (Pl.lK s p hp r HR.out (HST.out)) rfl
                      · have m2:Pl.ba (Pl.dD s (p+2))=true:=by rw [e2.out];simp [Pl.ba];omega
                        have M2:=af m2
                        clear m2
                        have h3:p+3<s.size:=by omega
                        have h3':(p:Int)+3<(s.size:Int):=by omega
                        have hb3:=zK6 (s[p+3]'h3)
                        have e3:=af (Pl.Dc s (p+3) h3)
                        by_cases d3:((s[p+3]'h3).toNat:Int)<128
                        · have M:Pl.ba (Pl.dD s (p+3))=false:=by rw [e3.out];simp [Pl.ba];omega
                          have HST:=af (Pl.Hw s p hp _ _ L.out M)
                          clear M
                          go_wp2_with fail
                          go_quiet (fail)
                          obtain ⟨wq,hown2,hB2,cJ⟩:=jS aD hB nq
                          rw [<-cJ]
                          clear cJ
                          go_wp2_with fail
                          refine wp_loop_rounds 4 ?_
                          iterate 3 (rw [rounds_succ];go_wp2_with fail)
                          go_ret2
                          exact lL hB2 (Pl.lK s p hp r HR.out (HST.out)) rfl
                        · by_cases d3':191<((s[p+3]'h3).toNat:Int)
                          · have M:Pl.ba (Pl.dD s (p+3))=false:=by rw [e3.out];simp [Pl.ba];omega
                            have HST:=af (Pl.Hw s p hp _ _ L.out M)
                            clear M
                            go_wp2_with fail
                            go_quiet (fail)
                            obtain ⟨wq,hown2,hB2,cJ⟩:=jS aD hB nq
                            rw [<-cJ]
                            clear cJ
                            go_wp2_with fail
                            refine wp_loop_rounds 4 ?_
                            iterate 3 (rw [rounds_succ];go_wp2_with fail)
                            go_ret2
                            exact lL hB2 (Pl.lK s p hp r HR.out (HST.out)) rfl
                          · have m3:Pl.ba (Pl.dD s (p+3))=true:=by rw [e3.out];simp [Pl.ba];omega
                            have M3:=af m3
                            clear m3
                            by_cases f1:((((((s[p]'hp).toNat:Int) - 240)*64+((s[p+1]'h1).toNat:Int) - 128)*64+((s[p+2]'h2).toNat:Int) - 128)*64+((s[p+3]'h3).toNat:Int) - 128)<65536
                            · have hst:Pl.bp (Pl.fB s p)=none:=by
                               rw [Pl.OB s p hp _ _ L.out (by omega) M1.out M2.out M3.out,e0.out,e1.out,e2.out,e3.out,zZ0]
                               rw [Pl.yl];simp only [decide_eq_true_eq];omega
                              have HST:=af hst
                              clear hst
                              go_wp2_with fail
                              go_quiet (fail)
                              obtain ⟨wq,hown2,hB2,cJ⟩:=jS aD hB nq
                              rw [<-cJ]
                              clear cJ
                              go_wp2_with fail
                              refine wp_loop_rounds 4 ?_
                              iterate 4 (rw [rounds_succ];go_wp2_with fail)
                              go_ret2
                              exact lL hB2 (Pl.lK s p hp r HR.out (HST.out)) rfl
                            · by_cases f2:1114111<((((((s[p]'hp).toNat:Int) - 240)*64+((s[p+1]'h1).toNat:Int) - 128)*64+((s[p+2]'h2).toNat:Int) - 128)*64+((s[p+3]'h3).toNat:Int) - 128)
                              · have hst:Pl.bp (Pl.fB s p)=none:=by
                                 rw [Pl.OB s p hp _ _ L.out (by omega) M1.out M2.out M3.out,e0.out,e1.out,e2.out,e3.out,zZ0]
                                 rw [Pl.yl];simp only [decide_eq_true_eq];omega
                                have HST:=af hst
                                clear hst
                                go_wp2_with fail
                                go_quiet (fail)
                                obtain ⟨wq,hown2,hB2,cJ⟩:=jS aD hB nq
                                rw [<-cJ]
                                clear cJ
                                go_wp2_with fail
                                refine wp_loop_rounds 4 ?_
                                iterate 4 (rw [rounds_succ];go_wp2_with fail)
                                go_ret2
                                exact lL hB2 (Pl.lK s p hp r HR.out (HST.out)) rfl
                              · have f3:55296<=((((((s[p]'hp).toNat:Int) - 240)*64+((s[p+1]'h1).toNat:Int) - 128)*64+((s[p+2]'h2).toNat:Int) - 128)*64+((s[p+3]'h3).toNat:Int) - 128):=by omega
                                have f4:¬((((((s[p]'hp).toNat:Int) - 240)*64+((s[p+1]'h1).toNat:Int) - 128)*64+((s[p+2]'h2).toNat:Int) - 128)*64+((s[p+3]'h3).toNat:Int) - 128)<=57343:=by omega
                                have hst:Pl.bp (Pl.fB s p)=some ((((((s[p]'hp).toNat - 240)*64+(s[p+1]'h1).toNat - 128)*64+(s[p+2]'h2).toNat - 128)*64+(s[p+3]'h3).toNat - 128),4):=by
                                 rw [Pl.OB s p hp _ _ L.out (by omega) M1.out M2.out M3.out,e0.out,e1.out,e2.out,e3.out,zZ1]
                                 rw [Pl.yl];simp only [decide_eq_true_eq];omega
                                have HST:=af hst
                                clear hst
                                go_wp2_with fail
                                go_quiet (fail)
                                obtain ⟨wq,hown2,hB2,cJ⟩:=jS aD hB nq
                                rw [<-cJ]
                                clear cJ
                                go_wp2_with fail
                                refine wp_loop_rounds 4 ?_
                                iterate 3 (rw [rounds_succ];go_wp2_with fail)
                                rw [rounds_succ]
                                go_wp2_with (at_builtin;go_loud (refine wpList_append_own _ rfl _ _ 183 rfl w.heap.size 3 i0 (.int .i64 0) 1 8 Tryz.underlying183 hi hz0 hz1 hz2 rfl (by decide) _ _ _ rfl (hown2.alloc _) ⟨wq.heap.size,0,none⟩ 1 1 [.int .i64 (((((((s[p]'hp).toNat:Int) - 240)*64+((s[p+1]'h1).toNat:Int) - 128)*64+((s[p+2]'h2).toNat:Int) - 128)*64+((s[p+3]'h3).toNat:Int) - 128))] rfl rfl (cell_one_new _ _ _) (ints_oneCell .i64 [(((((((s[p]'hp).toNat:Int) - 240)*64+((s[p+1]'h1).toNat:Int) - 128)*64+((s[p+2]'h2).toNat:Int) - 128)*64+((s[p+3]'h3).toNat:Int) - 128))]) (by unfold maxLen;omega) (by omega) (by have:=hB2.size;simp;omega) ?_);intro v' w1 hown1 hgrow1 qX)
                                obtain ⟨g1,g2,g3⟩:=Pl.Hx s p hp r HR.out ((((((s[p]'hp).toNat - 240)*64+(s[p+1]'h1).toNat - 128)*64+(s[p+2]'h2).toNat - 128)*64+(s[p+3]'h3).toNat - 128)) 4 (HST.out)
                                have zy:Below w.heap.size w w1:=(hB2.alloc hB2.size _).grown hgrow1 (by have:=hB2.size;simp;omega) (fun j hj=>(hown2.lt j hj).1)
                                have hce:(((((((s[p]'hp).toNat:Int) - 240)*64+((s[p+1]'h1).toNat:Int) - 128)*64+((s[p+2]'h2).toNat:Int) - 128)*64+((s[p+3]'h3).toNat:Int) - 128):Int)=(((((((s[p]'hp).toNat - 240)*64+(s[p+1]'h1).toNat - 128)*64+(s[p+2]'h2).toNat - 128)*64+(s[p+3]'h3).toNat - 128):Nat):Int):=by omega
                                have HO:=af hown1
                                clear hown1
                                have Dd:=af hce
                                clear hce
                                go_wp2
                                go_roundw
                                case rel=>exact ⟨p+4,r++[(((((s[p]'hp).toNat - 240)*64+(s[p+1]'h1).toNat - 128)*64+(s[p+2]'h2).toNat - 128)*64+(s[p+3]'h3).toNat - 128)],by go_num,g2,by have:=HO.out;rw [Dd.out] at this;simpa using this,zy,g1,by simp;omega⟩
                                case measure=>simp [intOf];omega
            · have HST:=af (Pl.vd s p hp (Pl.Bk _ (by rw [e0.out];omega)))
              go_wp2_with fail
              go_quiet (fail)
              obtain ⟨wq,hown2,hB2,cJ⟩:=jS aD hB nq
              rw [<-cJ]
              clear cJ
              go_wp2_with fail
              go_ret2
              exact lL hB2 (Pl.lK s p hp r HR.out (HST.out)) rfl
  · have HD:=af (Pl.Zp s p hp r HR.out)
    go_wp2
    go_ret2
    exact ⟨hB,.inr ⟨r,_,HD.out,rfl,aD⟩⟩
theorem vp {w:World} {base:Nat} {v:Value} {l:List Nat} (h:w.ownsRow base 3 1 v l.length (l.map fun c=>Value.int .i64 (c:Nat))) (hl:l≠[]):
    ∃g cap,v=.slice (some ⟨g,0,none⟩) l.length cap/\∀i,i<l.length->w.cell? ⟨g,i,none⟩=some (.int .i64 (l.getD i 0:Nat)):=by
 rcases h.2 with ⟨_,h0⟩ | ⟨g,cap,cur,rfl,_,hg,_,_,_,ht⟩
 · exact absurd (zX1 h0) hl
 · refine ⟨g,cap,rfl,fun i hi=>?_⟩
   rw [cell_of_row _ _ _ _ _ _ hg]
   have:(cur.toList.take (l.length*1))[i]? =some (.int .i64 (l.getD i 0:Nat)):=by rw [ht];simp [hi]
   rw [List.getElem?_take] at this
   split at this
   · simpa using this
   · cases this
theorem vr (s:ByteArray) (w:World) (hs:s.size<=16777216):
    Calls Tryz.prog 66 #[.string s] w fun e w'=>e=.returned (.int .i64 (Pl.aF s:Nat))/\ae w w':=by
 go_in
 go_wp2_with fail
 refine (TL s _ hs).mono ?_
 rintro e w1 ⟨hg,⟨hr,rfl⟩ | ⟨l,v,hr,rfl,aD⟩⟩
 · have hk:Pl.aF s=6:=by unfold Pl.aF;rw [hr]
   have HK:=af hk
   clear hk hr
   go_wp2
   go_ret
   exact ⟨fV (by rw [HK.out];rfl),hg⟩
 · have hk:Pl.aF s=Pl.ji l:=by unfold Pl.aF;rw [hr]
   have hl:=Pl.Cu _ _ l (zZ3 _) hr
   have hl2:l.length<=s.size:=by simpa using hl
   have HK:=af hk
   clear hk hr hl
   by_cases l0:l=[]
   · subst l0
     have e2:=HK.out
     have hv:∃a cap,v=.slice a 0 cap:=by
      rcases aD.2 with ⟨rfl,_⟩ | ⟨g,cap,cur,rfl,_⟩
      · exact ⟨_,_,rfl⟩
      · exact ⟨_,_,rfl⟩
     obtain ⟨a,cap,rfl⟩:=hv
     clear e2 aD
     go_wp2
     go_ret
     exact ⟨fV (by rw [HK.out];rfl),hg⟩
   · have lp:0<l.length:=List.length_pos_iff.2 l0
     obtain ⟨g,cap,rfl,hc⟩:=vp aD l0
     have b0:((l.length:Int)==0)=false:=beq_eq_false_iff_ne.2 (by omega)
     clear aD
     have HC:=af hc
     clear hc l0
     by_cases GP:24<l.length
     · have hk2:Pl.ji l=3:=by unfold Pl.ji;rw [zZ0 (by omega),zZ1 GP]
       have rN:=af hk2
       clear hk2
       go_wp2
       go_ret
       exact ⟨fV (by rw [HK.out,rN.out];rfl),hg⟩
     · have hk2:Pl.ji l=if l.any Pl.jH then 7 else 0:=by unfold Pl.ji;rw [zZ0 (by omega),zZ0 GP]
       have rN:=af hk2
       have b2:decide ((24:Int)<(l.length:Int))=false:=by simp;omega
       clear hk2
       go_wp2
       go_loop [6,25] (fun _ i=>∃n:Nat,i=.int .i64 n/\n<=l.length/\Hid ((l.drop n).any Pl.jH=l.any Pl.jH)) (fun _ i=>l.length - (intOf i).toNat)
       case atStart=>exact ⟨0,rfl,Nat.zero_le _,rfl⟩
       case round=>
        obtain ⟨n,rfl,hn,HN⟩:=hrel
        by_cases aq:n<l.length
        · have hcell:=HC.out n aq
          have hst:(l.drop n).any Pl.jH=(Pl.jH (l.getD n 0) || (l.drop (n+1)).any Pl.jH):=by
           rw [zJ4 aq,List.any_cons,zJ0,List.getElem?_eq_getElem aq];rfl
          obtain ⟨c,hcc⟩:∃c,c=l.getD n 0:=⟨_,rfl⟩
          rw [<-hcc] at hcell hst
          have HS:=af hst
          clear hst hcc
          by_cases q1:(c:Int)<32
          · have hb:l.any Pl.jH=true:=by
             have g3:Pl.jH c=true:=by simp [Pl.jH];omega
             rw [<-HN.out,HS.out,g3];rfl
            have HB:=af hb
            clear hb
            go_wp2
            go_ret
            exact ⟨fV (by rw [HK.out,rN.out,zZ1 HB.out];rfl),hg⟩
          · by_cases q2:c=127
            · have hb:l.any Pl.jH=true:=by
               have g3:Pl.jH c=true:=by simp [Pl.jH,q2]
               rw [<-HN.out,HS.out,g3];rfl
              have HB:=af hb
              clear hb
              have q3:((c:Int)==127)=true:=beq_iff_eq.2 (by omega)
              clear q2
              go_wp2
              go_ret
              exact ⟨fV (by rw [HK.out,rN.out,zZ1 HB.out];rfl),hg⟩
            · have hb:(l.drop (n+1)).any Pl.jH=l.any Pl.jH:=by
               have g3:Pl.jH c=false:=by simp [Pl.jH];omega
               rw [<-HN.out,HS.out,g3];rfl
              have HB:=af hb
              clear hb
              have q3:((c:Int)==127)=false:=beq_eq_false_iff_ne.2 (by omega)
              clear q2
              go_wp2
              go_round
              case rel=>exact ⟨n+1,by go_num,by omega,HB⟩
              case measure=>simp [intOf];omega
        · have hb:l.any Pl.jH=false:=by rw [<-HN.out,zJ5 (by omega)];rfl
          have HB:=af hb
          clear hb
          go_wp2
          go_ret
          exact ⟨fV (by rw [HK.out,rN.out,HB.out];rfl),hg⟩
namespace Pl
def dV (lo hi:ByteArray):Bool:=dv lo && dv hi && (aP hi || Op.bytesLess lo.toList hi.toList)
def dX (lo hi key:ByteArray):Bool:=dV lo hi && isKey key && !Op.bytesLess key.toList lo.toList && (aP hi || Op.bytesLess key.toList hi.toList)
end Pl
theorem TN (s:ByteArray) (h:Pl.isKey s=true):((Pl.aF s:Nat):Int)=0:=by
 unfold Pl.isKey at h;rw [of_decide_eq_true h];rfl
theorem Df (s:ByteArray) (w:World) (hs:s.size<=16777216):
    Calls Tryz.prog 32 #[.string s] w fun e w'=>e=.returned (.bool (Pl.dv s))/\ae w w':=by
 cases he:s.toList.isEmpty with
 | true=>
  have e:Pl.dv s=true:=by unfold Pl.dv Pl.aP;rw [he];rfl
  have e2:s.toList=[]:=by simpa using he
  have HE:=af e
  clear e
  go_in
  go_wp2
  go_ret
  exact ⟨bt HE.out.symm,ae.rf _⟩
 | false=>
  have e2:(!s.toList.isEmpty)=true:=by rw [he];rfl
  have e3:¬s.toList=[]:=by simpa using he
  have e:Pl.dv s=(((Pl.aF s:Nat):Int)==0):=by
   unfold Pl.dv Pl.aP Pl.isKey;rw [he,zQ4,zX5];simp
  have HE:=af e
  clear e
  go_in
  go_wp2_with (go_at_call 66;refine (vr s _ hs).mono ?_;rintro e w' ⟨rfl,hg⟩)
  go_ret
  exact ⟨bt HE.out.symm,by assumption⟩
theorem jJ (lo hi:ByteArray) (w:World) (hl:lo.size<=16777216) (hh:hi.size<=16777216):
    Calls Tryz.prog 8 #[.agg #[.string lo,.string hi]] w fun e w'=>e=.returned (.bool (Pl.dV lo hi))/\ae w w':=by
 cases h1:Pl.dv lo with
 | false=>
  have hr:Pl.dV lo hi=false:=by unfold Pl.dV;rw [h1];rfl
  have HR:=af hr
  clear hr
  go_in
  go_wp2_with fail
  refine (Df lo _ hl).mono ?_
  rintro e w1 ⟨rfl,hg⟩
  go_wp2_with fail
  go_ret
  exact ⟨bt HR.out.symm,((ae.rf w).alloc _).trans hg⟩
 | true=>
  cases h2:Pl.dv hi with
  | false=>
   have hr:Pl.dV lo hi=false:=by unfold Pl.dV;rw [h1,h2];rfl
   have HR:=af hr
   clear hr
   go_in
   go_wp2_with fail
   refine (Df lo _ hl).mono ?_
   rintro e w1 ⟨rfl,hg⟩
   have hG:ae w w1:=((ae.rf w).alloc _).trans hg
   obtain ⟨hc,_⟩:=hg.cells
   go_wp2_with fail
   refine (Df hi _ hh).mono ?_
   rintro e w2 ⟨rfl,aB⟩
   go_wp2_with fail
   go_ret
   exact ⟨bt HR.out.symm,hG.trans aB⟩
  | true=>
   cases h3:hi.toList.isEmpty with
   | true=>
    have hr:Pl.dV lo hi=true:=by unfold Pl.dV Pl.aP;rw [h1,h2,h3];rfl
    have h4:hi.toList=[]:=by simpa using h3
    have HR:=af hr
    clear hr
    go_in
    go_wp2_with fail
    refine (Df lo _ hl).mono ?_
    rintro e w1 ⟨rfl,hg⟩
    have hG:ae w w1:=((ae.rf w).alloc _).trans hg
    have hz:w.heap.size<w1.heap.size:=by have:=hg.size;simp at this;omega
    obtain ⟨hc,_⟩:=hg.cells
    go_wp2_with fail
    refine (Df hi _ hh).mono ?_
    rintro e w2 ⟨rfl,aB⟩
    obtain ⟨hc2,_⟩:=aB.cells
    go_wp2_with fail
    go_ret
    exact ⟨bt HR.out.symm,hG.trans aB⟩
   | false=>
    have hr:Pl.dV lo hi=Op.bytesLess lo.toList hi.toList:=by unfold Pl.dV Pl.aP;rw [h1,h2,h3];rfl
    have h4:¬hi.toList=[]:=by simpa using h3
    have h5:(!hi.toList.isEmpty)=true:=by rw [h3];rfl
    have HR:=af hr
    clear hr
    go_in
    go_wp2_with fail
    refine (Df lo _ hl).mono ?_
    rintro e w1 ⟨rfl,hg⟩
    have hG:ae w w1:=((ae.rf w).alloc _).trans hg
    have hz:w.heap.size<w1.heap.size:=by have:=hg.size;simp at this;omega
    obtain ⟨hc,_⟩:=hg.cells
    go_wp2_with fail
    refine (Df hi _ hh).mono ?_
    rintro e w2 ⟨rfl,aB⟩
    obtain ⟨hc2,_⟩:=aB.cells
    go_wp2_with fail
    go_ret
    exact ⟨bt HR.out.symm,hG.trans aB⟩
theorem FH (lo hi key:ByteArray) (w:World) (hl:lo.size<=16777216) (hh:hi.size<=16777216) (hk:key.size<=16777216):
    Calls Tryz.prog 40 #[.agg #[.string lo,.string hi],.string key] w fun e w'=>e=.returned (.bool (Pl.dX lo hi key))/\ae w w':=by
 cases h1:Pl.dV lo hi with
 | false=>
  have hr:Pl.dX lo hi key=false:=by unfold Pl.dX;rw [h1];rfl
  have HR:=af hr
  clear hr
  go_in
  go_wp2_with fail
  refine (jJ lo hi _ hl hh).mono ?_
  rintro e w1 ⟨rfl,hg⟩
  go_wp2_with fail
  go_ret
  exact ⟨bt HR.out.symm,((ae.rf w).alloc _).trans hg⟩
 | true=>
  cases h2:Pl.isKey key with
  | false=>
   have hr:Pl.dX lo hi key=false:=by unfold Pl.dX;rw [h1,h2];rfl
   have HR:=af hr
   have hk0:(((Pl.aF key:Nat):Int)==0)=false:=by rw [beq_eq_false_iff_ne];have:=of_decide_eq_false h2;omega
   clear hr
   go_in
   go_wp2_with fail
   refine (jJ lo hi _ hl hh).mono ?_
   rintro e w1 ⟨rfl,hg⟩
   go_wp2_with fail
   refine (vr key _ hk).mono ?_
   rintro e w2 ⟨rfl,aB⟩
   go_wp2_with fail
   go_ret
   exact ⟨bt HR.out.symm,((ae.rf w).alloc _).trans (hg.trans aB)⟩
  | true=>
   have HK:=af (TN key h2)
   cases h3:Op.bytesLess key.toList lo.toList with
   | true=>
    have hr:Pl.dX lo hi key=false:=by unfold Pl.dX;rw [h1,h2,h3];rfl
    have HR:=af hr
    clear hr
    go_in
    go_wp2_with fail
    refine (jJ lo hi _ hl hh).mono ?_
    rintro e w1 ⟨rfl,hg⟩
    have hz:w.heap.size<w1.heap.size:=by have:=hg.size;simp at this;omega
    obtain ⟨hc,_⟩:=hg.cells
    go_wp2_with fail
    refine (vr key _ hk).mono ?_
    rw [HK.out]
    rintro e w2 ⟨rfl,aB⟩
    obtain ⟨hc2,_⟩:=aB.cells
    go_wp2_with fail
    go_ret
    exact ⟨bt HR.out.symm,((ae.rf w).alloc _).trans (hg.trans aB)⟩
   | false=>
    cases h4:hi.toList.isEmpty with
    | true=>
     have hr:Pl.dX lo hi key=true:=by unfold Pl.dX Pl.aP;rw [h1,h2,h3,h4];rfl
     have h5:hi.toList=[]:=by simpa using h4
     have HR:=af hr
     clear hr
     go_in
     go_wp2_with fail
     refine (jJ lo hi _ hl hh).mono ?_
     rintro e w1 ⟨rfl,hg⟩
     have hz:w.heap.size<w1.heap.size:=by have:=hg.size;simp at this;omega
     obtain ⟨hc,_⟩:=hg.cells
     go_wp2_with fail
     refine (vr key _ hk).mono ?_
     rw [HK.out]
     rintro e w2 ⟨rfl,aB⟩
     obtain ⟨hc2,_⟩:=aB.cells
     go_wp2_with fail
     go_ret
     exact ⟨bt HR.out.symm,((ae.rf w).alloc _).trans (hg.trans aB)⟩
    | false=>
     have hr:Pl.dX lo hi key=Op.bytesLess key.toList hi.toList:=by unfold Pl.dX Pl.aP;rw [h1,h2,h3,h4];rfl
     have h5:¬hi.toList=[]:=by simpa using h4
     have h6:(!hi.toList.isEmpty)=true:=by rw [h4];rfl
     have HR:=af hr
     clear hr
     go_in
     go_wp2_with fail
     refine (jJ lo hi _ hl hh).mono ?_
     rintro e w1 ⟨rfl,hg⟩
     have hz:w.heap.size<w1.heap.size:=by have:=hg.size;simp at this;omega
     obtain ⟨hc,_⟩:=hg.cells
     go_wp2_with fail
     refine (vr key _ hk).mono ?_
     rw [HK.out]
     rintro e w2 ⟨rfl,aB⟩
     obtain ⟨hc2,_⟩:=aB.cells
     go_wp2_with fail
     go_ret
     exact ⟨bt HR.out.symm,((ae.rf w).alloc _).trans (hg.trans aB)⟩
end
end Go.Proofs.YtbnofojapimfcaaGreatDoor
namespace Go.Proofs.YtbnofojapimfcaaGreatDoor.Pl
theorem vw:∀(x y:List Nat),(eX x y<0)=(AW x y=true)
 | [],[]=>by simp [eX,AW]
 | [],_::_=>by simp [eX,AW]
 | _::_,[]=>by simp [eX,AW]
 | a::x,b::y=>by
  unfold eX AW
  by_cases h1:a<b
  · simp [h1]
  · by_cases h2:b<a
    · have:a≠b:=by omega
      simp [h1,h2,this]
    · have:a=b:=by omega
      subst this
      simp [vw x y]
theorem TP (s:ByteArray) (h:isKey s=true):∃l,runes s.data.toList=some l:=by
 unfold isKey aF at h
 cases hr:runes s.data.toList with
 | none=>rw [hr] at h;simp at h
 | some l=>exact ⟨l,rfl⟩
theorem Zr (s:ByteArray) (h:aP s=true):runes s.data.toList=some []:=by
 unfold aP at h
 rw [zQ3] at h
 have:s.data.toList=[]:=List.isEmpty_iff.1 h
 rw [this];rfl
theorem OC (s:ByteArray) (h:dv s=true):∃l,runes s.data.toList=some l:=by
 unfold dv at h
 rw [Bool.or_eq_true] at h
 rcases h with h | h
 · exact ⟨_,Zr s h⟩
 · exact TP s h
theorem LM (a b:ByteArray) (ha:∃l,runes a.data.toList=some l) (hb:∃l,runes b.data.toList=some l):decide (bE a b<0)=Op.bytesLess a.toList b.toList:=by
 obtain ⟨x,hx⟩:=ha
 obtain ⟨y,hy⟩:=hb
 have e:bE a b=eX x y:=by unfold bE;rw [hx,hy]
 rw [e,zQ3,zQ3,XF _ _ _ x y (zZ3 _) hx hy,zX5,decide_eq_true_iff,vw]
theorem Zt (a b:ByteArray) (ha:∃l,runes a.data.toList=some l) (hb:∃l,runes b.data.toList=some l):decide (0<=bE a b)=!Op.bytesLess a.toList b.toList:=by
 rw [<-LM a b ha hb,zX5]
 simp
theorem TQ (a b:ByteArray) (ha:∃l,runes a.data.toList=some l) (hb:dv b=true):cI a b=(aP b || Op.bytesLess a.toList b.toList):=by
 unfold cI
 rw [LM a b ha (OC b hb)]
theorem vA (lo hi:ByteArray):dV lo hi=bf lo hi:=by
 unfold dV bf
 cases h1:dv lo with
 | false=>rfl
 | true=>
  cases h2:dv hi with
  | false=>rfl
  | true=>rw [TQ lo hi (OC lo h1) h2]
theorem Zu (lo hi:ByteArray) (h:bf lo hi=true):dv lo=true/\dv hi=true:=by
 unfold bf at h
 rw [Bool.and_eq_true,Bool.and_eq_true] at h
 exact h.1
theorem LN (lo hi key:ByteArray):dX lo hi key=aL lo hi key:=by
 unfold dX aL
 rw [vA]
 cases h1:bf lo hi with
 | false=>rfl
 | true=>
  obtain ⟨e1,e2⟩:=Zu lo hi h1
  cases h2:isKey key with
  | false=>rfl
  | true=>
   have hk:=TP key h2
   rw [TQ key hi hk e2,Zt key lo hk (OC lo e1)]
end Go.Proofs.YtbnofojapimfcaaGreatDoor.Pl
