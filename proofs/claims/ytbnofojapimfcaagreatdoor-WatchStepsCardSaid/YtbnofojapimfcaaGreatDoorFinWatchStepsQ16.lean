/- Part 16 of the proof. -/
import Derived.Test.YtbnofojapimfcaaGreatDoorFinWatchStepsQ13
import Derived.Deep.DeepCutAuto
set_option linter.unusedVariables false
set_option linter.unusedSectionVars false
set_option linter.unusedSimpArgs false
set_option maxRecDepth 100000
set_option maxHeartbeats 16000000
namespace Go.Proofs.YtbnofojapimfcaaGreatDoor
section
open Go.RowKit
attribute [local go_sem] Oper.semAt_some
theorem yF (n most:Int) (w:World):Calls Tryz.prog 87 #[.int .i64 n,.int .i64 most] w fun e w'=>e=.returned (.bool (Pl.cP n most))/\w=w':=by
 by_cases h1:1<=n
 · by_cases h2:n<=most
   · have e:Pl.cP n most=true:=by unfold Pl.cP;rw [decide_eq_true h1,decide_eq_true h2];rfl
     rw [e];clear e
     go_in
     go_wp2_with fail
     go_ret
     exact ⟨rfl,rfl⟩
   · have e:Pl.cP n most=false:=by unfold Pl.cP;rw [decide_eq_true h1,decide_eq_false h2];rfl
     rw [e];clear e
     go_in
     go_wp2_with fail
     go_ret
     exact ⟨rfl,rfl⟩
 · have e:Pl.cP n most=false:=by unfold Pl.cP;rw [decide_eq_false h1];rfl
   rw [e];clear e
   go_in
   go_wp2_with fail
   go_ret
   exact ⟨rfl,rfl⟩
theorem Us (s:ByteArray) (w:World) (hs:s.size<=16777216):Calls Tryz.prog 88 #[.string s] w fun e w'=>e=.returned (.bool (decide (Pl.aF s=0)))/\ae w w':=by
 have H:=af (vr s w hs)
 have HZ:Hid ((((Pl.aF s:Nat):Int)==0)=decide (Pl.aF s=0)):=by unfold Hid;by_cases h:Pl.aF s=0<;> simp [h]
 generalize Pl.aF s=k at *
 go_in
 go_wp2_with fail
 refine H.out.mono ?_
 rintro e w1 ⟨rfl,hg⟩
 go_wp2_with fail
 go_ret
 exact ⟨bt HZ.out,hg⟩
structure jx (e:En):Prop where
 key:e.key.size<=16777216
 ops:∀o∈e.ops,o.key.size<=16777216
theorem z3l (p:bC->Bool) (xs:List bC) (k:Nat) (h:k<xs.length):(xs.take (k+1)).any p=((xs.take k).any p || p (bn xs k)):=by
 rw [zZ6 h,ym xs k h,List.any_append];simp
theorem zP (p:bC->Bool) (xs:List bC) (k:Nat) (h:k<xs.length) (hp:p (bn xs k)=true):xs.any p=true:=by
 rw [ym xs k h] at hp
 exact zZ5.2 ⟨xs[k],zQ5 h,hp⟩
theorem L9 (e:En) (w:World) (hA:bG w e) (hs1:e.kind=3->e.key.size<=16777216) (hs2:∀o∈e.ops,o.key.size<=16777216):
    Calls Tryz.prog 46 #[e.agg] w fun r w'=>r=.returned (.bool (Pl.bR e))/\ae w w':=by
 obtain ⟨kind,ai,other,server,ak,seq,key,upto,part,parts,ops,aC,aG,av,ar,aw⟩:=e
 obtain ⟨hA,fY,hok,hk⟩:=hA
 dsimp only at hA fY hok hk hs1 hs2
 have HK:=af (fun (h:kind=3) W=>Us key W (hs1 h))
 clear hs1
 have HR:Hid (Pl.bR ⟨kind,ai,other,server,ak,seq,key,upto,part,parts,ops,aC,aG,av,ar,aw⟩=(if kind=1 then Pl.jO ai ak seq ops else if kind=2 then Pl.cP ai 12 && Pl.cP server 4 else if kind=3 then (Pl.cP ai 12 && Pl.cP other 12 && (ai !=other)) && Pl.cP server 4 && decide (Pl.aF key=0) else if kind=4 then (Pl.cP ai 12 && Pl.cP other 12 && (ai !=other)) else if kind=5 then Pl.pJ ai upto parts part ar else false)):=by
  unfold Hid Pl.bR Pl.rR Pl.pI Pl.rS;rfl
 generalize Pl.bR ⟨kind,ai,other,server,ak,seq,key,upto,part,parts,ops,aC,aG,av,ar,aw⟩=rb at HR ⊢
 unfold En.agg En.vals
 dsimp only
 go_in
 go_upto_region 1 with fail
 go_cut [3] (fun s3 wx=>s3=.bool (Pl.cP ai 12 && Pl.cP other 12 && (ai !=other))/\wx=w.alloc (.cells #[.int .i64 kind,.int .i64 ai,.int .i64 other,.int .i64 server,.int .i64 ak,.int .i64 seq,.slice aC ops.length aG,.string key,.int .i64 upto,.int .i64 part,.int .i64 parts,.slice av ar aw] 39))
 case first=>
  go_wp2_with fail
  refine (yF _ _ _).mono ?_
  rintro r w1 ⟨rfl,rfl⟩
  cases h0:Pl.cP ai 12 with
  | false=>
   go_wp2_with fail
   go_meet
   exact ⟨by simp [h0],rfl⟩
  | true=>
   go_wp2_with fail
   refine (yF _ _ _).mono ?_
   rintro r w1 ⟨rfl,rfl⟩
   cases h1:Pl.cP other 12 with
   | false=>
    go_wp2_with fail
    go_meet
    exact ⟨by simp [h0,h1],rfl⟩
   | true=>
    go_wp2_with fail
    go_meet
    exact ⟨by simp [h0,h1],rfl⟩
 case rest=>
  obtain ⟨rfl,rfl⟩:=hcut
  have HA:=af (hA.ag ((ae.rf w).alloc (.cells #[.int .i64 kind,.int .i64 ai,.int .i64 other,.int .i64 server,.int .i64 ak,.int .i64 seq,.slice aC ops.length aG,.string key,.int .i64 upto,.int .i64 part,.int .i64 parts,.slice av ar aw] 39)))
  have HG:Hid (ae w (w.alloc (.cells #[.int .i64 kind,.int .i64 ai,.int .i64 other,.int .i64 server,.int .i64 ak,.int .i64 seq,.slice aC ops.length aG,.string key,.int .i64 upto,.int .i64 part,.int .i64 parts,.slice av ar aw] 39))):=(ae.rf w).alloc _
  clear hA
  generalize (Pl.cP ai 12 && Pl.cP other 12 && (ai !=other))=two at *
  by_cases k1:kind=1
  · subst k1
    have ik:Hid (rb=Pl.jO ai ak seq ops):=HR.out
    clear HR
    have HF:Hid ((Pl.cP ai 12 && Pl.cP ak 4 && Pl.cP seq 1073741824 && Pl.cP ops.length 8)=false->rb=false):=fun h=>by rw [ik.out];unfold Pl.jO;rw [h];rfl
    go_wp2_with fail
    refine (yF _ _ _).mono ?_
    rintro r w1 ⟨rfl,rfl⟩
    cases h0:Pl.cP ai 12 with
    | false=>
     go_wp2_with fail
     go_ret
     exact ⟨bt (HF.out (by simp [h0])).symm,HG.out⟩
    | true=>
     go_wp2_with fail
     refine (yF _ _ _).mono ?_
     rintro r w1 ⟨rfl,rfl⟩
     cases h1:Pl.cP ak 4 with
     | false=>
      go_wp2_with fail
      go_ret
      exact ⟨bt (HF.out (by simp [h1])).symm,HG.out⟩
     | true=>
      go_wp2_with fail
      refine (yF _ _ _).mono ?_
      rintro r w1 ⟨rfl,rfl⟩
      cases h2:Pl.cP seq 1073741824 with
      | false=>
       go_wp2_with fail
       go_ret
       exact ⟨bt (HF.out (by simp [h2])).symm,HG.out⟩
      | true=>
       go_wp2_with fail
       refine (yF _ _ _).mono ?_
       rintro r w1 ⟨rfl,rfl⟩
       cases h3:Pl.cP (ops.length:Int) 8 with
       | false=>
        go_wp2_with fail
        go_ret
        exact ⟨bt (HF.out (by simp [h3])).symm,HG.out⟩
       | true=>
        have FR:Hid (rb=!(ops.any fun o=>!Pl.jl o)):=by rw [ik.out];unfold Hid Pl.jO;rw [h0,h1,h2,h3];rfl
        clear ik HF h0 h1 h2 h3
        have pT:ops.length<=1000000:=fY
        have Ut:(ops.length:Int)<=1000000:=by omega
        have Uu:=af (And.intro hok hs2)
        clear hok hs2 fY
        have hw0:w.heap.size<(w.alloc (.cells #[.int .i64 1,.int .i64 ai,.int .i64 other,.int .i64 server,.int .i64 ak,.int .i64 seq,.slice aC ops.length aG,.string key,.int .i64 upto,.int .i64 part,.int .i64 parts,.slice av ar aw] 39)).heap.size:=by simp
        have c6:(w.alloc (.cells #[.int .i64 1,.int .i64 ai,.int .i64 other,.int .i64 server,.int .i64 ak,.int .i64 seq,.slice aC ops.length aG,.string key,.int .i64 upto,.int .i64 part,.int .i64 parts,.slice av ar aw] 39)).cell? ⟨w.heap.size,6,none⟩=some (.slice aC ops.length aG):=by simp [go_sem]
        generalize hW:w.alloc _=W0 at *
        clear hW
        go_wp2_with fail
        go_loopw [52] (fun i wr=>∃k:Nat,k<=ops.length/\i=.int .i64 k/\Hid ((ops.take k).any (fun o=>!Pl.jl o)=false)/\ae W0 wr) (fun i _=>ops.length - (intOf i).toNat)
        case atStart=>exact ⟨0,Nat.zero_le _,rfl,rfl,ae.rf _⟩
        case round=>
         obtain ⟨k,hk1,rfl,HN,hG⟩:=hrel
         by_cases aq:k<ops.length
         rotate_left
         · obtain rfl:k=ops.length:=by omega
           have HE:Hid (true=rb):=by have:=HN.out;rw [zQ2] at this;rw [FR.out,this];rfl
           go_wp2_with fail
           go_ret
           exact ⟨bt HE.out,HG.out.trans hG⟩
         rcases HA.out with h0 | ⟨b,off,rfl,hb,hR⟩
         · rw [h0] at aq;simp at aq
         have q0:=(hG.cells.1 b (off+k*5) hb).trans (hR.kind k aq)
         have q1:=(hG.cells.1 b (off+k*5+1) hb).trans (hR.key k aq)
         have q2:=(hG.cells.1 b (off+k*5+2) hb).trans (hR.val k aq)
         have q3:=(hG.cells.1 b (off+k*5+3) hb).trans (hR.old k aq)
         have q4:=(hG.cells.1 b (off+k*5+4) hb).trans (hR.di k aq)
         have HB:=af (fun (h:Pl.jl (bn ops k)=false)=>show false=rb by rw [FR.out,zP _ ops k aq (by rw [h];rfl)];rfl)
         have HC:Hid (Pl.jl (bn ops k)=true->(ops.take (k+1)).any (fun o=>!Pl.jl o)=false):=fun h=>by rw [z3l _ ops k aq,HN.out,h];rfl
         have HKO:=af (fun W=>Us (bn ops k).key W (Uu.out.2 _ (yn ops k aq)))
         obtain ⟨_,z2,z3⟩:=Uu.out.1 _ (yn ops k aq)
         clear hR
         generalize bn ops k=o at *
         obtain ⟨on,ok,ov,od,or'⟩:=o
         dsimp only at *
         unfold Pl.jl at HB HC
         dsimp only at HB HC
         go_wp2_with fail
         refine (HKO.out _).mono ?_
         rintro r w1 ⟨rfl,aA⟩
         have hz:wr.heap.size<w1.heap.size:=by have:=aA.size;simp at this;omega
         have p0:w1.cell? ⟨wr.heap.size,0,none⟩=some (.int .i64 on):=by rw [aA.cells.1 _ _ (by simp)];simp [go_sem]
         have p1:w1.cell? ⟨wr.heap.size,1,none⟩=some (.string ok):=by rw [aA.cells.1 _ _ (by simp)];simp [go_sem]
         have p2:w1.cell? ⟨wr.heap.size,2,none⟩=some (.string ov):=by rw [aA.cells.1 _ _ (by simp)];simp [go_sem]
         have p3:w1.cell? ⟨wr.heap.size,3,none⟩=some (.string od):=by rw [aA.cells.1 _ _ (by simp)];simp [go_sem]
         have p4:w1.cell? ⟨wr.heap.size,4,none⟩=some (.int .i64 or'):=by rw [aA.cells.1 _ _ (by simp)];simp [go_sem]
         have bI:=af ((hG.alloc _).trans aA)
         clear aA q0 q1 q2 q3 q4
         by_cases hkn:Pl.aF ok=0
         · have Oj:decide (Pl.aF ok=0)=true:=decide_eq_true hkn
           by_cases n1:on=1
           · subst n1
             by_cases v1:(ov.size:Int)<=64
             · have Il:decide ((ov.size:Int)<=64)=true:=decide_eq_true v1
               have Dy:=af (HC.out (by simp [hkn,show ov.size<=64 by omega]))
               go_wp2_with fail
               go_roundw
               case rel=>exact ⟨k+1,by omega,by go_num,Dy,bI.out⟩
               case measure=>simp [intOf];omega
             · have Il:decide ((ov.size:Int)<=64)=false:=decide_eq_false v1
               go_wp2_with fail
               go_ret
               exact ⟨bt (HB.out (by simp [hkn,show 64<ov.size by omega])),HG.out.trans bI.out⟩
           by_cases n2:on=2
           · subst n2
             · have Dy:=af (HC.out (by simp [hkn]))
               go_wp2_with fail
               go_roundw
               case rel=>exact ⟨k+1,by omega,by go_num,Dy,bI.out⟩
               case measure=>simp [intOf];omega
           by_cases n3:on=3
           · subst n3
             by_cases v1:(ov.size:Int)<=64
             rotate_left
             · have Il:decide ((ov.size:Int)<=64)=false:=decide_eq_false v1
               go_wp2_with fail
               go_ret
               exact ⟨bt (HB.out (by simp [hkn];omega)),HG.out.trans bI.out⟩
             have Il:decide ((ov.size:Int)<=64)=true:=decide_eq_true v1
             by_cases v2:(od.size:Int)<=64
             · have O4:decide ((od.size:Int)<=64)=true:=decide_eq_true v2
               have Dy:=af (HC.out (by simp [hkn,show ov.size<=64 by omega,show od.size<=64 by omega]))
               go_wp2_with fail
               go_roundw
               case rel=>exact ⟨k+1,by omega,by go_num,Dy,bI.out⟩
               case measure=>simp [intOf];omega
             · have O4:decide ((od.size:Int)<=64)=false:=decide_eq_false v2
               go_wp2_with fail
               go_ret
               exact ⟨bt (HB.out (by simp [hkn];omega)),HG.out.trans bI.out⟩
           by_cases n4:on=4
           · subst n4
             by_cases v1:0<=or'
             rotate_left
             · have Il:decide (0<=or')=false:=decide_eq_false v1
               go_wp2_with fail
               go_ret
               exact ⟨bt (HB.out (by simp [hkn];omega)),HG.out.trans bI.out⟩
             have Il:decide (0<=or')=true:=decide_eq_true v1
             by_cases v2:or'<=4096
             · have O4:decide (or'<=4096)=true:=decide_eq_true v2
               have Dy:=af (HC.out (by simp [hkn,v1,v2]))
               go_wp2_with fail
               go_roundw
               case rel=>exact ⟨k+1,by omega,by go_num,Dy,bI.out⟩
               case measure=>simp [intOf];omega
             · have O4:decide (or'<=4096)=false:=decide_eq_false v2
               go_wp2_with fail
               go_ret
               exact ⟨bt (HB.out (by simp [hkn];omega)),HG.out.trans bI.out⟩
           have e1:(on==1)=false:=beq_eq_false_iff_ne.2 n1
           have e2:(on==2)=false:=beq_eq_false_iff_ne.2 n2
           have e3:(on==3)=false:=beq_eq_false_iff_ne.2 n3
           have e4:(on==4)=false:=beq_eq_false_iff_ne.2 n4
           have FQ:=af (HB.out (by simp [n1,n2,n3,n4]))
           clear HC HB n1 n2 n3 n4
           go_wp2_with fail
           go_ret
           exact ⟨bt FQ.out,HG.out.trans bI.out⟩
         · have Oj:decide (Pl.aF ok=0)=false:=decide_eq_false hkn
           by_cases n1:on=1
           · subst n1
             clear HC
             · go_wp2_with fail
               go_ret
               exact ⟨bt (HB.out (by simp [hkn])),HG.out.trans bI.out⟩
           by_cases n2:on=2
           · subst n2
             clear HC
             · go_wp2_with fail
               go_ret
               exact ⟨bt (HB.out (by simp [hkn])),HG.out.trans bI.out⟩
           by_cases n3:on=3
           · subst n3
             clear HC
             · go_wp2_with fail
               go_ret
               exact ⟨bt (HB.out (by simp [hkn])),HG.out.trans bI.out⟩
           by_cases n4:on=4
           · subst n4
             clear HC
             · go_wp2_with fail
               go_ret
               exact ⟨bt (HB.out (by simp [hkn])),HG.out.trans bI.out⟩
           have e1:(on==1)=false:=beq_eq_false_iff_ne.2 n1
           have e2:(on==2)=false:=beq_eq_false_iff_ne.2 n2
           have e3:(on==3)=false:=beq_eq_false_iff_ne.2 n3
           have e4:(on==4)=false:=beq_eq_false_iff_ne.2 n4
           have FQ:=af (HB.out (by simp [n1,n2,n3,n4]))
           clear HC HB n1 n2 n3 n4
           go_wp2_with fail
           go_ret
           exact ⟨bt FQ.out,HG.out.trans bI.out⟩
  by_cases k2:kind=2
  · subst k2
    have ik:Hid (rb=(Pl.cP ai 12 && Pl.cP server 4)):=HR.out
    clear HR k1
    go_wp2_with fail
    refine (yF _ _ _).mono ?_
    rintro r w1 ⟨rfl,rfl⟩
    cases h0:Pl.cP ai 12 with
    | false=>
     go_wp2_with fail
     go_ret
     exact ⟨bt (by rw [ik.out];simp [h0]),HG.out⟩
    | true=>
     go_wp2_with fail
     refine (yF _ _ _).mono ?_
     rintro r w1 ⟨rfl,rfl⟩
     go_wp2_with fail
     go_ret
     exact ⟨bt (by rw [ik.out];simp [h0]),HG.out⟩
  by_cases k3:kind=3
  · subst k3
    have ik:Hid (rb=(two && Pl.cP server 4 && decide (Pl.aF key=0))):=HR.out
    clear HR k1 k2
    cases two with
    | false=>
     go_wp2_with fail
     go_ret
     exact ⟨bt (by rw [ik.out];simp),HG.out⟩
    | true=>
     go_wp2_with fail
     refine (yF _ _ _).mono ?_
     rintro r w1 ⟨rfl,rfl⟩
     cases h0:Pl.cP server 4 with
     | false=>
      go_wp2_with fail
      go_ret
      exact ⟨bt (by rw [ik.out];simp [h0]),HG.out⟩
     | true=>
      go_wp2_with fail
      refine (HK.out (by trivial) _).mono ?_
      rintro r w1 ⟨rfl,hg⟩
      go_wp2_with fail
      go_ret
      exact ⟨bt (by rw [ik.out];simp [h0]),HG.out.trans hg⟩
  by_cases k4:kind=4
  · subst k4
    have ik:Hid (rb=two):=HR.out
    clear HR k1 k2 k3
    go_wp2_with fail
    go_ret
    exact ⟨bt ik.out.symm,HG.out⟩
  by_cases k5:kind=5
  · subst k5
    have ik:Hid (rb=Pl.pJ ai upto parts part ar):=HR.out
    clear HR k1 k2 k3 k4
    have HF:Hid (∀b,(b=true↔(0<=ai/\ai<=12/\0<=upto/\upto<=4096/\Pl.cP parts 64=true/\0<=part/\part<parts/\(ar:Int)<=256))->b=rb):=fun b hb=>by
     rw [ik.out,zX5,hb]
     unfold Pl.pJ Pl.cP
     simp only [Bool.and_eq_true,Bool.or_eq_true,beq_iff_eq,decide_eq_true_eq]
     omega
    have Dz:Hid (¬(0<=ai/\ai<=12/\0<=upto/\upto<=4096/\Pl.cP parts 64=true/\0<=part/\part<parts)->false=rb):=fun h=>HF.out false ⟨fun h=>(by cases h),fun k=>absurd ⟨k.1,k.2.1,k.2.2.1,k.2.2.2.1,k.2.2.2.2.1,k.2.2.2.2.2.1,k.2.2.2.2.2.2.1⟩ h⟩
    by_cases h1:0<=ai
    rotate_left
    · go_wp2_with fail
      go_ret
      exact ⟨bt (Dz.out (by omega)),HG.out⟩
    by_cases h2:ai<=12
    rotate_left
    · go_wp2_with fail
      go_ret
      exact ⟨bt (Dz.out (by omega)),HG.out⟩
    by_cases h3:0<=upto
    rotate_left
    · go_wp2_with fail
      go_ret
      exact ⟨bt (Dz.out (by omega)),HG.out⟩
    by_cases h4:upto<=4096
    rotate_left
    · go_wp2_with fail
      go_ret
      exact ⟨bt (Dz.out (by omega)),HG.out⟩
    go_wp2_with fail
    refine (yF _ _ _).mono ?_
    rintro r w1 ⟨rfl,rfl⟩
    cases h5:Pl.cP parts 64 with
    | false=>
     go_wp2_with fail
     go_ret
     exact ⟨bt (Dz.out (by rw [h5];simp)),HG.out⟩
    | true=>
     by_cases h6:0<=part
     rotate_left
     · go_wp2_with fail
       go_ret
       exact ⟨bt (Dz.out (by omega)),HG.out⟩
     by_cases h7:part<parts
     rotate_left
     · go_wp2_with fail
       go_ret
       exact ⟨bt (Dz.out (by omega)),HG.out⟩
     go_wp2_with fail
     go_ret
     exact ⟨bt (HF.out _ (by simp [h1,h2,h3,h4,h5,h6,h7])),HG.out⟩
  have ik:Hid (rb=false):=by have:=HR.out;rw [zZ0 k1,zZ0 k2,zZ0 k3,zZ0 k4,zZ0 k5] at this;exact this
  have e1:(kind==1)=false:=beq_eq_false_iff_ne.2 k1
  have e2:(kind==2)=false:=beq_eq_false_iff_ne.2 k2
  have e3:(kind==3)=false:=beq_eq_false_iff_ne.2 k3
  have e4:(kind==4)=false:=beq_eq_false_iff_ne.2 k4
  have e5:(kind==5)=false:=beq_eq_false_iff_ne.2 k5
  clear HR k1 k2 k3 k4 k5
  go_wp2_with fail
  go_ret
  exact ⟨bt ik.out.symm,HG.out⟩
theorem O5 (e:En) (w:World) (hA:bG w e) (hs:jx e):
    Calls Tryz.prog 46 #[e.agg] w fun r w'=>r=.returned (.bool (Pl.bR e))/\ae w w':=L9 e w hA (fun _=>hs.key) hs.ops
end
end Go.Proofs.YtbnofojapimfcaaGreatDoor
