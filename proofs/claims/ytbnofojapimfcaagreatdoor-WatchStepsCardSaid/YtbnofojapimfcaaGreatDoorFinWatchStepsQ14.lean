/- Part 14 of the proof. -/
import Derived.Test.YtbnofojapimfcaaGreatDoorFinWatchStepsQ11
set_option linter.unusedVariables false
set_option linter.unusedSectionVars false
set_option linter.unusedSimpArgs false
set_option maxRecDepth 100000
set_option maxHeartbeats 16000000
namespace Go.Proofs.YtbnofojapimfcaaGreatDoor
section
open Go.RowKit Go.Maps
attribute [local go_sem] Oper.semAt_some
def zQ (W:World) (a:Option Addr) (ks:List ByteArray):Prop:=ks=[]\/∃b off,a=some ⟨b,off,none⟩/\b<W.heap.size/\∀j n,ks[j]? =some n->W.cell? ⟨b,off+j,none⟩=some (.string n)
theorem Im {W:World} {B:Nat} {v:Value} {ks:List ByteArray} (h:W.ownsRow B 9 1 v ks.length (iG ks)):∃a cap,v=.slice a ks.length cap/\zQ W a ks:=by
 rcases h.2 with ⟨h2,h3⟩ | ⟨b,cap,cur,e1,_,hb,hc,_⟩
 · refine ⟨none,0,?_,.inl (zX1 h3)⟩
   rw [h2,h3]
 · refine ⟨_,cap,e1,.inr ⟨b,0,rfl,(zZ2.1 hb).1,fun j n hj=>?_⟩⟩
   have:=h.cells (g:=b) (by rw [e1];rfl) j (.string n) (by unfold iG;rw [List.getElem?_map,hj];rfl)
   rwa [Addr.add_lit] at this
structure iC (w:World) (bb st:Nat) (lo hi:ByteArray):Prop where
 box:w.cell? ⟨bb,0,none⟩=some (.pointer (some ⟨st,0,none⟩))
 c1:w.cell? ⟨st,1,none⟩=some (.string lo)
 c2:w.cell? ⟨st,2,none⟩=some (.string hi)
theorem iC.ag {w w':World} {bb st:Nat} {lo hi:ByteArray} (h:iC w bb st lo hi) (g:ae w w'):iC w' bb st lo hi:=
 ⟨(g.cells.1 _ _ (aN h.box)).trans h.box,(g.cells.1 _ _ (aN h.c1)).trans h.c1,(g.cells.1 _ _ (aN h.c1)).trans h.c2⟩
theorem z2K (S:Nat->Bool) (E:Nat->Addr) (hS:jP S) (lo hi key:ByteArray) (w:World) (hl:lo.size<=70368744177664) (hh:hi.size<=70368744177664) (hk:key.size<=70368744177664) (hE:aY S E w) (bb st:Nat) (hB:iC w bb st lo hi):
    Calls Tryz.prog 140 #[.string key,.pointer (some ⟨bb,0,none⟩)] w fun e w'=>e=.returned (.bool (!Pl.aL lo hi key))/\ae w w':=by
 have HH:=af (CE S E hS lo hi key w hl hh hk hE)
 obtain ⟨b0,b1,b2⟩:=hB
 clear hE
 generalize Pl.aL lo hi key=b at *
 go_in
 go_wp2_with fail
 refine HH.out.mono ?_
 rintro e w1 ⟨rfl,hg⟩
 clear HH b0 b1 b2
 go_wp2_with fail
 go_ret
 exact ⟨rfl,hg⟩
theorem z2M (S:Nat->Bool) (E:Nat->Addr) (hS:jP S) (lo hi:ByteArray) (a:Option Addr) (cap:Nat) (xs:List ByteArray) (w:World) (hl:lo.size<=70368744177664) (hh:hi.size<=70368744177664) (hE:aY S E w) (bb st:Nat) (hB:iC w bb st lo hi) (hA:zQ w a xs) (hx:xs.length<=1000000) (hk:∀k∈xs,k.size<=70368744177664):
    Calls Tryz.prog 118 #[.slice a xs.length cap,.func (.func 140) #[] #[.pointer (some ⟨bb,0,none⟩)]] w fun e w'=>e=.returned (.int .i64 (b7 (fun k=>!Pl.aL lo hi k) xs))/\ae w w':=by
 have HA:=af hA
 obtain ⟨p,hp⟩:∃p:ByteArray->Bool,p=fun k=>!Pl.aL lo hi k:=⟨_,rfl⟩
 have hpk:∀k,(!Pl.aL lo hi k)=p k:=by intro k;rw [hp]
 have hP:=fun W (g:ae w W) k (hm:k∈xs)=>z2K S E hS lo hi k W hl hh (hk k hm) (hE.ag g) bb st (hB.ag g)
 simp only [hpk] at hP
 rw [<-hp]
 have HP:=af hP
 clear hA hE hB hP hpk hp
 go_in
 go_wp2_with fail
 go_loopw [8] (fun i wr=>∃k:Nat,k<=xs.length/\i=.int .i64 k/\Hid ((xs.take k).all (fun c=>!p c)=true)/\ae w wr) (fun i _=>xs.length - (intOf i).toNat)
 case atStart=>exact ⟨0,Nat.zero_le _,rfl,rfl,ae.rf w⟩
 case round=>
  obtain ⟨k,hk1,rfl,HN,hG⟩:=hrel
  by_cases aq:k<xs.length
  · rcases HA.out with h0 | ⟨b,off,rfl,hb,hR⟩
    · rw [h0] at aq;simp at aq
    have q0:=(hG.cells.1 b (off+k) hb).trans (hR k _ (List.getElem?_eq_getElem aq))
    have HC:=af (fun W g=>HP.out W g xs[k] (zQ5 aq))
    clear hR
    have HS:=af (tU p xs k aq HN.out)
    have eI:=af (yR p xs k aq HN.out)
    generalize xs[k]=c at *
    cases hpc:p c with
    | true=>
     rw [hpc] at HC
     have dt:=af (HS.out hpc)
     clear hpc HS eI
     go_wp2_with fail
     refine (HC.out _ hG).mono ?_
     rintro e w1 ⟨rfl,aA⟩
     go_wp2_with fail
     go_ret
     exact ⟨fV dt.out.symm,hG.trans aA⟩
    | false=>
     rw [hpc] at HC
     have dt:=af (eI.out hpc)
     clear hpc HS eI
     go_wp2_with fail
     refine (HC.out _ hG).mono ?_
     rintro e w1 ⟨rfl,aA⟩
     go_wp2_with fail
     go_roundw
     case rel=>exact ⟨k+1,by omega,by go_num,dt,hG.trans aA⟩
     case measure=>simp [intOf];omega
  · obtain rfl:k=xs.length:=by omega
    have HE:=af (rL p xs (by have:=HN.out;rwa [zQ2] at this))
    go_wp2_with fail
    go_ret
    exact ⟨fV HE.out.symm,hG⟩
theorem O8 (S:Nat->Bool) (E:Nat->Addr) (hS:jP S) (lo hi:ByteArray) (a:Option Addr) (cap:Nat) (xs:List ByteArray) (w:World) (hl:lo.size<=70368744177664) (hh:hi.size<=70368744177664) (hE:aY S E w) (bb st:Nat) (hB:iC w bb st lo hi) (hA:zQ w a xs) (hx:xs.length<=1000000) (hk:∀k∈xs,k.size<=70368744177664):
    Calls Tryz.prog 139 #[.slice a xs.length cap,.func (.func 140) #[] #[.pointer (some ⟨bb,0,none⟩)]] w fun e w'=>e=.returned (.bool (xs.any fun k=>!Pl.aL lo hi k))/\ae w w':=by
 have HI:=af (z2M S E hS lo hi a cap xs w hl hh hE bb st hB hA hx hk)
 have HG:=af (tV (fun k=>!Pl.aL lo hi k) xs)
 clear hE hA hB
 generalize b7 (fun k=>!Pl.aL lo hi k) xs=n at *
 go_in
 go_wp2_with fail
 refine HI.out.mono ?_
 rintro e w1 ⟨rfl,hg⟩
 go_wp2_with fail
 go_ret
 exact ⟨bt HG.out,hg⟩
theorem wG (S:Nat->Bool) (E:Nat->Addr) (hS:jP S) (lo hi key:ByteArray) (w:World) (hl:lo.size<=70368744177664) (hh:hi.size<=70368744177664) (hk:key.size<=70368744177664) (hE:aY S E w) (bb st:Nat) (hB:iC w bb st lo hi):
    Calls Tryz.prog 73 #[.string key,.pointer (some ⟨bb,0,none⟩)] w fun e w'=>e=.returned (.bool (!Pl.aL lo hi key))/\ae w w':=by
 have HH:=af (CE S E hS lo hi key w hl hh hk hE)
 obtain ⟨b0,b1,b2⟩:=hB
 clear hE
 generalize Pl.aL lo hi key=b at *
 go_in
 go_wp2_with fail
 refine HH.out.mono ?_
 rintro e w1 ⟨rfl,hg⟩
 clear HH b0 b1 b2
 go_wp2_with fail
 go_ret
 exact ⟨rfl,hg⟩
theorem UW (p:ByteArray->Bool) (bb:Nat) (a:Option Addr) (cap:Nat) (xs:List ByteArray) (w:World) (hA:zQ w a xs) (hx:xs.length<=1000000) (hP:∀W,ae w W->∀k∈xs,Calls Tryz.prog 73 #[.string k,.pointer (some ⟨bb,0,none⟩)] W fun e w'=>e=.returned (.bool (p k))/\ae W w'):
    Calls Tryz.prog 118 #[.slice a xs.length cap,.func (.func 73) #[] #[.pointer (some ⟨bb,0,none⟩)]] w fun e w'=>e=.returned (.int .i64 (b7 p xs))/\ae w w':=by
 have HA:=af hA
 have HP:=af hP
 clear hA hP
 go_in
 go_wp2_with fail
 go_loopw [8] (fun i wr=>∃k:Nat,k<=xs.length/\i=.int .i64 k/\Hid ((xs.take k).all (fun c=>!p c)=true)/\ae w wr) (fun i _=>xs.length - (intOf i).toNat)
 case atStart=>exact ⟨0,Nat.zero_le _,rfl,rfl,ae.rf w⟩
 case round=>
  obtain ⟨k,hk1,rfl,HN,hG⟩:=hrel
  by_cases aq:k<xs.length
  · rcases HA.out with h0 | ⟨b,off,rfl,hb,hR⟩
    · rw [h0] at aq;simp at aq
    have q0:=(hG.cells.1 b (off+k) hb).trans (hR k _ (List.getElem?_eq_getElem aq))
    have HC:=af (fun W g=>HP.out W g xs[k] (zQ5 aq))
    clear hR
    have HS:=af (tU p xs k aq HN.out)
    have eI:=af (yR p xs k aq HN.out)
    generalize xs[k]=c at *
    cases hpc:p c with
    | true=>
     rw [hpc] at HC
     have dt:=af (HS.out hpc)
     clear hpc HS eI
     go_wp2_with fail
     refine (HC.out _ hG).mono ?_
     rintro e w1 ⟨rfl,aA⟩
     go_wp2_with fail
     go_ret
     exact ⟨fV dt.out.symm,hG.trans aA⟩
    | false=>
     rw [hpc] at HC
     have dt:=af (eI.out hpc)
     clear hpc HS eI
     go_wp2_with fail
     refine (HC.out _ hG).mono ?_
     rintro e w1 ⟨rfl,aA⟩
     go_wp2_with fail
     go_roundw
     case rel=>exact ⟨k+1,by omega,by go_num,dt,hG.trans aA⟩
     case measure=>simp [intOf];omega
  · obtain rfl:k=xs.length:=by omega
    have HE:=af (rL p xs (by have:=HN.out;rwa [zQ2] at this))
    go_wp2_with fail
    go_ret
    exact ⟨fV HE.out.symm,hG⟩
theorem wH (w:World):(zeroValue 9).run Tryz.prog w=.ok (.string ⟨#[]⟩) w:=by kernel_rfl
theorem wI:(Value.cells (.string ⟨#[]⟩)).size=1:=by kernel_rfl
theorem DU:∀v∈(Value.cells (.string ⟨#[]⟩)).toList,v.oneCell'=true:=by
 have h:(Value.cells (.string ⟨#[]⟩)).toList.all (fun v=>v.oneCell')=true:=by kernel_rfl
 exact fun v hv=>zX2.1 h v hv
theorem UX {w:World} {B b cap:Nat} {xs:List ByteArray} (h:w.ownsRow B 9 1 (.slice (some ⟨b,0,none⟩) xs.length cap) xs.length (iG xs)) (j:Nat) (hj:j<xs.length):w.cell? ⟨b,j,none⟩=some (.string xs[j]):=by
 rw [h.cellAt j (by omega)]
 unfold iG
 rw [List.getElem?_map,List.getElem?_eq_getElem hj];rfl
theorem Aa (p:ByteArray->Bool) (bb B b cap:Nat) (xs:List ByteArray) (w:World) (hA:w.ownsRow B 9 1 (.slice (some ⟨b,0,none⟩) xs.length cap) xs.length (iG xs)) (hB:B<=w.heap.size) (hx:xs.length<=1000000) (hP:∀W,aj (fun j=>j=b) w W->∀k∈xs,Calls Tryz.prog 73 #[.string k,.pointer (some ⟨bb,0,none⟩)] W fun e w'=>e=.returned (.bool (p k))/\ae W w'):
    Calls Tryz.prog 71 #[.slice (some ⟨b,0,none⟩) xs.length cap,.func (.func 73) #[] #[.pointer (some ⟨bb,0,none⟩)]] w fun e w'=>e=.returned (.slice (some ⟨b,0,none⟩) (xs.filter fun c=>!p c).length cap)/\w'.ownsRow B 9 1 (.slice (some ⟨b,0,none⟩) (xs.filter fun c=>!p c).length cap) (xs.filter fun c=>!p c).length (iG (xs.filter fun c=>!p c))/\aj (fun j=>j=b) w w':=by
 have hbb:b<w.heap.size:=by
  rcases hA.2 with ⟨h,_⟩ | ⟨g,c,cur,h,_,hq,_⟩
  · cases h
  · cases h;exact (zZ2.1 hq).1
 have UY:zQ w (some ⟨b,0,none⟩) xs:=by
  obtain ⟨a',c',e,h⟩:=Im hA
  cases e;exact h
 have HI:=af (UW p bb (some ⟨b,0,none⟩) cap xs w UY hx (fun W g k hk=>hP W (g.only _) k hk))
 have HP:=af hP
 have HA:=af hA
 have hlen:xs.length<=cap:=by
  rcases hA.2 with ⟨h,_⟩ | ⟨g,c,cur,h,_,_,hq,_⟩
  · cases h
  · cases h;exact hq
 clear hA hP UY
 rcases wF p xs with ⟨e1,n1⟩ | ⟨i0,hi0,e1,p1,p2⟩
 · have hall:(xs.filter fun c=>!p c)=xs:=by
    rw [List.filter_eq_self]
    intro c hc
    have:=zZ9.1 n1 c hc
    simpa using this
   rw [e1] at HI
   rw [hall]
   clear e1 n1 hall
   go_in
   go_wp2_with fail
   refine HI.out.mono ?_
   rintro e w1 ⟨rfl,hg⟩
   have HG:=af hg
   clear hg
   go_wp2_with fail
   go_ret
   exact ⟨rfl,gI HG.out HA.out,HG.out.only _⟩
 · rw [e1] at HI
   have PS:Hid (xs.take i0=(xs.take (i0+1)).filter fun c=>!p c):=by
    unfold Hid
    rw [zZ6 hi0,List.filter_append]
    have h1:(xs.take i0).filter (fun c=>!p c)=xs.take i0:=by
     rw [List.filter_eq_self]
     exact fun c hc=>zX2.1 p2 c hc
    have h2:[xs[i0]].filter (fun c=>!p c)=[]:=by simp [p1]
    rw [h1,h2,List.append_nil]
   have d1:((i0:Int)== -1)=false:=by rw [beq_eq_false_iff_ne];omega
   have d2:¬((i0:Int)= -1):=by omega
   clear e1 p1 p2
   go_in
   go_wp2_with fail
   refine HI.out.mono ?_
   rintro e w1 ⟨rfl,hg⟩
   have HG:=af hg
   clear hg HI
   go_wp2_with fail
   go_loopw [5,6] (fun i j wr=>∃(i' j':Nat) (L:List ByteArray),i'<j'/\j'<=xs.length/\i=.int .i64 i'/\j=.int .i64 j'/\Hid (L.length=xs.length)/\Hid (L.take i'=((xs.take j').filter fun c=>!p c)/\L.drop j'=xs.drop j')/\Hid (wr.ownsRow B 9 1 (.slice (some ⟨b,0,none⟩) xs.length cap) xs.length (iG L))/\Hid (aj (fun j=>j=b) w wr)) (fun _ j _=>xs.length - (intOf j).toNat)
   case atStart=>exact ⟨i0,i0+1,xs,by omega,by omega,rfl,by go_num,rfl,⟨PS.out,rfl⟩,gI HG.out HA.out,HG.out.only _⟩
   case round=>
    obtain ⟨i,j,L,hij,Mn,rfl,rfl,HL,HT,HR,HO⟩:=hrel
    obtain ⟨w2,rfl⟩:∃w2:World,w2=wr:=⟨_,rfl⟩
    have wJ:=HR.out
    have DV:=HL.out
    by_cases aq:j<xs.length
    · have hlt2:j<L.length:=by omega
      have oP:L[j]=xs[j]:=by
       have h1:(L.drop j)[0]? =(xs.drop j)[0]? :=by rw [HT.out.2]
       rw [List.getElem?_drop,List.getElem?_drop,zX3,List.getElem?_eq_getElem aq,List.getElem?_eq_getElem hlt2] at h1
       exact Option.some.inj h1
      rw [<-DV] at wJ
      have q0:=UX wJ j hlt2
      have hN1:p L[j]=true->L.take i=(xs.take (j+1)).filter fun c=>!p c:=fun h=>by
       rw [HT.out.1,zZ6 aq,List.filter_append,<-oP]
       have:[L[j]].filter (fun c=>!p c)=[]:=by simp [h]
       rw [this,List.append_nil]
      have CQ:p L[j]=false->(L.set i L[j]).take (i+1)=(xs.take (j+1)).filter fun c=>!p c:=fun h=>by
       rw [zZ6 aq,List.filter_append,<-oP]
       have:[L[j]].filter (fun c=>!p c)=[L[j]]:=by simp [h]
       rw [this,zZ6 (by rw [List.length_set];omega),List.getElem_set_self,List.take_set_of_le (zZ3 _),HT.out.1]
      have DW:L.drop (j+1)=xs.drop (j+1):=by
       have:=congrArg (List.drop 1) HT.out.2
       rwa [List.drop_drop,List.drop_drop] at this
      have uW:(L.set i L[j]).drop (j+1)=xs.drop (j+1):=by rw [List.drop_set_of_lt (by omega),DW]
      have IY:iG (L.set i L[j])=(iG L).set i (.string L[j]):=by unfold iG;rw [List.map_set]
      have DX:=af hN1
      have eI:=af CQ
      have IZ:=af DW
      have I0:=af uW
      have I1:=af IY
      have HC:=af (fun W g=>HP.out W g L[j] (by rw [oP];exact zQ5 aq))
      clear hN1 CQ DW uW IY oP HT wJ
      generalize L[j]=c at *
      have PT:b<w2.heap.size:=ltT hbb HO.out.size
      have tj:(i:Int)<(xs.length:Int):=by omega
      cases hpc:p c with
      | true=>
       rw [hpc] at HC
       have HX:=af (DX.out hpc)
       clear hpc DX eI I0 I1
       go_wp2_with fail
       refine (HC.out _ HO.out).mono ?_
       rintro e w3 ⟨rfl,hg3⟩
       have ey:=af hg3
       clear hg3 q0 HC
       go_wp2_with fail
       go_roundw
       case rel=>exact ⟨i,j+1,L,by omega,by omega,rfl,by go_num,HL,⟨HX.out,IZ.out⟩,gI ey.out HR.out,HO.out.then (ey.out.only _)⟩
       case measure=>simp [intOf];omega
      | false=>
       rw [hpc] at HC
       have HX:=af (eI.out hpc)
       clear hpc DX eI IZ
       go_wp2_with fail
       refine (HC.out _ HO.out).mono ?_
       rintro e w3 ⟨rfl,hg3⟩
       have ey:=af hg3
       have mU:=gI ey.out HR.out
       have FR:=af mU
       have I2:L.length=xs.length:=HL.out
       rw [<-I2] at mU
       have r0:=UX mU i (by omega)
       have f0:w3.frozen? ⟨b,i,none⟩=false:=mU.frozenAt _
       clear hg3 q0 HC mU I2
       go_wp2_with fail
       go_roundw
       case rel=>
        obtain ⟨r1,g1⟩:=FR.out.stored i (.string c)
        refine ⟨i+1,j+1,L.set i c,by omega,by omega,by go_num,by go_num,af (by rw [List.length_set];exact HL.out),⟨HX.out,I0.out⟩,af ?_,af ?_⟩
        · rw [I1.out];exact r1
        · exact (HO.out.then (ey.out.only _)).then ((aj.of_grownBy g1).mono fun j hj=> .inl (Option.some.inj hj))
       case measure=>simp [intOf];omega
    · obtain rfl:j=xs.length:=by omega
      have hti:=HT.out.1
      rw [zQ2] at hti
      have hni:(xs.filter fun c=>!p c).length=i:=by rw [<-hti,List.length_take,DV];omega
      obtain ⟨b',c',cur,e',hBb,hb',hnc,hcm,hcl,F8⟩:=rP wJ (by omega)
      cases e'
      have kP:∀ty sc,(Builtin.clear_ #[95] ty #[.slice (some ⟨b,i,none⟩) (xs.length - i) sc]).run Tryz.prog w2=.ok (.tuple #[]) (w2.setRow b (cz cur i (Builtin.zeroCells (Value.cells (.string ⟨#[]⟩)) (xs.length - i)).toList).toArray):=fun ty sc=>by
       have:=UU (P:=Tryz.prog) w2 95 9 ty _ 1 (xs.length - i) Tryz.underlying95 wH (by omega) wI DU b i sc _ 9 hb' (by rw [hcl];omega) (by omega)
       exact this
      obtain ⟨Z,hZ⟩:∃Z,Z=(Builtin.zeroCells (Value.cells (.string ⟨#[]⟩)) (xs.length - i)).toList:=⟨_,rfl⟩
      have uD:Z.length=(xs.length - i)*1:=by rw [hZ,Array.length_toList,size_zeroCells,wI]
      rw [<-hZ] at kP
      obtain ⟨W2,hW2⟩:∃W2,W2=w2.setRow b (cz cur i Z).toArray:=⟨_,rfl⟩
      rw [<-hW2] at kP
      have cB:Hid (W2.ownsRow B 9 1 (.slice (some ⟨b,0,none⟩) i cap) i (iG (xs.filter fun c=>!p c))/\aj (fun j=>j=b) w W2):=by
       refine ⟨na (cur:=cz cur i Z) hBb (by rw [hW2];exact setRow_heap _ _ _ _ _ _ hb') (by omega) hcm (by rw [qN _ _ _ (by rw [uD,hcl];omega),hcl]) ?_,?_⟩
       · rw [Nat.mul_one,KW _ _ _ _ (zZ3 _) (by rw [hcl];omega),<-hti]
         have h2:(cur.take (xs.length*1))=iG L:=F8
         rw [Nat.mul_one] at h2
         have h3:iG (L.take i)=(iG L).take i:=by unfold iG;rw [List.map_take]
         rw [h3,<-h2,List.take_take,zX4 (by omega)]
       · rw [hW2];exact HO.out.then (Fx w2 b _)
      have z1:(i:Int)<=(xs.length:Int):=by omega
      have z2:i<=xs.length:=by omega
      have z3:i<=cap:=by omega
      have z4:(i:Int)<=(cap:Int):=by omega
      have z5:¬cap=i:=by omega
      have I3:=af hni
      clear hti hni hb' hcl F8 hZ uD hW2 wJ DV HT hnc hcm hBb
      go_wp2_with fail
      go_ret
      exact ⟨by rw [I3.out];rfl,by rw [I3.out];exact cB.out.1,cB.out.2⟩
end
end Go.Proofs.YtbnofojapimfcaaGreatDoor
