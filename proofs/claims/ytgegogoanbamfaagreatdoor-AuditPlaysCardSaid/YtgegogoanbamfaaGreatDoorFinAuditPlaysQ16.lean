/- Part 16. -/
import Derived.Test.YtgegogoanbamfaaGreatDoorFinAuditPlaysQ15
set_option linter.unusedVariables false
set_option linter.unusedSectionVars false
set_option linter.unusedSimpArgs false
set_option maxRecDepth 100000
set_option maxHeartbeats 16000000
namespace Go.Proofs.YtgegogoanbamfaaGreatDoor
namespace Pl
end Pl
open Pl Go.Proofs.Tryz Go.RowKit Go.Maps
attribute [local go_sem] Oper.semAt_some
section
attribute [local go_sem] bl
structure sL (w W:World)(e:En):Prop where
 ah:ae w W
 lt:w.heap.size+2<W.heap.size
 dZ:∀j u,e.vals[j]? =some u->W.cell? ⟨w.heap.size,j,none⟩=some u
 a0:W.cell? ⟨w.heap.size+1,0,none⟩=some (.int .i64 0)
 a1:W.cell? ⟨w.heap.size+1,1,none⟩=some (.int .i64 0)
 f0:W.frozen? ⟨w.heap.size+1,0,none⟩=false
 f1:W.frozen? ⟨w.heap.size+1,1,none⟩=false
 n0:W.cell? ⟨w.heap.size+2,0,none⟩=some (.int .i64 0)
 n1:W.cell? ⟨w.heap.size+2,1,none⟩=some (.int .i64 0)
theorem sL.br {w W W':World}{e:En}(h:sL w W e)(g:ae W W'):sL w W' e:=
 have l:=h.lt
 ⟨h.ah.trans g,xA9 h.lt g.size,fun j u hj=>(g.cells.1 _ _ (by omega)).trans (h.dZ j u hj),(g.cells.1 _ _ (by omega)).trans h.a0,(g.cells.1 _ _ (by omega)).trans h.a1,(g.cells.2 _ _ (by omega)).trans h.f0,(g.cells.2 _ _ (by omega)).trans h.f1,(g.cells.1 _ _ (by omega)).trans h.n0,(g.cells.1 _ _ (by omega)).trans h.n1⟩
theorem sL.aX (w:World)(e:En):sL w (((w.alloc (.cells e.vals.toArray 36)).alloc (.cells #[.int .i64 0,.int .i64 0] 50)).alloc (.cells #[.int .i64 0,.int .i64 0] 50)) e:=by
 refine⟨(((ae.rf w).alloc _).alloc _).alloc _,by simp,fun j u hj=>?_,by simp[go_sem],by simp[go_sem],by simp[go_sem],by simp[go_sem],by simp[go_sem],by simp[go_sem]⟩;have h1:=((ae.rf (w.alloc (.cells e.vals.toArray 36))).alloc (.cells #[.int .i64 0,.int .i64 0] 50)).alloc (.cells #[.int .i64 0,.int .i64 0] 50);rw[h1.cells.1 w.heap.size j (by simp),gw (wZ0 w _)];simpa using hj
theorem sL.only {w W W':World}{e:En}{T:Nat->Prop}(h:sL w W e)(g:ar T W W')(hT:∀j,T j->j<w.heap.size\/w.heap.size+2<j)(hG:ae w W'):sL w W' e:=
 have l:=h.lt
 have n:∀i,i<=2->¬T (w.heap.size+i):=fun i hi q=>by have:=hT _ q;omega
 ⟨hG,xA9 h.lt g.size,fun j u hj=>(g.cell (by omega) (n 0 (by omega)) _).trans (h.dZ j u hj),(g.cell (by omega) (n 1 (by omega)) _).trans h.a0,(g.cell (by omega) (n 1 (by omega)) _).trans h.a1,(g.frozen (by omega) (n 1 (by omega)) _).trans h.f0,(g.frozen (by omega) (n 1 (by omega)) _).trans h.f1,(g.cell (by omega) (n 2 (by omega)) _).trans h.n0,(g.cell (by omega) (n 2 (by omega)) _).trans h.n1⟩
structure rK (w W:World)(e:En):Prop where
 lt:w.heap.size+2<W.heap.size
 dZ:∀j u,e.vals[j]? =some u->W.cell? ⟨w.heap.size,j,none⟩=some u
 a0:W.cell? ⟨w.heap.size+1,0,none⟩=some (.int .i64 0)
 a1:W.cell? ⟨w.heap.size+1,1,none⟩=some (.int .i64 0)
 f0:W.frozen? ⟨w.heap.size+1,0,none⟩=false
 f1:W.frozen? ⟨w.heap.size+1,1,none⟩=false
theorem sL.c {w W:World}{e:En}(h:sL w W e):rK w W e:=⟨h.lt,h.dZ,h.a0,h.a1,h.f0,h.f1⟩
theorem rK.only {w W W':World}{e:En}{T:Nat->Prop}(h:rK w W e)(g:ar T W W')(hT:∀j,T j->j<w.heap.size\/w.heap.size+2<j):rK w W' e:=
 have l:=h.lt
 have n:∀i,i<=2->¬T (w.heap.size+i):=fun i hi q=>by have:=hT _ q;omega
 ⟨xA9 h.lt g.size,fun j u hj=>(g.cell (by omega) (n 0 (by omega)) _).trans (h.dZ j u hj),(g.cell (by omega) (n 1 (by omega)) _).trans h.a0,(g.cell (by omega) (n 1 (by omega)) _).trans h.a1,(g.frozen (by omega) (n 1 (by omega)) _).trans h.f0,(g.frozen (by omega) (n 1 (by omega)) _).trans h.f1⟩
theorem rK.br {w W W':World}{e:En}(h:rK w W e)(g:ae W W'):rK w W' e:=h.only (g.only fun _=>False) (fun _ h=>h.elim)
structure DM (u W:World)(cb:Nat)(D:List Pr):Prop where
 ah:ae u W
 tab:∃G,er W G cb D/\∀j,G j->u.heap.size<=j
theorem DM.br {u W W':World}{cb:Nat}{D:List Pr}(h:DM u W cb D)(g:ae W W'):DM u W' cb D:=by
 obtain⟨G,h1,h2⟩:=h.tab;exact⟨h.ah.trans g,G,h1.ah g,h2⟩
theorem DM.step {u W W':World}{cb:Nat}{D D':List Pr}(h:DM u W cb D){G:Nat->Prop}(h2:∀j,G j->u.heap.size<=j)(t:oN W G cb D' W'):DM u W' cb D':=by
 obtain⟨t1,G',t2,t3⟩:=t;refine⟨((h.ah.only _).then t1).ah h2,G',t2,fun j hj=>?_⟩;rcases t3 j hj with q | q
 . exact h2 j q
 . exact zZ6 h.ah.size q
theorem km.note {w w':World}{G:Nat->Prop}{ms tb sb:Nat}{lo hi:ByteArray}{D:List Pr}{S S':Int->Option An}(h:km w G ms tb sb lo hi D S)(g:ar (fun j=>j=sb) w w')(hs:dy w' sb S'):km w' G ms tb sb lo hi D S' where
 c0:=(g.cell (bf h.c0) h.ne 0).trans h.c0
 c1:=(g.cell (bf h.c0) h.ne 1).trans h.c1
 c2:=(g.cell (bf h.c0) h.ne 2).trans h.c2
 c3:=(g.cell (bf h.c0) h.ne 3).trans h.c3
 f0:=(g.frozen (bf h.c0) h.ne 0).trans h.f0
 f1:=(g.frozen (bf h.c0) h.ne 1).trans h.f1
 f2:=(g.frozen (bf h.c0) h.ne 2).trans h.f2
 tab:=h.tab.aC g fun j hj=>(h.cC j hj).2
 cL:=hs
 ne:=h.ne
 cC:=h.cC
theorem km.lay {w:World}{G G':Nat->Prop}{ms tb cb sb:Nat}{lo hi:ByteArray}{D D':List Pr}{S:Int->Option An}(h:km w G ms tb sb lo hi D S)(ht:er w G' cb D')(hG:∀j,G' j->j≠ms/\j≠sb):km (w.setCell ⟨ms,2,none⟩ (.pointer (some ⟨cb,0,none⟩))) G' ms cb sb lo hi D' S where
 c0:=(World.cell?_setCell_other _ _ _ _ (by intro e;injection e with _ e2;cases e2)).trans h.c0
 c1:=(World.cell?_setCell_other _ _ _ _ (by intro e;injection e with _ e2;cases e2)).trans h.c1
 c2:=World.cell?_setCell_same' _ _ _ (by rw[h.c2];rfl)
 c3:=(World.cell?_setCell_other _ _ _ _ (by intro e;injection e with _ e2;cases e2)).trans h.c3
 f0:=by rw[World.frozen?_setCell];exact h.f0
 f1:=by rw[World.frozen?_setCell];exact h.f1
 f2:=by rw[World.frozen?_setCell];exact h.f2
 tab:=ht.aC (ar.setCell w ⟨ms,2,none⟩ _) fun j hj=>(hG j hj).1
 cL:=h.cL.aC (ar.setCell w ⟨ms,2,none⟩ _) fun e=>h.ne e.symm
 ne:=h.ne
 cC:=hG
theorem Pl.qq {o:cf}(h:Pl.lf o=true):o.ax=1\/o.ax=2\/o.ax=3\/o.ax=4:=by
 unfold Pl.lf at h;by_cases h1:o.ax=1
 . exact .inl h1
 . by_cases h2:o.ax=2
   . exact .inr (.inl h2)
   . by_cases h3:o.ax=3
     . exact .inr (.inr (.inl h3))
     . by_cases h4:o.ax=4
       . exact .inr (.inr (.inr h4))
       . rw[zZ0 h1,zZ0 h2,zZ0 h3,zZ0 h4,ite_self]at h;cases h
theorem y8I (e:En)(w:World)(hA:b7 w e)(hs:∀o∈e.ops,o.key.size<=16777216)(at_:Int)(ms:Nat)(hk:e.ax=1)(hr:Pl.cK e=true)(hat:at_<0\/4096<=at_):
    Calls prog 60 #[.pointer (some ⟨ms,0,none⟩),e.agg,.int .i64 at_] w fun r w'=>r=.returned (.tuple #[fQ 0 0,.int .i64 1])/\ae w w':=by
 have hR:=fun W (g:ae w W)=>RJ e W (hA.ah g) (fun h3=>by omega) hs;rw[hr]at hR;have HR:=af hR;have HW:=af (sL.aX w e);obtain⟨Y,hY⟩:∃Y,Y=(((w.alloc (.cells e.vals.toArray 36)).alloc (.cells #[.int .i64 0,.int .i64 0] 50)).alloc (.cells #[.int .i64 0,.int .i64 0] 50)):=⟨_,rfl⟩
 rw[<-hY]at HW;have mQ:=af hY;clear hY hA hs hr hR;unfold En.agg at *;obtain⟨ax,aj,ak,aq,aw,seq,key,aM,aL,aA,ops,aN,aS,aF,aB,aG⟩:=e;unfold En.vals at HR mQ ⊢;dsimp only at *;unfold fQ;subst hk;go_in;go_wp2_with fail;rw[<-mQ.out];refine(HR Y HW.ah).mono ?_;rintro e w1 ⟨rfl,aR⟩;have bM:=af (HW.br aR);have fC:=bM.lt;have a0:=bM.a0;have a1:=bM.a1;have f0:=bM.f0;have f1:=bM.f1;have n0:=bM.n0;have n1:=bM.n1;clear aR HW HR;rcases hat with ha | ha
 . go_wp2_with fail;refine wZ1 (v:=.tuple #[.agg #[.int .i64 0,.int .i64 0],.int .i64 1]) (by simp[results,results60,go_sem,a0,a1,f0,f1]) rfl ⟨rfl,?_⟩;exact(bM.ah.setCell (show w.heap.size<=w.heap.size+1 by omega) _).setCell (show w.heap.size<=w.heap.size+1 by omega) _
 . have ha2:¬at_<0:=(by omega);have VB:4095<at_:=(by omega);go_wp2_with fail;refine wZ1 (v:=.tuple #[.agg #[.int .i64 0,.int .i64 0],.int .i64 1]) (by simp[results,results60,go_sem,a0,a1,f0,f1]) rfl ⟨rfl,?_⟩;exact(bM.ah.setCell (show w.heap.size<=w.heap.size+1 by omega) _).setCell (show w.heap.size<=w.heap.size+1 by omega) _
theorem z3G (e:En){w:World}(hA:b7 w e)(hs:∀o∈e.ops,o.key.size<=16777216)(Cc:∀o∈e.ops,o.val.size<=140737488351232)(at_:Int){G:Nat->Prop}{ms sb:Nat}{lo hi:ByteArray}{D P:List Pr}{S:Int->Option An}(h:fE w G ms sb lo hi D S)(I9:Pl.Tt P D)(hk:e.ax=1)(hr:Pl.cK e=true)(h0:0<=at_)(h1:at_<4096)(hl:lo.size<=16777216)(hh:hi.size<=16777216)(hx:D.length<=1000):
    Calls prog 60 #[.pointer (some ⟨ms,0,none⟩),e.agg,.int .i64 at_] w fun r w'=>r=.returned (.tuple #[fQ (Pl.gj lo hi P S e at_).cI (Pl.gj lo hi P S e at_).at_,.int .i64 0])/\∃D',rE w G ms sb lo hi D' (Pl.gj lo hi P S e at_).S w'/\Pl.Tt (Pl.gj lo hi P S e at_).P D':=by
 have hR:=fun W (g:ae w W)=>RJ e W (hA.ah g) (fun h3=>by omega) hs;rw[hr]at hR;have HR:=af hR;have fP:=Nt hk hr;have Lb:=Vs hk hr;have VC:=af (z0N hk hr);have HTW:=af (zO I9 hk hr h0 h1)
 have DN:Hid (Pl.gj lo hi P S e at_=if(e.ops.any fun o=>!Pl.bk lo hi o.key)=true then⟨3,0,0,P,S⟩
  else if eX (S e.aw) e.seq=1 then⟨Pl.fq P e.ops at_,at_,0,Pl.ju P e.ops at_,eJ S e.aw ⟨e.seq,Pl.fq P e.ops at_,at_⟩⟩
  else if eX (S e.aw) e.seq=2 then⟨(gS (S e.aw) e.seq).1,(gS (S e.aw) e.seq).2,0,P,S⟩
  else⟨4,0,0,P,S⟩):=by
  unfold Hid Pl.gj
  rw[zZ0 (not_not_intro ⟨hk,hr⟩),zZ0 (by omega)]
 generalize Pl.gj lo hi P S e at_=R at *;have NA:=zL P e.ops at_;generalize Pl.fq P e.ops at_=cw at *;generalize Pl.ju P e.ops at_=tw at *;have I6:=af NA;clear NA;have HAS:=af (fun W (g:ae w W) (o:cf) (ho:o∈e.ops)=>KV lo hi o.key W hl hh (hs o ho));have Lc:=af h;have DO:=af hA.ops;have NB:=af I9;have iI:=af (And.intro hs Cc);have HW:=af (sL.aX w e);obtain⟨Y,hY⟩:∃Y,Y=(((w.alloc (.cells e.vals.toArray 36)).alloc (.cells #[.int .i64 0,.int .i64 0] 50)).alloc (.cells #[.int .i64 0,.int .i64 0] 50)):=⟨_,rfl⟩
 rw[<-hY]at HW;have mQ:=af hY;clear hY hA hs Cc hr hR h I9;unfold En.agg at *;obtain⟨ax,aj,ak,aq,aw,seq,key,aM,aL,aA,ops,aN,aS,aF,aB,aG⟩:=e;unfold En.vals at HR mQ ⊢;dsimp only at *;subst hk;unfold fQ;go_in;go_wp2_with fail;rw[<-mQ.out];refine(HR Y HW.ah).mono ?_;rintro e w1 ⟨rfl,aR⟩;have bM:=af (HW.br aR);have fC:=bM.lt;have a0:=bM.a0;have a1:=bM.a1;have f0:=bM.f0;have f1:=bM.f1;have n0:=bM.n0;have n1:=bM.n1;have d0:w1.cell? ⟨w.heap.size,0,none⟩=some (.int .i64 1):=bM.dZ 0 _ rfl;have d1:w1.cell? ⟨w.heap.size,1,none⟩=some (.int .i64 aj):=bM.dZ 1 _ rfl;have d2:w1.cell? ⟨w.heap.size,2,none⟩=some (.int .i64 ak):=bM.dZ 2 _ rfl;have d3:w1.cell? ⟨w.heap.size,3,none⟩=some (.int .i64 aq):=bM.dZ 3 _ rfl;have d4:w1.cell? ⟨w.heap.size,4,none⟩=some (.int .i64 aw):=bM.dZ 4 _ rfl;have d5:w1.cell? ⟨w.heap.size,5,none⟩=some (.int .i64 seq):=bM.dZ 5 _ rfl;have d6:w1.cell? ⟨w.heap.size,6,none⟩=some (.slice aN ops.length aS):=bM.dZ 6 _ rfl;have d7:w1.cell? ⟨w.heap.size,7,none⟩=some (.string key):=bM.dZ 7 _ rfl;have d8:w1.cell? ⟨w.heap.size,8,none⟩=some (.int .i64 aM):=bM.dZ 8 _ rfl;have d9:w1.cell? ⟨w.heap.size,9,none⟩=some (.int .i64 aL):=bM.dZ 9 _ rfl;have d10:w1.cell? ⟨w.heap.size,10,none⟩=some (.int .i64 aA):=bM.dZ 10 _ rfl;have d11:w1.cell? ⟨w.heap.size,11,none⟩=some (.slice aF aB aG):=bM.dZ 11 _ rfl;have k0:¬at_<0:=by omega
 have k1:¬4095<at_:=by omega
 clear aR HW HR a0 a1 f0 f1 n0 n1;go_upto_region 6 with fail;go_wp2_with fail;obtain⟨tb,hI⟩:=Lc.out;have HI:=af hI;have qu:=bf hI.c0;have qw:ms<w.heap.size:=qu;clear hI qu;clear d0 d1 d2 d3 d4 d5 d7 d8 d9 d10 d11;go_loopw [40] (fun i wr=>∃k:Nat,k<=ops.length/\i=.int .i64 k/\Hid (sL w wr ⟨1,aj,ak,aq,aw,seq,key,aM,aL,aA,ops,aN,aS,aF,aB,aG⟩)/\Hid (∀j,j<k->Pl.bk lo hi (bO ops j).key=true)) (fun i _=>ops.length - (intOf i).toNat);exact⟨0,zZ5 _,rfl,bM,fun j hj=>absurd hj (yX4 j)⟩;obtain⟨k,fV,rfl,kC,DR⟩:=hrel;by_cases az:k<ops.length
 . rcases DO.out with Nw | ⟨b,off,rfl,hb,dD⟩
   . rw[Nw]at az;simp at az
   have hG:=kC.ah;have q0:=(hG.cells.1 b (off+k*5) hb).trans (dD.ax k az);have q1:=(hG.cells.1 b (off+k*5+1) hb).trans (dD.key k az);have q2:=(hG.cells.1 b (off+k*5+2) hb).trans (dD.val k az);have q3:=(hG.cells.1 b (off+k*5+3) hb).trans (dD.old k az);have q4:=(hG.cells.1 b (off+k*5+4) hb).trans (dD.eI k az);have hbr:=xA9 hb hG.size;have HM:=af (BM ops k az);have VD:=af (fun W (g:ae w W)=>HAS W g _ (BM ops k az));have js:=af (show Pl.bk lo hi (bO ops k).key=true->∀j,j<k+1->Pl.bk lo hi (bO ops j).key=true from fun h j hj=>by
    by_cases hjk:j<k
    . exact DR j hjk
    . obtain rfl:j=k:=(by omega);exact h)
   have Ce:=af (show Pl.bk lo hi (bO ops k).key=false->(ops.any fun o=>!Pl.bk lo hi o.key)=true from fun h=>zK9.2 ⟨_,BM ops k az,by rw[h];rfl⟩);rw[Rk]at VD;have hk9:k<1000000:=(by omega);clear dD hG DR;generalize bO ops k=c at *;obtain⟨c0,c1,c2,c3,c4⟩:=c;dsimp only at *;generalize Pl.bk lo hi c1=hv at *;go_upto_region 9 with fail;obtain⟨X,hX⟩:∃X,X=wr.alloc (.cells #[.int .i64 c0,.string c1,.string c2,.string c3,.int .i64 c4] 70):=⟨_,rfl⟩
   have gX:ae wr X:=(by rw[hX];exact(ae.rf wr).alloc _);have x1:X.cell? ⟨wr.heap.size,1,none⟩=some (.string c1):=(by rw[hX];simp[go_sem]);have iN:wr.heap.size<X.heap.size:=(by rw[hX];simp);have oP:=af (kC.br gX);rw[<-hX];have X1:=bj x1;have M0:=bj ((oP.ah.cells.1 _ 0 qw).trans HI.c0);have M1:=bj ((oP.ah.cells.1 _ 1 qw).trans HI.c1);have HHX:=af (fun W (g:ae X W)=>VD W (oP.ah.trans g));have j0o:=xA9 qw oP.ah.size;clear hX gX x1 q0 q1 q2 q3 q4 VD;refine pO 8 ?_;repeat (first|(refine gg ?_;intros;go_big_quiet_op;go_big_quiet_on)|(refine H0 (fun _=>by kernel_rfl) (fun u hu=>HHX u hu) ?_;simp only[Act.put,xB9,xC9,xD9])|(refine fZ ?_;simp only[Act.put,xB9,xC9,xD9]))
   refine rv ?_;intro x hgx;have pT:=af (oP.br hgx);clear X1 M0 M1 HHX hgx;dsimp only[List.drop];cases hv with
   | true=>
    go_wp2_with fail;go_roundw;case rel=>exact⟨k+1,by omega,by go_num,pT,js rfl⟩
    case measure=>simp[intOf];omega
   | false=>
    obtain rfl:R=⟨3,0,0,P,S⟩:=DN.trans (zZ1 (Ce rfl));have a0:=pT.a0;have a1:=pT.a1;have f0:=pT.f0;have f1:=pT.f1;clear DN Ce js;go_wp2_with fail;refine wZ1 (v:=.tuple #[.agg #[.int .i64 3,.int .i64 0],.int .i64 0]) (by simp[results,results60,go_sem,a0,a1,f0,f1]) rfl ⟨rfl,?_⟩;exact⟨D,rE.dw Lc ((pT.ah.setCell (show w.heap.size<=w.heap.size+1 by omega) _).setCell (show w.heap.size<=w.heap.size+1 by omega) _),NB⟩
 . have dO:k=ops.length:=(by omega);subst dO;have FJ:¬(ops.any fun o=>!Pl.bk lo hi o.key)=true:=fun h=>by
    obtain⟨o,ho,hq⟩:=zK9.1 h;obtain⟨j,hj,rfl⟩:=zK5 ho;have:=DR j hj;rw[BL ops j hj]at this;rw[this]at hq;cases hq
   have jf:=af (DN.trans (zZ0 FJ));have mS:=af (fun W (g:ae wr W)=>z5N (HI.cL.ah (kC.ah.trans g)) aw seq fP.1 fP.2);have B0:=bj ((kC.ah.cells.1 _ 3 qw).trans HI.c3);have B1:=bj (kC.dZ 4 _ rfl);have B2:=bj (kC.dZ 5 _ rfl);have hlr:=kC.lt;have j0p:=xA9 qw kC.ah.size;have DL:Hid (eX (S aw) seq=1\/eX (S aw) seq=2\/eX (S aw) seq=3):=by
    unfold Hid eX;cases S aw with
    | none=>exact .inl rfl
    | some a=>dsimp only;split;exact .inl rfl;split;exact .inr (.inl rfl);exact .inr (.inr rfl)
   have DT:=af (show eX (S aw) seq=1->eX (S aw) seq=1 from id);clear FJ DR DN;generalize hgn:eX (S aw) seq=an at mS jf DL;have HGN:=af hgn;generalize (gS (S aw) seq).1=ac at *;generalize (gS (S aw) seq).2=aa at *;clear hgn DT;unfold fQ at mS;go_wp2_with fail;refine kh 14 [12,13] (ae wr) ae (JV [⟨12,13,[.int .i64 ac,.int .i64 aa]⟩] wr) (fun f a=>a.put (some 11) (f 12)) (JV.aX _ wr _) (fun _ _ _ h=>h.ah) ae.rf (fun _ _ _ _ h g=>h.br g) ?_;repeat (first|refine kg ?_|(refine gg ?_;intros;go_big_quiet_op;go_big_quiet_on)|(refine H0 (fun _=>by kernel_rfl) (fun u hu=>mS u hu) ?_;simp only[Act.put,xB9,xC9,xD9])|(refine fZ ?_;simp only[Act.put,xB9,xC9,xD9]))
   refine jB (by rfl) ⟨⟨bL rfl (fun _ a=>a) ?_,bL rfl (fun f a=>a.put (some 11) (f 12)) ?_,trivial⟩,?_⟩
   . intro L f u hJ hL hd;clear mS B0 B1 B2;go_simp;exact hJ.alloc (by rfl) (V:=⟨12,13,[.int .i64 ac,.int .i64 aa]⟩) (by simp) hL [.int .i64 0,.int .i64 0] rfl _
   . intro L f u hJ hL hd;clear mS B0 B1 B2;obtain⟨m,x,y,hm,k0,k1,f0,f1⟩:=hJ.two (V:=⟨12,13,[.int .i64 ac,.int .i64 aa]⟩) (by simp) (hd 12 rfl (by decide)) rfl;dsimp only at hm;rw[hm];go_simp;exact hJ.store (by rfl) (V:=⟨12,13,[.int .i64 ac,.int .i64 aa]⟩) (by simp) (hd 12 rfl (by decide)) hm
   intro f u hJ;clear mS B0 B1 B2;obtain⟨m8,q8,n8,l8,v0,v1,_,_⟩:=(hJ.full (V:=⟨12,13,[.int .i64 ac,.int .i64 aa]⟩) (by simp) rfl).two;dsimp only at q8;have jO:=af (kC.br hJ.ah);clear hJ kC hlr;dsimp only[List.drop];simp only[Act.put,xB9,xD9,xC9];rw[q8];clear q8;have a0:=jO.a0;have a1:=jO.a1;have f0:=jO.f0;have f1:=jO.f1;rcases DL.out with rfl | rfl | rfl
   . clear DL a0 a1 f0 f1;obtain rfl:=jf.trans (zZ1 rfl);clear jf;have HC:=af (fun W (g:ae w W)=>z3l (HI.tab.ah g) (by omega));have t2:=(jO.ah.cells.1 _ 2 qw).trans HI.c2;go_wp2_with fail;refine(HC u jO.ah).mono ?_;rintro e w5 ⟨⟨cb,G5,rfl,hC5,hG5⟩,jq⟩;have I2:=af (jO.br jq);have KT:=af (show DM u w5 cb D from⟨jq,G5,hC5,hG5⟩);have K9:=I2.lt;have e6:w5.cell? ⟨w.heap.size,6,none⟩=some (.slice aN ops.length aS):=I2.dZ 6 _ rfl;clear HC t2 hC5 hG5 jq;go_wp2_with fail;go_loopw [14,80] (fun c i wr=>∃(k:Nat) (Dk:List Pr) (ck:Int),k<=ops.length/\i=.int .i64 k/\c=.int .i64 ck/\Hid (sL w wr ⟨1,aj,ak,aq,aw,seq,key,aM,aL,aA,ops,aN,aS,aF,aB,aG⟩)/\Hid (DM u wr cb Dk)/\Hid (Pl.pS (ops.take k) (at_+1) (D,1)=(Dk,ck))) (fun _ i _=>ops.length - (intOf i).toNat);exact⟨0,D,1,zZ5 _,rfl,rfl,I2,KT,rfl⟩;obtain⟨k,Dk,ck,fV,rfl,rfl,kC,RO,eH⟩:=hrel;by_cases az:k<ops.length
     . rcases DO.out with Nw | ⟨b,off,rfl,hb,dD⟩
       . rw[Nw]at az;simp at az
       have hG:=kC.ah;have q0:=(hG.cells.1 b (off+k*5) hb).trans (dD.ax k az);have q1:=(hG.cells.1 b (off+k*5+1) hb).trans (dD.key k az);have q2:=(hG.cells.1 b (off+k*5+2) hb).trans (dD.val k az);have q3:=(hG.cells.1 b (off+k*5+3) hb).trans (dD.old k az);have q4:=(hG.cells.1 b (off+k*5+4) hb).trans (dD.eI k az);have hbr:=xA9 hb hG.size;have NC:=af (qq (VC _ (BM ops k az)));have HZ:=af (show(bO ops k).key.size<=16777216/\(bO ops k).val.size<=140737488351232 from⟨iI.1 _ (BM ops k az),iI.2 _ (BM ops k az)⟩);have vR:=z1F ops (at_+1) (D,1) k az;rw[eH.out]at vR;have Il:Dk.length<=1000000:=by
        have:=z3j (ops.take k) (at_+1) (D,1);rw[eH.out,zZ9]at this;dsimp only at this;omega
       have kU:=af vR;have Ja:=af Il;have hk9:k<1000000:=(by omega);clear dD hG vR Il eH;generalize bO ops k=c at *;obtain⟨c0,c1,c2,c3,c4⟩:=c;dsimp only at *;go_upto_region 22 with fail;obtain⟨X,hX⟩:∃X,X=wr.alloc (.cells #[.int .i64 c0,.string c1,.string c2,.string c3,.int .i64 c4] 70):=⟨_,rfl⟩
       have gX:ae wr X:=(by rw[hX];exact(ae.rf wr).alloc _);have x0:X.cell? ⟨wr.heap.size,0,none⟩=some (.int .i64 c0):=(by rw[hX];simp[go_sem]);have x1:X.cell? ⟨wr.heap.size,1,none⟩=some (.string c1):=(by rw[hX];simp[go_sem]);have x2:X.cell? ⟨wr.heap.size,2,none⟩=some (.string c2):=(by rw[hX];simp[go_sem]);have x3:X.cell? ⟨wr.heap.size,3,none⟩=some (.string c3):=(by rw[hX];simp[go_sem]);have x4:X.cell? ⟨wr.heap.size,4,none⟩=some (.int .i64 c4):=(by rw[hX];simp[go_sem]);have iN:wr.heap.size<X.heap.size:=(by rw[hX];simp);rw[<-hX];have oP:=af (kC.br gX);have VE:=af (RO.br gX);obtain⟨ob,dS⟩:∃ob,ob=wr.heap.size:=⟨_,rfl⟩
       rw[<-dS]at x0 x1 x2 x3 x4 iN ⊢;clear hX gX dS q0 q1 q2 q3 q4 kC RO;obtain⟨GX,hTX,hGX⟩:=VE.tab;have xm:=af (Z3 hTX.read Ja c1);clear hTX hGX;go_wp2_with fail;refine xm.mono ?_;rintro e w6 ⟨rfl,tR⟩;have y0:=(tR.cells.1 _ 0 iN).trans x0;have y1:=(tR.cells.1 _ 1 iN).trans x1;have y2:=(tR.cells.1 _ 2 iN).trans x2;have y3:=(tR.cells.1 _ 3 iN).trans x3;have y4:=(tR.cells.1 _ 4 iN).trans x4;have uW:=xA9 iN tR.size;have La:=af (oP.br tR);have rH:=af (VE.br tR);have Gh:Hid (Pl.zN Dk ⟨c0,c1,c2,c3,c4⟩=if c0=3 then !((Dk.find? (Pl.gB c1)).isSome && decide (((Dk.find? (Pl.gB c1)).getD Pr.none).val.toList=c3.toList))else if c0=4 then !decide (((Dk.find? (Pl.gB c1)).getD Pr.none).eI=c4)else false):=rfl;have xj:Hid (Pl.jg Dk ⟨c0,c1,c2,c3,c4⟩ (at_+1)=if c0=1 then Pl.jS Dk ⟨c1,c2,at_+1⟩else if c0=2 then Dk.eraseP (Pl.gB c1)else if c0=3 then Pl.jS Dk ⟨c1,c2,at_+1⟩else Dk):=rfl;clear tR xm x0 x1 x2 x3 x4 iN oP VE;generalize (Dk.find? (Pl.gB c1)).isSome=th at *;generalize (Dk.find? (Pl.gB c1)).getD Pr.none=p at *;obtain⟨pk,pv,pn⟩:=p;generalize Pl.zN Dk ⟨c0,c1,c2,c3,c4⟩=bd at *;generalize Pl.jg Dk ⟨c0,c1,c2,c3,c4⟩ (at_+1)=D1 at *;unfold Pr.agg;dsimp only at *;go_upto_region 23 with fail;obtain⟨Z,hZ⟩:∃Z,Z=w6.alloc (.cells #[.string pk,.string pv,.int .i64 pn] 62):=⟨_,rfl⟩
       have gZ:ae w6 Z:=(by rw[hZ];exact(ae.rf w6).alloc _);have p1:Z.cell? ⟨w6.heap.size,1,none⟩=some (.string pv):=(by rw[hZ];simp[go_sem]);have p2:Z.cell? ⟨w6.heap.size,2,none⟩=some (.int .i64 pn):=(by rw[hZ];simp[go_sem]);have hps:w6.heap.size<Z.heap.size:=(by rw[hZ];simp);have z0:=(gZ.cells.1 _ 0 uW).trans y0;have z1:=(gZ.cells.1 _ 1 uW).trans y1;have z2:=(gZ.cells.1 _ 2 uW).trans y2;have z3:=(gZ.cells.1 _ 3 uW).trans y3;have z4:=(gZ.cells.1 _ 4 uW).trans y4;have hzs:=xA9 uW gZ.size;have ND:=af (La.br gZ);have RP:=af (rH.br gZ);rw[<-hZ];clear hZ gZ y0 y1 y2 y3 y4 uW La rH;obtain⟨GZ,VF,Ld⟩:=RP.tab;have eZ:=af (z5W VF Ja c1 c2 (at_+1) HZ.1 HZ.2);have rL:=af (y9w VF Ja c1);have jd:=af Ld;have hl:w.heap.size+2<u.heap.size:=jO.lt
       have iP:=af (fun(W':World) (D':List Pr) (t:oN Z GZ cb D' W')=>show sL w W' ⟨1,aj,ak,aq,aw,seq,key,aM,aL,aA,ops,some ⟨b,off,none⟩,aS,aF,aB,aG⟩/\DM u W' cb D' from
        have h1:=RP.step jd t
        ⟨ND.only t.1 (fun j hj=> .inr (by have:=jd j hj;omega)) (jO.ah.trans h1.ah),h1⟩)
       have hwr:IntKind.i64.wrap (at_+1)=at_+1:=IntWalk.i64_in _ (by omega);clear VF Ld;rcases NC.out with rfl | rfl | rfl | rfl
       . obtain rfl:=xj.trans (zZ1 rfl);obtain rfl:bd=false:=Gh.trans ((zZ0 (by decide)).trans (zZ0 (by decide)));have eR:=af (kU.trans (show _=(_,ck)by rw[zZ0 (by decide)]));clear Gh xj NC kU;go_wp2_with fail;refine eZ.mono ?_;rintro e w8 ⟨rfl,ht⟩;obtain⟨rM,rN⟩:=iP w8 _ ht;have tS:=af rM;have qP:=af rN;clear rM rN ht iP eZ rL z0 z1 z2 z3 z4 p1 p2;go_wp2_with fail;go_roundw;case rel=>exact⟨k+1,_,ck,by omega,by go_num,rfl,tS,qP,eR⟩
         case measure=>simp[intOf];omega
       . obtain rfl:=xj.trans ((zZ0 (by decide)).trans (zZ1 rfl));obtain rfl:bd=false:=Gh.trans ((zZ0 (by decide)).trans (zZ0 (by decide)));have eR:=af (kU.trans (show _=(_,ck)by rw[zZ0 (by decide)]));clear Gh xj NC kU;go_wp2_with fail;refine rL.mono ?_;rintro e w8 ⟨rfl,ht⟩;obtain⟨rM,rN⟩:=iP w8 _ ht;have tS:=af rM;have qP:=af rN;clear rM rN ht iP eZ rL z0 z1 z2 z3 z4 p1 p2;go_wp2_with fail;go_roundw;case rel=>exact⟨k+1,_,ck,by omega,by go_num,rfl,tS,qP,eR⟩
         case measure=>simp[intOf];omega
       . obtain rfl:=xj.trans ((zZ0 (by decide)).trans ((zZ0 (by decide)).trans (zZ1 rfl)));have oQ:=af (Gh.trans (zZ1 rfl));clear Gh xj NC;by_cases heq:pv.toList=c3.toList
         . have hb1:(pv.toList==c3.toList)=true:=(by rw[heq];simp);have hb2:(pv.toList !=c3.toList)=false:=(by rw[heq];simp);rw[wZ5 heq]at oQ;clear heq;cases th with
           | true=>
            obtain rfl:bd=false:=oQ.out;have eR:=af (kU.trans (show _=(_,ck)by rw[zZ0 (by decide)]));clear oQ kU;go_wp2_with fail;refine eZ.mono ?_;rintro e w8 ⟨rfl,ht⟩;obtain⟨rM,rN⟩:=iP w8 _ ht;have tS:=af rM;have qP:=af rN;clear rM rN ht iP eZ rL z0 z1 z2 z3 z4 p1 p2;go_wp2_with fail;go_roundw;case rel=>exact⟨k+1,_,ck,by omega,by go_num,rfl,tS,qP,eR⟩
            case measure=>simp[intOf];omega
           | false=>
            obtain rfl:bd=true:=oQ.out;have eR:=af (kU.trans (show _=(_,(2:Int))by rw[zZ1 rfl]));clear oQ kU;go_wp2_with fail;refine eZ.mono ?_;rintro e w8 ⟨rfl,ht⟩;obtain⟨rM,rN⟩:=iP w8 _ ht;have tS:=af rM;have qP:=af rN;clear rM rN ht iP eZ rL z0 z1 z2 z3 z4 p1 p2;go_wp2_with fail;go_roundw;case rel=>exact⟨k+1,_,2,by omega,by go_num,rfl,tS,qP,eR⟩
            case measure=>simp[intOf];omega
         . have hb1:(pv.toList==c3.toList)=false:=wZ3.2 heq;have hb2:(pv.toList !=c3.toList)=true:=(by rw[bne,hb1];rfl);rw[wZ6 heq,xZ7]at oQ;clear heq;obtain rfl:bd=true:=oQ.out;have eR:=af (kU.trans (show _=(_,(2:Int))by rw[zZ1 rfl]));clear oQ kU;cases th with
           | true=>
            go_wp2_with fail;refine eZ.mono ?_;rintro e w8 ⟨rfl,ht⟩;obtain⟨rM,rN⟩:=iP w8 _ ht;have tS:=af rM;have qP:=af rN;clear rM rN ht iP eZ rL z0 z1 z2 z3 z4 p1 p2;go_wp2_with fail;go_roundw;case rel=>exact⟨k+1,_,2,by omega,by go_num,rfl,tS,qP,eR⟩
            case measure=>simp[intOf];omega
           | false=>
            go_wp2_with fail;refine eZ.mono ?_;rintro e w8 ⟨rfl,ht⟩;obtain⟨rM,rN⟩:=iP w8 _ ht;have tS:=af rM;have qP:=af rN;clear rM rN ht iP eZ rL z0 z1 z2 z3 z4 p1 p2;go_wp2_with fail;go_roundw;case rel=>exact⟨k+1,_,2,by omega,by go_num,rfl,tS,qP,eR⟩
            case measure=>simp[intOf];omega
       . obtain rfl:=xj.trans ((zZ0 (by decide)).trans ((zZ0 (by decide)).trans (zZ0 (by decide))));have oQ:=af (Gh.trans ((zZ0 (by decide)).trans (zZ1 rfl)));clear Gh xj NC eZ rL iP;by_cases heq:pn=c4
         . rw[wZ5 heq]at oQ;subst heq;obtain rfl:bd=false:=oQ.out;have eR:=af (kU.trans (show _=(_,ck)by rw[zZ0 (by decide)]));clear oQ kU;have VG:=af (ND);have tS:=ND;have qP:=RP;go_wp2_with fail;go_roundw;case rel=>exact⟨k+1,_,ck,by omega,by go_num,rfl,tS,qP,eR⟩
           case measure=>simp[intOf];omega
         . rw[wZ6 heq]at oQ;have hb1:(pn==c4)=false:=wZ3.2 heq;obtain rfl:bd=true:=oQ.out;have eR:=af (kU.trans (show _=(_,(2:Int))by rw[zZ1 rfl]));clear oQ kU;have VG:=af (ND);have tS:=ND;have qP:=RP;go_wp2_with fail;go_roundw;case rel=>exact⟨k+1,_,2,by omega,by go_num,rfl,tS,qP,eR⟩
           case measure=>simp[intOf];omega
     . have dO:k=ops.length:=(by omega);subst dO;have hr:=eH.out;rw[zQ1]at hr;have Gg:=HTW.out;have NF:RN D ops at_=if ck=1 then Dk else D:=by unfold RN;rw[hr]
       rw[NF,hr]at Gg;obtain⟨hc1,hc2⟩:=Gg;dsimp only at hc1;subst hc1;have je:=af hc2;have Le:=af RO.tab;have Lf:=af (And.intro jO.lt RO.ah.size);have t2:=(kC.ah.cells.1 _ 2 qw).trans HI.c2;have r2:=(kC.ah.cells.2 _ 2 qw).trans HI.f2;have hmr:=xA9 qw kC.ah.size;have RQ:=af (HI.aC (kC.ah.only fun _=>False) (fun _ _ h=>h) (fun h=>h) (fun h=>h));clear hr NF hc2;rcases I6.out with rfl | rfl
       . rw[zZ1 rfl]at je;have VH:=je;obtain⟨Gk,hTk,tT⟩:=Le.out;go_upto_region 39 with fail;obtain⟨V,hV⟩:∃V,V=wr.setCell ⟨ms,2,none⟩ (.pointer (some ⟨cb,0,none⟩)):=⟨_,rfl⟩
         have F8:=af (show ar (fun j=>j=ms) w V by rw[hV];exact(kC.ah.only _).then (ar.setCell wr ⟨ms,2,none⟩ _));have NG:=af (show km V Gk ms cb sb lo hi Dk S by
          rw[hV];have iA:sb<w.heap.size:=HI.cL.lt;exact RQ.lay hTk (fun j hj=>⟨by have:=tT j hj;have:=Lf.1;omega,by have:=tT j hj;have:=Lf.1;omega⟩))
         have Jb:=af (show rK w V ⟨1,aj,ak,aq,aw,seq,key,aM,aL,aA,ops,aN,aS,aF,aB,aG⟩by
          have hs:ar (fun j=>j=ms) wr V:=(by rw[hV];exact ar.setCell wr ⟨ms,2,none⟩ _);exact kC.c.only hs (fun j (hj:j=ms)=> .inl (by omega)))
         have zP:=af (show ∀j,Gk j->(G j/\j<w.heap.size)\/u.heap.size<=j from fun j hj=> .inr (tT j hj));have KS:wr.heap.size=V.heap.size:=(by rw[hV];simp);rw[<-hV,KS];clear KS hV t2 r2 hmr hTk tT Le RQ;obtain⟨X8,wm⟩:∃X8,X8=V.alloc (.cells #[.int .i64 1,.int .i64 at_] 50):=⟨_,rfl⟩
         have g8:ae V X8:=(by rw[wm];exact(ae.rf V).alloc _);have b0:X8.cell? ⟨V.heap.size,0,none⟩=some (.int .i64 1):=(by rw[wm];simp[go_sem]);have b1:X8.cell? ⟨V.heap.size,1,none⟩=some (.int .i64 at_):=(by rw[wm];simp[go_sem]);have zQ:V.heap.size<X8.heap.size:=(by rw[wm];simp);rw[<-wm];have nM:=af (NG.aC (g8.only fun _=>False) (fun _ _ h=>h) (fun h=>h) (fun h=>h));have oP:=af (Jb.br g8);have Jc:=af (((F8.mono (T:=fun j=>j=ms\/j=sb\/G j) (fun j hj=> .inl (.inl hj)))).dG g8);have DT:=af (fun W (g:ae X8 W)=>y7U (nM.cL.ah g) aw ⟨seq,1,at_⟩ fP.1 fP.2 ⟨Lb.1,Lb.2.1,by simp,h0,h1⟩ HGN);have C0:=bj nM.c3;have C1:=bj (oP.dZ 4 _ rfl);have C2:=bj (oP.dZ 5 _ rfl);have C3:=bj b0;have C4:=bj b1;have VI:=bf nM.c0;have VJ:=oP.lt;obtain⟨vb,dP⟩:∃vb,vb=V.heap.size:=⟨_,rfl⟩
         rw[<-dP]at b0 b1 zQ C3 C4 ⊢;have VK:=af (show w.heap.size+2<vb by rw[dP];exact Jb.lt);unfold fQ at DT;clear wm g8 dP NG Jb F8;refine pO 9 ?_;repeat (first|(refine gg ?_;intros;go_big_quiet_op;go_big_quiet_on)|(refine fZ ?_;simp only[Act.put,xB9,xC9,xD9]))
         refine jB (by rfl) ?_;intro x hgx;have NH:=af (nM.aC (hgx.only fun _=>False) (fun _ _ h=>h) (fun h=>h) (fun h=>h));have pT:=af (oP.br hgx);have zR:=af (Jc.dG hgx);have NI:=af (DT x hgx);have b0:=(hgx.cells.1 _ 0 zQ).trans b0;have b1:=(hgx.cells.1 _ 1 zQ).trans b1;have j5:=xA9 zQ hgx.size;clear C0 C1 C2 C3 C4 hgx nM oP Jc DT zQ VI VJ;dsimp only[List.drop];go_wp2_with fail;refine NI.mono ?_;rintro e w9 ⟨rfl,pA,NJ⟩;have iA:sb<w.heap.size:=HI.cL.lt;have hlx:=pT.lt;have n1:w.heap.size+1≠sb:=(by omega);have n2:vb≠sb:=(by have:=VK.out;omega);have a0:=(pA.cell (by omega) n1 0).trans pT.a0;have a1:=(pA.cell (by omega) n1 1).trans pT.a1;have f0:=(pA.frozen (by omega) n1 0).trans pT.f0;have f1:=(pA.frozen (by omega) n1 1).trans pT.f1;have b0:=(pA.cell j5 n2 0).trans b0;have b1:=(pA.cell j5 n2 1).trans b1;have VL:=af (NH.note pA NJ);have zS:=af (zR.trans pA (fun j hj=> .inl (.inr (.inl hj))));have RR:=pA.size;have Jd:vb<w9.heap.size:=(by omega);have hl9:w.heap.size+2<w9.heap.size:=(by omega);clear pA NJ NI NH pT zR n1 n2 hlx j5 RR;go_wp2_with fail;refine wZ1 (v:=.tuple #[.agg #[.int .i64 1,.int .i64 at_],.int .i64 0]) (by simp[results,results60,go_sem,a0,a1,f0,f1]) rfl ⟨rfl,?_⟩;have gy:ar (fun j=>j=w.heap.size+1) w9 ((w9.setCell ⟨w.heap.size+1,0,none⟩ (.int .i64 1)).setCell ⟨w.heap.size+1,1,none⟩ (.int .i64 at_)):=(ar.setCell w9 ⟨w.heap.size+1,0,none⟩ _).then (ar.setCell _ ⟨w.heap.size+1,1,none⟩ _);exact⟨_,⟨zS.trans gy (fun j (hj:j=w.heap.size+1)=> .inr (by omega)),_,⟨_,VL.aC gy (fun j hj (e:j=w.heap.size+1)=>by have:=zP j hj;have:=Lf.1;omega) (fun(e:ms=w.heap.size+1)=>by omega) (fun(e:sb=w.heap.size+1)=>by omega)⟩,fun j hj=>by
          rcases zP.out j hj with q | q
          . exact .inl q.1
          . exact .inr (by have:=Lf.1;omega)⟩,VH⟩
       . rw[zZ0 (by decide)]at je;have VH:=je;have F8:=af (kC.ah.only fun j=>j=ms);have NG:=RQ;have Jb:=af kC.c;have zP:=af (show ∀j,G j->(G j/\j<w.heap.size)\/u.heap.size<=j from fun j hj=> .inl ⟨hj,HI.tab.lt j hj⟩);clear t2 r2 hmr Le RQ;go_upto_region 39 with fail;obtain⟨X8,wm⟩:∃X8,X8=wr.alloc (.cells #[.int .i64 2,.int .i64 at_] 50):=⟨_,rfl⟩
         have g8:ae wr X8:=(by rw[wm];exact(ae.rf wr).alloc _);have b0:X8.cell? ⟨wr.heap.size,0,none⟩=some (.int .i64 2):=(by rw[wm];simp[go_sem]);have b1:X8.cell? ⟨wr.heap.size,1,none⟩=some (.int .i64 at_):=(by rw[wm];simp[go_sem]);have zQ:wr.heap.size<X8.heap.size:=(by rw[wm];simp);rw[<-wm];have nM:=af (NG.aC (g8.only fun _=>False) (fun _ _ h=>h) (fun h=>h) (fun h=>h));have oP:=af (Jb.br g8);have Jc:=af (((F8.mono (T:=fun j=>j=ms\/j=sb\/G j) (fun j hj=> .inl (.inl hj)))).dG g8);have DT:=af (fun W (g:ae X8 W)=>y7U (nM.cL.ah g) aw ⟨seq,2,at_⟩ fP.1 fP.2 ⟨Lb.1,Lb.2.1,by simp,h0,h1⟩ HGN);have C0:=bj nM.c3;have C1:=bj (oP.dZ 4 _ rfl);have C2:=bj (oP.dZ 5 _ rfl);have C3:=bj b0;have C4:=bj b1;have VI:=bf nM.c0;have VJ:=oP.lt;obtain⟨vb,dP⟩:∃vb,vb=wr.heap.size:=⟨_,rfl⟩
         rw[<-dP]at b0 b1 zQ C3 C4 ⊢;have VK:=af (show w.heap.size+2<vb by rw[dP];exact Jb.lt);unfold fQ at DT;clear wm g8 dP NG Jb F8;refine pO 9 ?_;repeat (first|(refine gg ?_;intros;go_big_quiet_op;go_big_quiet_on)|(refine fZ ?_;simp only[Act.put,xB9,xC9,xD9]))
         refine jB (by rfl) ?_;intro x hgx;have NH:=af (nM.aC (hgx.only fun _=>False) (fun _ _ h=>h) (fun h=>h) (fun h=>h));have pT:=af (oP.br hgx);have zR:=af (Jc.dG hgx);have NI:=af (DT x hgx);have b0:=(hgx.cells.1 _ 0 zQ).trans b0;have b1:=(hgx.cells.1 _ 1 zQ).trans b1;have j5:=xA9 zQ hgx.size;clear C0 C1 C2 C3 C4 hgx nM oP Jc DT zQ VI VJ;dsimp only[List.drop];go_wp2_with fail;refine NI.mono ?_;rintro e w9 ⟨rfl,pA,NJ⟩;have iA:sb<w.heap.size:=HI.cL.lt;have hlx:=pT.lt;have n1:w.heap.size+1≠sb:=(by omega);have n2:vb≠sb:=(by have:=VK.out;omega);have a0:=(pA.cell (by omega) n1 0).trans pT.a0;have a1:=(pA.cell (by omega) n1 1).trans pT.a1;have f0:=(pA.frozen (by omega) n1 0).trans pT.f0;have f1:=(pA.frozen (by omega) n1 1).trans pT.f1;have b0:=(pA.cell j5 n2 0).trans b0;have b1:=(pA.cell j5 n2 1).trans b1;have VL:=af (NH.note pA NJ);have zS:=af (zR.trans pA (fun j hj=> .inl (.inr (.inl hj))));have RR:=pA.size;have Jd:vb<w9.heap.size:=(by omega);have hl9:w.heap.size+2<w9.heap.size:=(by omega);clear pA NJ NI NH pT zR n1 n2 hlx j5 RR;go_wp2_with fail;refine wZ1 (v:=.tuple #[.agg #[.int .i64 2,.int .i64 at_],.int .i64 0]) (by simp[results,results60,go_sem,a0,a1,f0,f1]) rfl ⟨rfl,?_⟩;have gy:ar (fun j=>j=w.heap.size+1) w9 ((w9.setCell ⟨w.heap.size+1,0,none⟩ (.int .i64 2)).setCell ⟨w.heap.size+1,1,none⟩ (.int .i64 at_)):=(ar.setCell w9 ⟨w.heap.size+1,0,none⟩ _).then (ar.setCell _ ⟨w.heap.size+1,1,none⟩ _);exact⟨_,⟨zS.trans gy (fun j (hj:j=w.heap.size+1)=> .inr (by omega)),_,⟨_,VL.aC gy (fun j hj (e:j=w.heap.size+1)=>by have:=zP j hj;have:=Lf.1;omega) (fun(e:ms=w.heap.size+1)=>by omega) (fun(e:sb=w.heap.size+1)=>by omega)⟩,fun j hj=>by
          rcases zP.out j hj with q | q
          . exact .inl q.1
          . exact .inr (by have:=Lf.1;omega)⟩,VH⟩
   . clear DL;obtain rfl:R=⟨ac,aa,0,P,S⟩:=jf.trans ((zZ0 (by decide)).trans (zZ1 rfl));clear jf;go_wp2_with fail;refine wZ1 (v:=.tuple #[.agg #[.int .i64 ac,.int .i64 aa],.int .i64 0]) (by simp[results,results60,go_sem,a0,a1,f0,f1]) rfl ⟨rfl,?_⟩;exact⟨D,rE.dw Lc ((jO.ah.setCell (show w.heap.size<=w.heap.size+1 by omega) _).setCell (show w.heap.size<=w.heap.size+1 by omega) _),NB⟩
   . clear DL;obtain rfl:R=⟨4,0,0,P,S⟩:=jf.trans ((zZ0 (by decide)).trans (zZ0 (by decide)));clear jf;go_wp2_with fail;refine wZ1 (v:=.tuple #[.agg #[.int .i64 4,.int .i64 0],.int .i64 0]) (by simp[results,results60,go_sem,a0,a1,f0,f1]) rfl ⟨rfl,?_⟩;exact⟨D,rE.dw Lc ((jO.ah.setCell (show w.heap.size<=w.heap.size+1 by omega) _).setCell (show w.heap.size<=w.heap.size+1 by omega) _),NB⟩
theorem JO (ns:List Nat)(hn:∀n∈ns,n<128):∀j,((ns.take j).flatMap Pl.aU).length<=j
 | 0=>by simp
 | j+1=>by
  have h:=JO ns hn j;rcases zJ7 j ns.length with q | q
  . rw[zX1 q,zK3,zZ4];have e:Pl.aU ns[j]=[(ns[j]:Int)]:=Pl.tG (hn _ (zQ4 q));have e2:List.flatMap Pl.aU [ns[j]]=[(ns[j]:Int)]:=(by rw[zK2,e];rfl);rw[e2];simp only[zQ6,zJ0];omega
  . rw[zJ3 (by omega)]at h ⊢;omega
def Lv (ns:List Nat):List Value:=ns.map fun n:Nat=>Value.int .i64 (n:Int)
theorem z2D {w W:World}{V0:List (Nat×List Value)}{ob:Nat}{cs:List Int}{nb:Nat}{ns:List Nat}(h:iE w W ((nb,Lv ns)::V0) ob cs)(hn:∀n∈ns,n<128)(hl:ns.length<=100)(hb:cs.length<=80000000):
    Calls prog 237 #[.pointer (some ⟨ob,0,none⟩),.slice (some ⟨nb,0,none⟩) ns.length ns.length] W fun e w'=>e=.returned (.tuple #[])/\iE w w' ((nb,Lv ns)::V0) ob (cs++ns.flatMap Pl.aU):=by
 have OJ:=af h;have HN:=af hn;obtain⟨l,tI⟩:∃l,ns.length=l:=⟨_,rfl⟩
 have HL:=af tI;have HB:=af hb;rw[tI]at hl ⊢;clear h hn tI hb;go_in;go_wp2_with fail;go_loopw [5,8] (fun v i wr=>∃j:Nat,j<=l/\i=.int .i64 j/\Hid (iE w wr ((nb,Lv ns)::V0) ob (cs++(ns.take j).flatMap Pl.aU))) (fun _ i _=>l - (intOf i).toNat);exact⟨0,by omega,rfl,by unfold Hid;simpa using OJ.out⟩;obtain⟨j,hj,rfl,kW⟩:=hrel;by_cases jH:j<l
 . have kR:j<ns.length:=(by rw[HL.out];exact jH);obtain⟨n,hn⟩:∃n,ns[j]=n:=⟨_,rfl⟩
   have iU:n<128:=HN n (by rw[<-hn];exact zQ4 kR);have u:=kW.c _ (zZ8 ..) j (.int .i64 n) (by unfold Lv;dsimp only;rw[yZ3,zQ5 kR,hn];rfl);have kF:=kW.lt _ (zZ8 ..);dsimp only at u kF;have Sm:((ns.take j).flatMap Pl.aU).length<=j:=JO ns HN j;have pj:=af (show cs++(ns.take (j+1)).flatMap Pl.aU=cs++(ns.take j).flatMap Pl.aU++Pl.aU n by
    rw[zX1 kR,zK3,hn,zQ7];simp)
   have HX:=af (kW.num n (by omega) (by have:=HB.out;rw[zZ4];omega));clear Sm kW kR hn;go_wp2_with fail;refine HX.mono ?_;rintro e w8 ⟨rfl,hB8⟩;have JP:=af hB8;clear hB8 HX u kF;go_wp2_with fail;go_roundw;case rel=>exact⟨j+1,by omega,by go_num,by rw[pj.out];exact JP⟩
   case measure=>simp[intOf];omega
 . have kR:j=l:=(by omega);subst kR;rw[<-HL.out,zQ1]at kW;go_wp2_with fail;go_end0;exact⟨rfl,kW⟩
theorem iE.box {w W:World}{V:List (Nat×List Value)}{ob:Nat}{cs:List Int}(h:iE w W V ob cs)(vals:List Value)(T:TypeId):iE w (W.alloc (.cells vals.toArray T)) ((W.heap.size,vals)::V) ob cs:=
 h.add ((ae.rf W).alloc _) _ vals (zZ3 _) (by simp) fun i v hv=>by rw[wQ1 _ _ i _ _ _ (wZ0 W _)];simpa using hv
theorem iE.OL {w W:World}{V:List (Nat×List Value)}{ob:Nat}{cs:List Int}(h:iE w W V ob cs)(vals us:List Value)(T U:TypeId):iE w ((W.alloc (.cells vals.toArray T)).alloc (.cells us.toArray U)) ((W.heap.size+1,us)::(W.heap.size,vals)::V) ob cs:=by
 have:=(h.box vals T).box us U;simpa using this
theorem z5z {w W:World}{V:List (Nat×List Value)}{ob:Nat}{cs:List Int}(h:iE w W V ob cs)(s o v:Nat)(hs:s<128)(ho:o<128)(hv:v<128)(key:ByteArray)(hk:key.size<=1000000)(hb:cs.length<=70000000):
    Calls prog 244 #[.agg #[.int .i64 s,.int .i64 o,.int .i64 v,.string key],.pointer (some ⟨ob,0,none⟩)] W fun e w'=>e=.returned (.tuple #[])/\iE w w' V ob (cs++[3,s,o,v].flatMap Pl.aU++Pl.bn key):=by
 have HB:=af h;have HC:=af (And.intro hb hk);clear h hb;go_in;go_wp2_with fail;have HX:=af (z2D (ns:=[3,s,o,v]) (HB.OL [.int .i64 s,.int .i64 o,.int .i64 v,.string key] (Lv [3,s,o,v]) 205 3) (by intro n hn;simp at hn;omega) (by simp) (by have:=HC.1;omega));refine HX.mono ?_;rintro e w2 ⟨rfl,h2⟩;have k3:=h2.tail.c _ (zZ8 ..) 3 (.string key) rfl;have kl:=h2.tail.lt _ (zZ8 ..);dsimp only at k3 kl;have HY:=af (h2.tail.tail.text key HC.2 (by
  rw[zZ4];have:=HC.1;have:=JO [3,s,o,v] (by intro n hn;simp at hn;omega) 4;rw[show [3,s,o,v].take 4=[3,s,o,v]from rfl]at this;omega))
 clear h2 HX HB;go_wp2_with fail;refine HY.mono ?_;rintro e w3 ⟨rfl,h3⟩;clear HY;go_wp2_with fail;go_end0;exact⟨rfl,h3⟩
theorem z6c {w W:World}{V:List (Nat×List Value)}{ob:Nat}{cs:List Int}(h:iE w W V ob cs)(s o:Nat)(hs:s<128)(ho:o<128)(hb:cs.length<=70000000):
    Calls prog 247 #[.agg #[.int .i64 s,.int .i64 o],.pointer (some ⟨ob,0,none⟩)] W fun e w'=>e=.returned (.tuple #[])/\iE w w' V ob (cs++[4,s,o].flatMap Pl.aU):=by
 have HB:=af h;have HC:=af hb;clear h hb;go_in;go_wp2_with fail;have HX:=af (z2D (ns:=[4,s,o]) (HB.OL [.int .i64 s,.int .i64 o] (Lv [4,s,o]) 207 3) (by intro n hn;simp at hn;omega) (by simp) (by have:=HC.out;omega));refine HX.mono ?_;rintro e w2 ⟨rfl,h2⟩;have h3:=h2.tail.tail;clear h2 HX HB;go_wp2_with fail;go_end0;exact⟨rfl,h3⟩
end
section
namespace Pl
def pB (lo hi:ByteArray)(P:List Pr):Prop:=∀c∈P,bk lo hi c.key=true
theorem DU (lo hi:ByteArray):pB lo hi []:=fun c h=>by cases h
theorem zT {P:List Pr}(h:dK P)(o:cf)(v:Int):∀c∈(cP P o v).1,c∈P\/c.key=o.key:=by
 intro c hc;unfold cP at hc;split at hc
 . exact .inl ((UE h _ _).1 hc).1
 . split at hc
   . exact .inl hc
   . split at hc
     . exact .inl hc
     . unfold lv at hc;dsimp only at hc;split at hc
       . next hp=>
         rcases(Rh h (IE hp).1 _).1 hc with hq | hq
         . exact .inr (by rw[hq])
         . exact .inl hq.1
       . exact .inl hc
theorem zU {P:List Pr}(h:dK P)(o:cf)(v:Int):dK (cP P o v).1:=by
 unfold cP;split
 . exact UD h _
 . split
   . exact h
   . split
     . exact h
     . unfold lv;dsimp only;split
       . next hp=>exact Rg h (IE hp).1
       . exact h
theorem z5w {lo hi:ByteArray}(v:Int):∀(ops:List cf) {P:List Pr},dK P->pB lo hi P->(∀o∈ops,bk lo hi o.key=true)->pB lo hi (lJ ops v P).1:=by
 intro ops;induction ops with
 | nil=>intro P _ h _;exact h
 | cons o os ih=>
  intro P hs h ho;have h1:pB lo hi (cP P o v).1:=fun c hc=>by
   rcases zT hs o v c hc with q | q
   . exact h c q
   . rw[q];exact ho o (by simp)
  rw[IZ];split
  . exact ih (zU hs o v) h1 fun x hx=>ho x (by simp[hx])
  . exact h1
theorem z5G {lo hi:ByteArray}{P:List Pr}(hs:dK P)(h:pB lo hi P)(S:Int->Option An)(e:En)(at_:Int):pB lo hi (gj lo hi P S e at_).P:=by
 unfold gj;split
 . exact h
 . split
   . exact h
   . split
     . exact h
     . next hq=>
       split
       . show pB lo hi (ju P e.ops at_);unfold ju;split
         . exact z5w _ _ hs h (VA hq)
         . exact h
       . split<;> exact h
theorem z4a (lo hi:ByteArray)(P:List Pr)(S:Int->Option An)(e:En)(at_:Int):(gj lo hi P S e at_).P.length<=P.length+8:=by
 unfold gj;by_cases h1:e.ax=1/\cK e=true
 . rw[zZ0 (not_not_intro h1)];split
   . dsimp only;omega
   . split
     . dsimp only;omega
     . split
       . have:=zK P e.ops at_;have:=(Vs h1.1 h1.2).2.2;dsimp only;omega
       . split<;> (dsimp only;omega)
 . rw[zZ1 h1];dsimp only;omega
end Pl
def gq (Ft Fs:Nat->Prop)(st j:Nat):Prop:=Ft j\/Fs j\/j=st
def jh (G:Nat->Prop)(ms sb j:Nat):Prop:=G j\/j=ms\/j=sb
structure TwS (w0 W:World)(st ms n:Nat)(lo hi:ByteArray)(P:List Pr)(S:Int->Option An):Prop where
 ah:ae w0 W
 ex:∃Ft Fs G sb D,dE W Ft Fs st n lo hi P S/\fE W G ms sb lo hi D S/\Pl.Tt P D/\(∀j,gq Ft Fs st j->w0.heap.size<=j/\¬jh G ms sb j)/\(∀j,jh G ms sb j->w0.heap.size<=j)
 ins:pB lo hi P
section
variable {w0 W W':World}{st ms n:Nat}{lo hi:ByteArray}{P:List Pr}{S:Int->Option An}
theorem dE.all {W:World}{Ft Fs:Nat->Prop}{st n:Nat}{lo hi:ByteArray}{P:List Pr}{S:Int->Option An}(h:dE W Ft Fs st n lo hi P S):∀j,gq Ft Fs st j->j<W.heap.size:=by
 obtain⟨tb,sb,h⟩:=h;rintro j (hj | hj | rfl)
 . exact pR h.tab j hj
 . exact h.cL.lt j hj
 . exact bf h.c0
theorem fE.all {W:World}{G:Nat->Prop}{ms sb:Nat}{lo hi:ByteArray}{D:List Pr}{S:Int->Option An}(h:fE W G ms sb lo hi D S):∀j,jh G ms sb j->j<W.heap.size:=by
 obtain⟨a,b,c⟩:=h.lt;rintro j (hj | rfl | rfl)
 . exact c j hj
 . exact a
 . exact b
end
end
namespace Pl
theorem z6d {s:ByteArray}(h:aT s=0):right s=true:=by
 obtain⟨l,hl⟩:=jP h;unfold right;rw[hl];rfl
theorem uX {lo hi key:ByteArray}(h:bk lo hi key=true):bD lo hi=true/\isKey key=true/\0<=cU key lo/\dv key hi=true:=by
 unfold bk at h;simp only[zZ7,wZ2]at h;exact⟨h.1.1.1,h.1.1.2,h.1.2,h.2⟩
theorem VM (b:ByteArray):bm b=true↔b=⟨#[]⟩:=by
 unfold bm;rw[yZ5];constructor
 . intro h;have:b.data.toList=[]:=List.isEmpty_iff.1 h;cases b with
   | mk d=>simp at this;rw[this]
 . rintro rfl;rfl
theorem ok_none:Ok ⟨#[]⟩:=⟨[],rfl⟩
theorem uY {s:ByteArray}(h:isKey s=true):Ok s:=jP (by unfold isKey at h;simpa using h)
theorem zV {s:ByteArray}(h:eG s=true):Ok s:=by
 unfold eG at h;rw[yZ0]at h;rcases h with h | h
 . rw[(VM s).1 h];exact ok_none
 . exact uY h
theorem RS {k:ByteArray}(h:isKey k=true):bm k=false:=by
 cases hn:bm k with
 | false=>rfl
 | true=>
  rw[(VM k).1 hn]at h;exact absurd h (by decide)
theorem z3h {lo hi key:ByteArray}(h:bk lo hi key=true)(hne:key.toList≠lo.toList):
    bD lo key=true/\bD key hi=true/\bg (bD lo key) (bD key hi) lo key key hi=0/\aW (bD lo key) (bD key hi) lo key key hi=(lo,hi):=by
 obtain⟨h1,h2,h3,h4⟩:=uX h;unfold bD at h1;simp only[zZ7]at h1;obtain⟨⟨e1,e2⟩,e3⟩:=h1;have hek:eG key=true:=by unfold eG;rw[h2];simp
 have az:dv lo key=true:=by
  unfold dv;rw[RS h2,yZ4,wZ2];have hz:cU key lo≠0:=by
   intro hz;have:=CS (uY h2) (zV e1) hz;exact hne (by rw[this])
  have:=yU (uY h2) (zV e1);omega
 have r1:bD lo key=true:=by unfold bD;rw[e1,hek,az];rfl
 have r2:bD key hi=true:=by unfold bD;rw[e2,hek,h4];rfl
 refine⟨r1,r2,?_,?_⟩
 . unfold bg;rw[r1,r2,RS h2];simp
 . unfold aW;rw[r1,r2,RS h2];simp
theorem z6u {lo hi key:ByteArray}(h:eA (bD lo hi) (aT key) (bk lo hi key) lo key=0):aT key=0/\bk lo hi key=true/\key.toList≠lo.toList:=by
 unfold eA at h;split at h
 . cases h
 . split at h
   . omega
   . split at h
     . cases h
     . rename_i h1 h2 h3;refine⟨by omega,?_,fun e=>h3 (.inr e)⟩;cases e:bk lo hi key with
       | true=>rfl
       | false=>exact absurd (.inl e) h3
theorem z6e {P:List Pr}{lo hi key:ByteArray}(hP:dK P)(iG:pB lo hi P)(h:eA (bD lo hi) (aT key) (bk lo hi key) lo key=0):
    bD lo key=true/\bD key hi=true/\pB lo key (P.take (bN P key))/\pB key hi (P.drop (bN P key))/\key.size<=96:=by
 obtain⟨h1,h2,h3⟩:=z6u h;obtain⟨r1,r2,_,_⟩:=z3h h2 h3;have hk:isKey key=true:=by unfold isKey;rw[h1];rfl
 have eK:=uY hk;have hr:right key=true:=z6d h1;have hn:bN P key=pos P key:=by unfold bN;rw[zZ1 hr]
 rw[hn];refine⟨r1,r2,fun c hc=>?_,fun c hc=>?_,F5 h1⟩
 . obtain⟨hm,az⟩:=(y6k hP eK c).1 hc;obtain⟨_,q2,q3,_⟩:=uX (iG c hm);unfold bk;rw[r1,q2];have:dv c.key key=true:=(by unfold dv;rw[wZ5 az,Bool.or_true]);rw[this,wZ5 q3];rfl
 . obtain⟨hm,az⟩:=(y6i hP eK c).1 hc;obtain⟨_,q2,_,q4⟩:=uX (iG c hm);unfold bk;rw[r2,q2,q4,wZ5 (show 0<=cU c.key key by omega)];rfl
end Pl
structure dR where
 xs:List Sh
 aD:Nat->Bool
 ne:Nat
 evs:List Value
def dR.init:dR:=⟨[KH],qZ,0,[]⟩
def gm (w:World)(F:Nat->Prop)(sb:Nat)(s:dR):Prop:=gR w F sb s.xs s.aD s.ne s.evs
theorem gm.ah {w w':World}{F:Nat->Prop}{sb:Nat}{s:dR}(h:gm w F sb s)(g:ae w w'):gm w' F sb s:=gR.ah h g
namespace Pl
def j7 (xs:List Sh)(e:En):Nat:=(aK xs e.aj).toNat
def pU (xs:List Sh)(e:En):Nat:=(aK xs e.ak).toNat
def bp (s:dR)(e:En)(at':Int):dR:=
 if e.ax=2 then⟨s.xs.set (j7 s.xs e) ⟨(ai s.xs (j7 s.xs e)).id,e.aq,(ai s.xs (j7 s.xs e)).cJ,(ai s.xs (j7 s.xs e)).lo,(ai s.xs (j7 s.xs e)).hi⟩,s.aD,s.ne,s.evs⟩
 else if e.ax=3 then⟨kz s.xs (j7 s.xs e) e.key e.ak e.aq at',tz s.aD e.ak.toNat,s.ne+1,s.evs++ja at' e⟩
 else⟨kJ s.xs (j7 s.xs e) (pU s.xs e) (aW (bD (ai s.xs (j7 s.xs e)).lo (ai s.xs (j7 s.xs e)).hi) (bD (ai s.xs (pU s.xs e)).lo (ai s.xs (pU s.xs e)).hi) (ai s.xs (j7 s.xs e)).lo (ai s.xs (j7 s.xs e)).hi (ai s.xs (pU s.xs e)).lo (ai s.xs (pU s.xs e)).hi) at',s.aD,s.ne+1,s.evs++ja at' e⟩
def zW (s:dR)(e:En)(at':Int):dR:=if gp s.xs s.aD e at'=true then bp s e at' else s
theorem qx {xs:List Sh}{aD:Nat->Bool}{e:En}(h:jG xs aD e=true):
    cK e=true/\∃i,i<xs.length/\aK xs e.aj=(i:Nat)/\j7 xs e=i/\(ai xs i).id=e.aj/\
     (e.ax=2\/
      (e.ax=3/\aD e.ak.toNat=false/\1<=e.ak/\e.ak<=12/\bk (ai xs i).lo (ai xs i).hi e.key=true/\e.key.toList≠(ai xs i).lo.toList)\/
      (e.ax=4/\∃j,j<xs.length/\aK xs e.ak=(j:Nat)/\pU xs e=j/\(ai xs j).id=e.ak/\bg (bD (ai xs i).lo (ai xs i).hi) (bD (ai xs j).lo (ai xs j).hi) (ai xs i).lo (ai xs i).hi (ai xs j).lo (ai xs j).hi=0)):=by
 unfold jG at h;by_cases hr:cK e=true
 . refine⟨hr,?_⟩;rw[zZ0 (by rw[hr];simp)]at h;rcases Hn xs e.aj with hf | ⟨i,hi,hf,cH⟩
   . rw[hf]at h;simp at h
   . refine⟨i,hi,hf,by unfold j7;rw[hf];rfl,cH,?_⟩;rw[hf,zZ0 (by omega),zQ3]at h;by_cases k2:e.ax=2
     . exact .inl k2
     . rw[zZ0 k2]at h;by_cases k3:e.ax=3
       . rw[zZ1 k3]at h;simp only[zZ7,yJ0,wZ4]at h;obtain⟨o1,o2⟩:=Tn hr k3;exact .inr (.inl ⟨k3,h.1.1,o1,o2,h.1.2,h.2⟩)
       . rw[zZ0 k3]at h;by_cases k4:e.ax=4
         . rw[zZ1 k4]at h;rcases Hn xs e.ak with hj | ⟨j,jH,hj,gz⟩
           . rw[hj]at h;simp at h
           . rw[hj,zZ0 (by omega),zQ3]at h;exact .inr (.inr ⟨k4,j,jH,hj,by unfold pU;rw[hj];rfl,gz,by simpa using h⟩)
         . rw[zZ0 k4]at h;cases h
 . rw[zZ1 (by simpa using hr)]at h;cases h
theorem RT {lo hi key:ByteArray}(h:bk lo hi key=true)(hne:key.toList≠lo.toList):eA (bD lo hi) (aT key) (bk lo hi key) lo key=0:=by
 obtain⟨h1,h2,_,_⟩:=uX h;have h3:aT key=0:=by unfold isKey at h2;simpa using h2
 unfold eA;simp[h1,h3,h,hne]
end Pl
theorem z5Y {S:Nat->Bool}(hS:iM S)(E:Nat->Addr){w:World}(hE:bz S E w){F:Nat->Prop}{sb:Nat}{s:dR}(h:gm w F sb s)(hx:s.xs.length<=1000)(hne:s.ne<=1000000)(e:En)(hA:b7 w e)(bX:e.key.size<=70368744177664)(at':Int):
    Calls prog 32 #[.pointer (some ⟨sb,0,none⟩),e.agg,.int .i64 at'] w fun r w'=>r=.returned (.bool (gp s.xs s.aD e at'))/\ar F w w'/\∃F',gm w' F' sb (Pl.zW s e at')/\∀j,F' j->F j\/w.heap.size<=j:=by
 obtain⟨xs,aD,ne,evs⟩:=s;unfold gm at *;dsimp only at *;cases hap:gp xs aD e at' with
 | false=>
  refine(Zh hS E hE h hx e hA bX at' hap).mono ?_;rintro r w' ⟨rfl,g⟩;have e0:Pl.zW ⟨xs,aD,ne,evs⟩ e at'=⟨xs,aD,ne,evs⟩:=by unfold Pl.zW;rw[zZ0 (by rw[hap];simp)]
  rw[e0];exact⟨rfl,g.only F,F,h.ah g,fun _=> .inl⟩
 | true=>
  have e0:Pl.zW ⟨xs,aD,ne,evs⟩ e at'=Pl.bp ⟨xs,aD,ne,evs⟩ e at':=by unfold Pl.zW;rw[zZ1 hap]
  rw[e0];have hc:Pl.jG xs aD e=true:=by
   unfold gp at hap;simp only[zZ7]at hap;exact hap.1.1
  obtain⟨hr,i,hi,hf,gL,cH,hk⟩:=qx hc;rcases hk with k2 | ⟨k3,hu,o1,o2,hh,wY⟩ | ⟨k4,j,hj,nI,qQ,gz,kR⟩
  . refine(z4o hS E hE h hx e hA bX at' hap k2 i hi hf).mono ?_;rintro r w' ⟨rfl,ho,F',h',hF'⟩;refine⟨rfl,ho,F',?_,hF'⟩;unfold Pl.bp;rw[zZ1 k2,gL];exact h'
  . refine(z1V hS E hE h hx e hA bX hne at' hap k3 i hi hf o1 o2 (Pl.RT hh wY)).mono ?_;rintro r w' ⟨rfl,ho,F',h',hF'⟩;refine⟨rfl,ho,F',?_,hF'⟩;unfold Pl.bp;rw[zZ0 (by omega),zZ1 k3,gL];exact h'
  . refine(z1Z hS E hE h hx e hA bX hne at' hap k4 i hi hf j hj nI kR).mono ?_;rintro r w' ⟨rfl,ho,F',h',hF'⟩;refine⟨rfl,ho,F',?_,hF'⟩;unfold Pl.bp;rw[zZ0 (by omega),zZ0 (by omega),gL,qQ];exact h'
def LJ (w:World)(ms:Nat)(lo hi:ByteArray)(D:List Pr)(S:Int->Option An):Prop:=
 ∃tb sb,w.cell? ⟨ms,0,none⟩=some (.string lo)/\w.cell? ⟨ms,1,none⟩=some (.string hi)/\w.cell? ⟨ms,2,none⟩=some (.pointer (some ⟨tb,0,none⟩))/\w.cell? ⟨ms,3,none⟩=some (.pointer (some ⟨sb,0,none⟩))/\nP w tb D/\dy w sb S
theorem LJ.ah {w w':World}{ms:Nat}{lo hi:ByteArray}{D:List Pr}{S:Int->Option An}(h:LJ w ms lo hi D S)(g:ae w w'):LJ w' ms lo hi D S:=by
 obtain⟨tb,sb,c0,c1,c2,c3,h1,h2⟩:=h;have l:=bf c0;exact⟨tb,sb,(g.cells.1 _ _ l).trans c0,(g.cells.1 _ _ l).trans c1,(g.cells.1 _ _ l).trans c2,(g.cells.1 _ _ l).trans c3,h1.ah g,h2.ah g⟩
theorem fE.r {w:World}{G:Nat->Prop}{ms sb:Nat}{lo hi:ByteArray}{D:List Pr}{S:Int->Option An}(h:fE w G ms sb lo hi D S):LJ w ms lo hi D S:=by
 obtain⟨tb,h⟩:=h;exact⟨tb,sb,h.c0,h.c1,h.c2,h.c3,h.tab.read,h.cL⟩
end Go.Proofs.YtgegogoanbamfaaGreatDoor
namespace Go.Proofs.YtgegogoanbamfaaGreatDoor.Pl
structure Inv (s:dR)(n:Nat):Prop where
 pos:0<s.xs.length
 len:s.xs.length<=n+1
 few:s.ne<=n
 ids:∀c∈s.xs,1<=c.id/\c.id<=12/\s.aD c.id.toNat=true
 nodup:(s.xs.map Sh.id).Nodup
 Jg:∀c∈s.xs,1<=c.aq/\c.aq<=4
theorem Inv.br {s:dR}{n m:Nat}(h:Inv s n)(hm:n<=m):Inv s m:=⟨h.pos,zZ6 h.len (by omega),zZ6 h.few hm,h.ids,h.nodup,h.Jg⟩
theorem zX:Inv dR.init 0:=by
 refine⟨by decide,by decide,by decide,?_,by decide,?_⟩
 . intro c hc;rw[zQ0.1 hc];decide
 . intro c hc;rw[zQ0.1 hc];decide
theorem RU (n m:Int):dW n m=true↔1<=n/\n<=m:=by unfold dW;simp
theorem z4i {e:En}(h:cK e=true)(hk:e.ax=2):1<=e.aj/\e.aj<=12/\1<=e.aq/\e.aq<=4:=by
 unfold cK at h;rw[zZ0 (by omega),zZ1 hk]at h;unfold vJ at h;simp only[zZ7,RU]at h;omega
theorem NL {e:En}(h:cK e=true)(hk:e.ax=3):1<=e.aj/\e.aj<=12/\1<=e.ak/\e.ak<=12/\e.aj≠e.ak/\1<=e.aq/\e.aq<=4/\aT e.key=0:=by
 unfold cK at h;rw[zZ0 (by omega),zZ0 (by omega),zZ1 hk]at h;unfold sY at h;simp only[zZ7,RU,wZ2,bne_iff_ne]at h;obtain⟨⟨⟨⟨h1,h2⟩,h3⟩,h4⟩,h5⟩:=h;exact⟨h1.1,h1.2,h2.1,h2.2,h3,h4.1,h4.2,h5⟩
theorem zY {e:En}(h:cK e=true)(hk:e.ax=4):1<=e.aj/\e.aj<=12/\1<=e.ak/\e.ak<=12/\e.aj≠e.ak:=by
 unfold cK at h;rw[zZ0 (by omega),zZ0 (by omega),zZ0 (by omega),zZ1 hk]at h;unfold vK at h;simp only[zZ7,RU,bne_iff_ne]at h;obtain⟨⟨h1,h2⟩,h3⟩:=h;exact⟨h1.1,h1.2,h2.1,h2.2,h3⟩
theorem NM {α:Type}{l:List α}{i:Nat}{a b:α}(h:b∈l.set i a):b∈l\/b=a:=xK5 h
theorem z3R (xs:List Sh)(i:Nat)(hi:i<xs.length)(c:Sh)(hc:c.id=(ai xs i).id):(xs.set i c).map Sh.id=xs.map Sh.id:=by
 rw[List.map_set,hc,j3 xs i hi];apply yQ7;intro j;rw[yZ6];by_cases hj:i=j
 . subst hj;simp[hi]
 . rw[zZ0 hj]
theorem y7b (xs:List Sh)(i:Nat)(hi:i<xs.length)(sv sn:Int)(lo hi':ByteArray):(xs.set i ⟨(ai xs i).id,sv,sn,lo,hi'⟩).map Sh.id=xs.map Sh.id:=z3R xs i hi ⟨(ai xs i).id,sv,sn,lo,hi'⟩ rfl
theorem VQ {s:dR}{n:Nat}(h:Inv s n){e:En}{at':Int}(ha:gp s.xs s.aD e at'=true):Inv (bp s e at') (n+1):=by
 have hc:jG s.xs s.aD e=true:=by unfold gp at ha;simp only[zZ7]at ha;exact ha.1.1
 obtain⟨hr,i,hi,hf,gL,cH,hk⟩:=qx hc;obtain⟨xs,aD,ne,evs⟩:=s;dsimp only at *;rcases hk with k2 | ⟨k3,hu,o1,o2,hh,wY⟩ | ⟨k4,j,hj,nI,qQ,gz,kR⟩
 . unfold bp;rw[zZ1 k2];dsimp only;rw[gL];obtain⟨_,_,v1,v2⟩:=z4i hr k2;refine⟨by simpa using h.pos,by have:=h.len;simp at this ⊢;omega,by have:=h.few;simp at this ⊢;omega,?_,?_,?_⟩
   . intro c hc;rcases NM hc with hc | rfl
     . exact h.ids c hc
     . exact h.ids (ai xs i) (k7 xs i hi)
   . show((xs.set i _).map Sh.id).Nodup;rw[y7b xs i hi];exact h.nodup
   . intro c hc;rcases NM hc with hc | rfl
     . exact h.Jg c hc
     . exact⟨v1,v2⟩
 . unfold bp;rw[zZ0 (by omega),zZ1 k3];dsimp only;rw[gL];obtain⟨_,_,_,_,_,v1,v2,_⟩:=NL hr k3;have nY:∀c∈xs,c.id≠e.ak:=by
    intro c hc he;have:=(h.ids c hc).2.2;dsimp only at this;rw[he,hu]at this;cases this
   have fD:∀c∈kz xs i e.key e.ak e.aq at',c∈xs\/(c.id=(ai xs i).id/\c.aq=(ai xs i).aq)\/(c.id=e.ak/\c.aq=e.aq):=by
    intro c hc;unfold kz at hc;rcases zQ8.1 hc with hc | hc
    . rcases zQ8.1 hc with hc | hc
      . exact .inl (yZ2 hc)
      . simp only[zX0,yX6,or_false]at hc;rcases hc with rfl | rfl
        . exact .inr (.inl ⟨rfl,rfl⟩)
        . exact .inr (.inr ⟨rfl,rfl⟩)
    . exact .inl (zK6 hc)
   refine⟨by show 0<(kz xs i e.key e.ak e.aq at').length;rw[QQ xs i hi];omega,by have:=h.len;show(kz xs i e.key e.ak e.aq at').length<=_;rw[QQ xs i hi];dsimp only at this;omega,by have:=h.few;show ne+1<=n+1;dsimp only at this;omega,?_,?_,?_⟩
   . intro c hc;rcases fD c hc with hc | ⟨e1,_⟩ | ⟨e1,_⟩
     . obtain⟨a1,a2,a3⟩:=h.ids c hc;refine⟨a1,a2,?_⟩;dsimp only at a3 ⊢;unfold tz;split;rfl;exact a3
     . obtain⟨a1,a2,a3⟩:=h.ids _ (k7 xs i hi);rw[e1];refine⟨a1,a2,?_⟩;dsimp only at a3 ⊢;unfold tz;split;rfl;exact a3
     . rw[e1];exact⟨o1,o2,by dsimp only;unfold tz;rw[zZ1 rfl]⟩
   . show((kz xs i e.key e.ak e.aq at').map Sh.id).Nodup;have hn:=h.nodup;dsimp only at hn;have e0:(kz xs i e.key e.ak e.aq at').map Sh.id=(xs.map Sh.id).take (i+1)++e.ak::(xs.map Sh.id).drop (i+1):=by
      unfold kz;have e1:(xs.map Sh.id).take (i+1)=(xs.take i).map Sh.id++[(ai xs i).id]:=by
       rw[<-List.map_take,zX1 hi,yX3,j3 xs i hi];rfl
      rw[e1];simp[List.map_take,List.map_drop]
     rw[e0];have hp:((xs.map Sh.id).take (i+1)++(xs.map Sh.id).drop (i+1)).Nodup:=(by rw[zX7];exact hn);have hno:e.ak ∉ xs.map Sh.id:=by
      intro hm;obtain⟨c,hc,he⟩:=zX3.1 hm;exact nY c hc he
     have uZ:((xs.map Sh.id).take (i+1)++e.ak::(xs.map Sh.id).drop (i+1)).Perm (e.ak::((xs.map Sh.id).take (i+1)++(xs.map Sh.id).drop (i+1))):=List.perm_middle;rw[uZ.nodup_iff,List.nodup_cons,zX7];exact⟨hno,hn⟩
   . intro c hc;rcases fD c hc with hc | ⟨_,e1⟩ | ⟨_,e1⟩
     . exact h.Jg c hc
     . rw[e1];exact h.Jg _ (k7 xs i hi)
     . rw[e1];exact⟨v1,v2⟩
 . unfold bp;rw[zZ0 (by omega),zZ0 (by omega)];dsimp only;rw[gL,qQ];obtain⟨_,_,_,_,hne⟩:=zY hr k4;have lQ:i≠j:=(by intro he;subst he;exact hne (cH.symm.trans gz));generalize aW _ _ _ _ _ _=v;have fD:∀c∈kJ xs i j v at',c∈xs\/(c.id=(ai xs i).id/\c.aq=(ai xs i).aq):=by
    intro c hc;unfold kJ at hc;have:c∈xs.set i ⟨(ai xs i).id,(ai xs i).aq,at'+1,v.1,v.2⟩:=by
     rcases zQ8.1 hc with hc | hc
     . exact yZ2 hc
     . exact zK6 hc
    rcases NM this with hc | rfl
    . exact .inl hc
    . exact .inr ⟨rfl,rfl⟩
   have hl2:2<=xs.length:=(by omega);refine⟨by show 0<(kJ xs i j v at').length;rw[QY xs i j hj];omega,by have:=h.len;show(kJ xs i j v at').length<=_;rw[QY xs i j hj];dsimp only at this;omega,by have:=h.few;show ne+1<=n+1;dsimp only at this;omega,?_,?_,?_⟩
   . intro c hc;rcases fD c hc with hc | ⟨e1,_⟩
     . exact h.ids c hc
     . rw[e1];exact h.ids _ (k7 xs i hi)
   . show((kJ xs i j v at').map Sh.id).Nodup;unfold kJ;have hn:=h.nodup;dsimp only at hn;rw[yX3,List.map_take,List.map_drop,y7b xs i hi];refine List.Nodup.sublist ?_ hn;have:(xs.map Sh.id).take j++(xs.map Sh.id).drop (j+1)=(xs.map Sh.id).eraseIdx j:=(by rw[xZ2]);rw[this];exact List.eraseIdx_sublist ..
   . intro c hc;rcases fD c hc with hc | ⟨_,e1⟩
     . exact h.Jg c hc
     . rw[e1];exact h.Jg _ (k7 xs i hi)
theorem NN {xs:List Sh}(hn:(xs.map Sh.id).Nodup)(i:Nat)(hi:i<xs.length):aK xs (ai xs i).id=(i:Nat):=by
 unfold aK;refine Co _ xs i hi ?_ ?_
 . rw[zK0];intro c hc;obtain⟨j,hj,rfl⟩:=yJ5.1 hc;rw[zZ9]at hj;rw[yJ2];have hne:xs[j].id≠xs[i].id:=by
    intro he;have:=zJ4.1 hn j i (by rw[zX6];omega) (by rw[zX6];exact hi) (by omega);rw[List.getElem_map,List.getElem_map]at this;exact this he
   rw[j3 xs i hi];simp[hne]
 . rw[j3 xs i hi];simp
structure oT (n:Nat)(lo hi:Nat->ByteArray):Prop where
 pos:0<n
 first:lo 0=⟨#[]⟩
 last:hi (n - 1)=⟨#[]⟩
 link:∀i,i+1<n->hi i=lo (i+1)/\bm (hi i)=false
 right:∀i,i<n->bD (lo i) (hi i)=true
theorem zZ {lo hi:ByteArray}(h:bD lo hi=true):eG lo=true/\eG hi=true/\dv lo hi=true:=by
 unfold bD at h;simp only[zZ7]at h;exact⟨h.1.1,h.1.2,h.2⟩
section
variable {n:Nat}{lo hi:Nat->ByteArray}(h:oT n lo hi)
include h
theorem oT.nZ (i:Nat)(hi':i<n):Ok (lo i):=zV (zZ (h.right i hi')).1
theorem oT.step (i:Nat)(hi':i+1<n):cU (lo i) (lo (i+1))<0:=by
 obtain⟨h1,h2⟩:=h.link i hi';obtain⟨_,_,h3⟩:=zZ (h.right i (by omega));unfold dv at h3;rw[h2,yZ4,wZ2,h1]at h3;exact h3
theorem oT.NP:∀(d i:Nat),i+d+1<n->cU (lo i) (lo (i+d+1))<0
 | 0,i,hd=>h.step i hd
 | d+1,i,hd=>by
  have h1:=oT.NP d i (by omega);have h2:=h.step (i+d+1) (by omega);exact uM (h.nZ i (by omega)) (h.nZ (i+d+1) (by omega)) (h.nZ (i+d+1+1) (by omega)) h1 h2
theorem oT.low (i j:Nat)(lQ:i<j)(hj:j<n):cU (lo i) (lo j)<0:=by
 have:=h.NP (j - i - 1) i (by omega);rwa[show i+(j - i - 1)+1=j by omega]at this
theorem oT.Gi (i j:Nat)(hi':i<n)(hj:j<n)(he:lo i=lo j):i=j:=by
 rcases xZ3 i j with h1 | h1 | h1
 . have:=h.low i j h1 hj;rw[he,CT (h.nZ j hj)]at this;omega
 . exact h1
 . have:=h.low j i h1 hi';rw[he,CT (h.nZ j hj)]at this;omega
theorem oT.uniq (key:ByteArray)(i j:Nat)(hi':i<n)(hj:j<n)(h1:bk (lo i) (hi i) key=true)(h2:bk (lo j) (hi j) key=true):i=j:=by
 have NQ:∀i j,i<j->j<n->bk (lo i) (hi i) key=true->bk (lo j) (hi j) key=true->False:=by
  intro i j lQ hj h1 h2;obtain⟨_,k1,_,k2⟩:=uX h1;obtain⟨_,_,k3,_⟩:=uX h2;obtain⟨l1,l2⟩:=h.link i (by omega);unfold dv at k2;rw[l2,yZ4,wZ2,l1]at k2;have ho:=uY k1;by_cases he:i+1=j
  . subst he;omega
  . have k4:=h.low (i+1) j (by omega) hj;have:=uM ho (h.nZ (i+1) (by omega)) (h.nZ j hj) k2 k4;omega
 rcases xZ3 i j with h3 | h3 | h3
 . exact(NQ i j h3 hj h1 h2).elim
 . exact h3
 . exact(NQ j i h3 hi' h2 h1).elim
end
def ix (xs:List Sh):Prop:=oT xs.length (fun i=>(ai xs i).lo) (fun i=>(ai xs i).hi)
theorem z4b:ix dR.init.xs:=
 ⟨by decide,rfl,rfl,fun i hi=>absurd hi (by have:dR.init.xs.length=1:=rfl;omega),fun i hi=>by
  have:dR.init.xs.length=1:=rfl;have dA:i=0:=by omega
  subst dA;show bD ⟨#[]⟩ ⟨#[]⟩=true;unfold bD eG dv bm;rw[yZ5];rfl⟩
theorem tU (xs:List Sh)(i:Nat)(hi:i<xs.length)(c:Sh)(j:Nat):ai (xs.set i c) j=if j=i then c else ai xs j:=by
 unfold ai;rw[yZ6];by_cases h:i=j
 . subst h;rw[zZ1 rfl,zZ1 hi,zZ1 rfl];rfl
 . rw[zZ0 h,zZ0 (Ne.symm h)]
theorem oT.congr {n:Nat}{lo hi gM hi':Nat->ByteArray}(h:oT n lo hi)(h1:∀i,i<n->gM i=lo i)(h2:∀i,i<n->hi' i=hi i):oT n gM hi':=
 ⟨h.pos,(h1 0 h.pos).trans h.first,(h2 _ (by have:=h.pos;omega)).trans h.last,fun i dA=>by rw[h2 i (by omega),h1 (i+1) dA];exact h.link i dA,fun i dA=>by rw[h1 i dA,h2 i dA];exact h.right i dA⟩
theorem oT.split {n:Nat}{lo hi:Nat->ByteArray}(h:oT n lo hi)(i:Nat)(hi':i<n)(key:ByteArray)(h1:bD (lo i) key=true)(h2:bD key (hi i)=true)(hk:bm key=false):
    oT (n+1) (fun j=>if j<=i then lo j else if j=i+1 then key else lo (j - 1)) (fun j=>if j<i then hi j else if j=i then key else hi (j - 1)):=by
 refine⟨Nat.succ_pos n,?_,?_,fun j hj=>?_,fun j hj=>?_⟩
 . (try dsimp only);rw[zZ1 (zZ5 _)];exact h.first
 . (try dsimp only);rw[zZ0 (by omega),zZ0 (by omega)];exact h.last
 . try dsimp only
   by_cases a1:j<i
   . rw[zZ1 a1,zZ1 (by omega)];exact h.link j (by omega)
   . rw[zZ0 a1];by_cases a2:j=i
     . rw[zZ1 a2,zZ0 (by omega),zZ1 (by omega)];exact⟨rfl,hk⟩
     . rw[zZ0 a2,zZ0 (by omega),zZ0 (by omega)];have:=h.link (j - 1) (by omega);rwa[show j - 1+1=j by omega]at this
 . try dsimp only
   by_cases a1:j<i
   . rw[zZ1 a1,zZ1 (by omega)];exact h.right j (by omega)
   . rw[zZ0 a1];by_cases a2:j=i
     . subst a2;rw[zZ1 rfl,zZ1 (zZ3 _)];exact h1
     . rw[zZ0 a2,zZ0 (by omega)];by_cases a3:j=i+1
       . rw[zZ1 a3,a3,show i+1 - 1=i by omega];exact h2
       . rw[zZ0 a3];exact h.right (j - 1) (by omega)
theorem VR {a b d:ByteArray}(h1:bD a b=true)(h2:bD b d=true)(hb:bm b=false):bD a d=true:=by
 obtain⟨a1,a2,a3⟩:=zZ h1;obtain⟨b1,b2,b3⟩:=zZ h2;unfold bD;rw[a1,b2];unfold dv at a3 b3 ⊢;rw[hb,yZ4,wZ2]at a3;cases hd:bm d with
 | true=>rfl
 | false=>
  rw[hd,yZ4,wZ2]at b3;have:=uM (zV a1) (zV b1) (zV b2) a3 b3;simpa using this
theorem oT.merge {n:Nat}{lo hi:Nat->ByteArray}(h:oT n lo hi)(k:Nat)(hk:k+1<n):
    oT (n - 1) (fun j=>if j<=k then lo j else lo (j+1)) (fun j=>if j<k then hi j else hi (j+1)):=by
 refine⟨by omega,?_,?_,fun j hj=>?_,fun j hj=>?_⟩
 . (try dsimp only);rw[zZ1 (zZ5 _)];exact h.first
 . (try dsimp only);rw[zZ0 (by omega),show n - 1 - 1+1=n - 1 by omega];exact h.last
 . try dsimp only
   by_cases a1:j<k
   . rw[zZ1 a1,zZ1 (by omega)];exact h.link j (by omega)
   . rw[zZ0 a1,zZ0 (by omega)];exact h.link (j+1) (by omega)
 . try dsimp only
   by_cases a1:j<k
   . rw[zZ1 a1,zZ1 (by omega)];exact h.right j (by omega)
   . rw[zZ0 a1];by_cases a2:j=k
     . subst a2;rw[zZ1 (zZ3 _)];obtain⟨l1,l2⟩:=h.link j hk;refine VR (h.right j (by omega)) ?_ l2;rw[l1];exact h.right (j+1) hk
     . rw[zZ0 (by omega)];exact h.right (j+1) (by omega)
theorem y8d (xs:List Sh)(i:Nat)(hi:i<xs.length)(key:ByteArray)(ak aq at':Int)(j:Nat):
    ai (kz xs i key ak aq at') j=if j<i then ai xs j else if j=i then⟨(ai xs i).id,(ai xs i).aq,at'+1,(ai xs i).lo,key⟩else if j=i+1 then⟨ak,aq,at'+1,key,(ai xs i).hi⟩else ai xs (j - 1):=by
 have hA:(xs.take i).length=i:=by rw[zZ9];omega
 unfold kz;generalize (⟨(ai xs i).id,(ai xs i).aq,at'+1,(ai xs i).lo,key⟩:Sh)=a;generalize (⟨ak,aq,at'+1,key,(ai xs i).hi⟩:Sh)=b;unfold ai;by_cases h1:j<i
 . rw[zZ1 h1,zQ7,yK0 (by omega),zX5,zZ1 h1]
 . rw[zZ0 h1,zQ7,yX5 (by omega),hA];by_cases h2:j=i
   . subst h2;rw[zZ1 rfl,Nat.sub_self];rfl
   . rw[zZ0 h2];by_cases h3:j=i+1
     . subst h3;rw[zZ1 rfl,show i+1 - i=1 by omega];rfl
     . rw[zZ0 h3,yX5 (by simp;omega),zK7];rw[show i+1+(j - i - [a,b].length)=j - 1 by simp;omega]
theorem RV (xs:List Sh)(i j:Nat)(hj:j<xs.length)(v:ByteArray×ByteArray)(at':Int)(m:Nat):
    ai (kJ xs i j v at') m=ai (xs.set i ⟨(ai xs i).id,(ai xs i).aq,at'+1,v.1,v.2⟩) (if m<j then m else m+1):=by
 unfold kJ;generalize uW:xs.set i _=ys;have hl:ys.length=xs.length:=by rw[<-uW,zX8]
 have hA:(ys.take j).length=j:=by rw[zZ9];omega
 unfold ai;by_cases h1:m<j
 . rw[zZ1 h1,yK0 (by omega),zX5,zZ1 h1]
 . rw[zZ0 h1,yX5 (by omega),hA,zK7,show j+1+(m - j)=m+1 by omega]
theorem z2h {xs:List Sh}(h:ix xs)(i:Nat)(hi:i<xs.length)(key:ByteArray)(ak aq at':Int)(hh:bk (ai xs i).lo (ai xs i).hi key=true)(wY:key.toList≠(ai xs i).lo.toList):ix (kz xs i key ak aq at'):=by
 obtain⟨c1,c2,_⟩:=z3h hh wY;have hk:=RS (uX hh).2.1;unfold ix;rw[QQ xs i hi];refine(oT.split h i hi key c1 c2 hk).congr (fun j hj=>?_) (fun j hj=>?_)
 . rw[y8d xs i hi];by_cases a1:j<i
   . have a2:j<=i:=(by omega);simp only[zZ1 a1,zZ1 a2]
   . by_cases a2:j=i
     . have a3:j<=i:=(by omega);simp only[zZ0 a1,zZ1 a2,zZ1 a3];rw[a2]
     . have a4:¬j<=i:=(by omega);by_cases a3:j=i+1
       . simp only[zZ0 a1,zZ0 a2,zZ1 a3,zZ0 a4]
       . simp only[zZ0 a1,zZ0 a2,zZ0 a3,zZ0 a4]
 . rw[y8d xs i hi];by_cases a1:j<i
   . simp only[zZ1 a1]
   . by_cases a2:j=i
     . simp only[zZ0 a1,zZ1 a2]
     . by_cases a3:j=i+1
       . simp only[zZ0 a1,zZ0 a2,zZ1 a3];rw[a3];rfl
       . simp only[zZ0 a1,zZ0 a2,zZ0 a3]
theorem Lg {a b:ByteArray}(h:a.toList=b.toList):a=b:=by
 rw[yZ5,yZ5]at h;obtain⟨⟨a⟩⟩:=a;obtain⟨⟨b⟩⟩:=b;exact wZ7 (fun l:List UInt8=>(⟨⟨l⟩⟩:ByteArray)) h
theorem z2b {xs:List Sh}(h:ix xs)(i j:Nat)(hi:i<xs.length)(hj:j<xs.length)(at':Int)
    (hz:bg (bD (ai xs i).lo (ai xs i).hi) (bD (ai xs j).lo (ai xs j).hi) (ai xs i).lo (ai xs i).hi (ai xs j).lo (ai xs j).hi=0):
    ix (kJ xs i j (aW (bD (ai xs i).lo (ai xs i).hi) (bD (ai xs j).lo (ai xs j).hi) (ai xs i).lo (ai xs i).hi (ai xs j).lo (ai xs j).hi) at'):=by
 have r1:=h.right i hi;have r2:=h.right j hj;try dsimp only at r1 r2
 rw[r1,r2]at hz ⊢;have nQ:∀a,a<xs.length->bm (ai xs a).hi=false->a+1<xs.length:=by
  intro a ha hn;apply Classical.byContradiction;intro hc;have:=h.last;rw[show xs.length - 1=a by omega]at this;try dsimp only at this
  rw[this]at hn;exact absurd hn (by rw[(VM _).2 rfl];simp)
 have tA:=h.pos;unfold ix;rw[QY xs i j hj];unfold bg at hz;unfold aW;rw[zZ0 (by simp)]at hz ⊢;by_cases q1:bm (ai xs i).hi=false/\(ai xs i).hi.toList=(ai xs j).lo.toList
 . rw[zZ1 q1];have hn:=nQ i hi q1.1;have hl:=(h.link i hn).1;try dsimp only at hl
   have Ml:j=i+1:=(h.Gi (i+1) j hn hj (by rw[<-hl];exact Lg q1.2)).symm;refine(oT.merge h i hn).congr (fun m hm=>?_) (fun m hm=>?_)
   . rw[RV xs i j hj,tU xs i hi];by_cases a1:m<=i
     . have b1:m<j:=(by omega);by_cases a2:m=i
       . simp only[zZ1 a1,zZ1 b1,zZ1 a2];rw[a2]
       . simp only[zZ1 a1,zZ1 b1,zZ0 a2]
     . have b1:¬m<j:=(by omega);have a2:¬m+1=i:=(by omega);simp only[zZ0 a1,zZ0 b1,zZ0 a2]
   . rw[RV xs i j hj,tU xs i hi];by_cases a1:m<i
     . have b1:m<j:=(by omega);have a2:¬m=i:=(by omega);simp only[zZ1 a1,zZ1 b1,zZ0 a2]
     . by_cases a2:m=i
       . have b1:m<j:=(by omega);simp only[zZ0 a1,zZ1 b1,zZ1 a2];rw[a2,<-Ml]
       . have b1:¬m<j:=(by omega);have a3:¬m+1=i:=(by omega);simp only[zZ0 a1,zZ0 b1,zZ0 a3]
 . rw[zZ0 q1]at hz ⊢;by_cases q2:bm (ai xs j).hi=false/\(ai xs j).hi.toList=(ai xs i).lo.toList
   . rw[zZ1 q2];have hn:=nQ j hj q2.1;have hl:=(h.link j hn).1;try dsimp only at hl
     have lQ:i=j+1:=(h.Gi (j+1) i hn hi (by rw[<-hl];exact Lg q2.2)).symm;refine(oT.merge h j hn).congr (fun m hm=>?_) (fun m hm=>?_)
     . rw[RV xs i j hj,tU xs i hi];by_cases a1:m<=j
       . by_cases a2:m=j
         . have b1:¬m<j:=(by omega);have a3:m+1=i:=(by omega);simp only[zZ1 a1,zZ0 b1,zZ1 a3];rw[a2]
         . have b1:m<j:=(by omega);have a3:¬m=i:=(by omega);simp only[zZ1 a1,zZ1 b1,zZ0 a3]
       . have b1:¬m<j:=(by omega);have a3:¬m+1=i:=(by omega);simp only[zZ0 a1,zZ0 b1,zZ0 a3]
     . rw[RV xs i j hj,tU xs i hi];by_cases a1:m<j
       . have a3:¬m=i:=(by omega);simp only[zZ1 a1,zZ0 a3]
       . by_cases a2:m=j
         . have a3:m+1=i:=(by omega);simp only[zZ0 a1,zZ1 a3];rw[a2,<-lQ]
         . have a3:¬m+1=i:=(by omega);simp only[zZ0 a1,zZ0 a3]
   . rw[zZ0 q2]at hz;cases hz
theorem VS {s:dR}(h:ix s.xs){e:En}{at':Int}(ha:gp s.xs s.aD e at'=true):ix (bp s e at').xs:=by
 have hc:jG s.xs s.aD e=true:=by unfold gp at ha;simp only[zZ7]at ha;exact ha.1.1
 obtain⟨hr,i,hi,hf,gL,cH,hk⟩:=qx hc;obtain⟨xs,aD,ne,evs⟩:=s;dsimp only at *;rcases hk with k2 | ⟨k3,hu,o1,o2,hh,wY⟩ | ⟨k4,j,hj,nI,qQ,gz,kR⟩
 . unfold bp;rw[zZ1 k2];dsimp only;rw[gL];unfold ix;rw[zX8];refine oT.congr h (fun j hj=>?_) (fun j hj=>?_)
   . rw[tU xs i hi];by_cases q:j=i
     . simp only[zZ1 q];rw[q]
     . simp only[zZ0 q]
   . rw[tU xs i hi];by_cases q:j=i
     . simp only[zZ1 q];rw[q]
     . simp only[zZ0 q]
 . unfold bp;rw[zZ0 (by omega),zZ1 k3];dsimp only;rw[gL];exact z2h h i hi e.key e.ak e.aq at' hh wY
 . unfold bp;rw[zZ0 (by omega),zZ0 (by omega)];dsimp only;rw[gL,qQ];exact z2b h i j hi hj at' kR
end Go.Proofs.YtgegogoanbamfaaGreatDoor.Pl
namespace Go.Proofs.YtgegogoanbamfaaGreatDoor
namespace Pl
end Pl
open Pl Go.Proofs.Tryz Go.RowKit Go.Maps
attribute [local go_sem] Oper.semAt_some
section
attribute [local go_sem] bl
structure bC where
 at_:Int
 sh:dR
 st:Nat->Option (List Pr×(Int->Option An))
 gC:Lit->Option Value
def ib (v:Option (List Pr×(Int->Option An))):Nat:=match v with | none=>0 | some x=>x.1.length
def Aa (st:Nat->Option (List Pr×(Int->Option An))):Nat:=((List.range 13).map fun i=>ib (st i)).sum
def fF (st:Nat->Option (List Pr×(Int->Option An)))(i:Nat)(v:Option (List Pr×(Int->Option An)))(j:Nat):Option (List Pr×(Int->Option An)):=if j=i then v else st j
structure bV (A:bC)(m:Nat):Prop where
 inv:Pl.Inv A.sh m
 chain:ix A.sh.xs
 dom:∀c∈A.sh.xs,∃P S,A.st c.id.toNat=some (P,S)/\pB c.lo c.hi P
 back:∀i,A.st i≠none->∃c∈A.sh.xs,c.id=(i:Int)
 few:Aa A.st<=8*m
 sz:∀c∈A.sh.xs,c.lo.size<=300/\c.hi.size<=300
structure dF (W:World)(L:Nat->Nat)(k ab sb mb nb n:Nat)(f:Lit->Option Value)(st:Nat->Nat)(A:bC):Prop where
 c0:W.cell? ⟨ab,0,none⟩=some (.int .i64 A.at_)
 c1:W.cell? ⟨ab,1,none⟩=some (.pointer (some ⟨sb,0,none⟩))
 c2:W.cell? ⟨ab,2,none⟩=some (.map (some mb))
 c3:W.cell? ⟨ab,3,none⟩=some (.map (some nb))
 fz:∀i,W.frozen? ⟨ab,i,none⟩=false
 iy:L ab=k
 pC:L mb=k+1
 kP:L nb=k+2
 sh:∃F,gm W F sb A.sh/\∀j,F j->L j=k+3
 lm:∃m,m<=n/\bU W prog 3 mb m f
 val:∀i:Nat,f (bt i)=(A.st i).map fun _=> .pointer (some ⟨st i,0,none⟩)
 lit:∀l,f l≠none->∃i:Nat,l=bt i
 la:∃m,m<=n/\bU W prog 3 nb m A.gC
 bE:∀i P S,A.st i=some (P,S)->i<=12/\∃c∈A.sh.xs,c.id=(i:Int)/\∃Ft Fs m,m<=n/\dE W Ft Fs (st i) m c.lo c.hi P S/\∀j,gq Ft Fs (st i) j->L j=k+20+i
def dh (W:World)(L:Nat->Nat)(k ab n:Nat)(A:bC):Prop:=∃sb mb nb f st,dF W L k ab sb mb nb n f st A
def cr (k l:Nat):Prop:=k<=l/\l<k+100
section
variable {W W':World}{L L':Nat->Nat}{T:Nat->Prop}{k ab sb mb nb n:Nat}{f:Lit->Option Value}{st:Nat->Nat}{A:bC}
theorem gm.aC {F:Nat->Prop}{sb:Nat}{s:dR}(h:gm W F sb s)(g:ar T W W')(hT:∀j,F j->¬T j):gm W' F sb s:=gR.aC h g hT
theorem gm.lt {F:Nat->Prop}{sb:Nat}{s:dR}(h:gm W F sb s):∀j,F j->j<W.heap.size:=by
 obtain⟨v,ve,h⟩:=h;exact h.lt
theorem dF.wu (h:dF W L k ab sb mb nb n f st A):ab<W.heap.size:=bf h.c0
theorem dF.aC (h:dF W L k ab sb mb nb n f st A)(g:ar T W W')(hT:∀j,j<W.heap.size->T j->¬cr k (L j))(hL:∀j,j<W.heap.size->L' j=L j):dF W' L' k ab sb mb nb n f st A:=by
 have hk:∀j,j<W.heap.size->cr k (L j)->¬T j:=fun j hj hq ht=>hT j hj ht hq;have hab:=h.wu;obtain⟨m1,e1,h1⟩:=h.lm;obtain⟨m2,e2,h2⟩:=h.la;obtain⟨F,h3,h4⟩:=h.sh;have tab:¬T ab:=hk ab hab (by rw[h.iy];exact⟨by omega,by omega⟩)
 refine⟨(g.cell hab tab 0).trans h.c0,(g.cell hab tab 1).trans h.c1,(g.cell hab tab 2).trans h.c2,(g.cell hab tab 3).trans h.c3,fun i=>(g.frozen hab tab i).trans (h.fz i),(hL ab hab).trans h.iy,(hL mb h1.lt).trans h.pC,(hL nb h2.lt).trans h.kP,
  ⟨F,h3.aC g fun j hj=>hk j (h3.lt j hj) (by rw[h4 j hj];exact⟨by omega,by omega⟩),fun j hj=>(hL j (h3.lt j hj)).trans (h4 j hj)⟩,
  ⟨m1,e1,h1.aC g (hk mb h1.lt (by rw[h.pC];exact⟨by omega,by omega⟩))⟩,h.val,h.lit,⟨m2,e2,h2.aC g (hk nb h2.lt (by rw[h.kP];exact⟨by omega,by omega⟩))⟩,fun i P S hi=>?_⟩
 obtain⟨i12,c,hc,af,Ft,Fs,m,hm,hS,hB⟩:=h.bE i P S hi;have ha:=hS.all;have hn:∀j,gq Ft Fs (st i) j->¬T j:=fun j hj=>hk j (ha j hj) (by rw[hB j hj];exact⟨by omega,by omega⟩);exact⟨i12,c,hc,af,Ft,Fs,m,hm,hS.aC g (fun j hj=>hn j (.inl hj)) (fun j hj=>hn j (.inr (.inl hj))) (hn _ (.inr (.inr rfl))),fun j hj=>(hL j (ha j hj)).trans (hB j hj)⟩
theorem dh.aC (h:dh W L k ab n A)(g:ar T W W')(hT:∀j,j<W.heap.size->T j->¬cr k (L j))(hL:∀j,j<W.heap.size->L' j=L j):dh W' L' k ab n A:=by
 obtain⟨sb,mb,nb,f,st,h⟩:=h;exact⟨sb,mb,nb,f,st,h.aC g hT hL⟩
theorem dh.ah (h:dh W L k ab n A)(g:ae W W'):dh W' L k ab n A:=h.aC (g.only fun _=>False) (fun _ _ h=>h.elim) (fun _ _=>rfl)
theorem dF.mono (h:dF W L k ab sb mb nb n f st A){n':Nat}(hn:n<=n'):dF W L k ab sb mb nb n' f st A:=by
 obtain⟨m1,e1,h1⟩:=h.lm;obtain⟨m2,e2,h2⟩:=h.la;refine {h with lm:=⟨m1,by omega,h1⟩,la:=⟨m2,by omega,h2⟩,bE:=fun i P S hi=>?_};obtain⟨i12,c,hc,af,Ft,Fs,m,hm,hS,hB⟩:=h.bE i P S hi;exact⟨i12,c,hc,af,Ft,Fs,m,by omega,hS,hB⟩
end
end
section
attribute [local go_sem] bl
def RX (w:World)(Ft Fs:Nat->Prop)(st n:Nat)(lo hi gM hi':ByteArray)(P P':List Pr)(S:Int->Option An)(ob:Nat)(w':World):Prop:=
 ar (fun j=>j=st\/Ft j) w w'/\∃lK Go Gs,dE w' lK Fs st n lo hi P S/\dE w' Go Gs ob n gM hi' P' S/\(∀j,lK j->Ft j\/w.heap.size<=j)/\(∀j,gq Go Gs ob j->w.heap.size<=j/\¬gq lK Fs st j)
structure Lh (y:World)(Ft:Nat->Prop)(tb n:Nat)(gM hi':ByteArray)(P P':List Pr)(S:Int->Option An)(s:Nat)(f:Nat->Value)(u:World):Prop where
 only:ar Ft y u
 s0:s=0->ae y u
 ex:∃(ob cb nb:Nat) (F' Fo Gs:Nat->Prop),(1<=s->f 5=.pointer (some ⟨ob,0,none⟩)/\bI u F' tb P/\bI u Fo ob P'/\(∀j,F' j->Ft j\/y.heap.size<=j)/\(∀j,Fo j->y.heap.size<=j/\¬F' j))/\
  (2<=s->f 11=.pointer (some ⟨cb,0,none⟩)/\lh u Gs cb n S/\(∀j,Gs j->y.heap.size<=j/\¬F' j/\¬Fo j))/\
  (3<=s->f 12=.agg #[.pointer (some ⟨ob,0,none⟩),.string gM,.string hi',.pointer (some ⟨cb,0,none⟩)])/\
  (4<=s->f 13=.pointer (some ⟨nb,0,none⟩)/\y.heap.size<=nb/\¬F' nb/\¬Fo nb/\¬Gs nb/\u.heap[nb]? =some (.cells #[.pointer (some ⟨ob,0,none⟩),.string gM,.string hi',.pointer (some ⟨cb,0,none⟩)] 106 (0,0)))
def z6m (E:Nat->Addr)(w:World)(Ft Fs:Nat->Prop)(st n:Nat)(lo hi key:ByteArray)(P:List Pr)(S:Int->Option An)(c:Nat)(e:Ending)(w':World):Prop:=
 (c≠0/\e=.returned (.tuple #[.pointer none,bA E c])/\ae w w')\/
 (c=0/\∃ob,e=.returned (.tuple #[.pointer (some ⟨ob,0,none⟩),.nilIface])/\RX w Ft Fs st n lo key key hi (P.take (Pl.bN P key)) (P.drop (Pl.bN P key)) S ob w')
theorem z4s (S0:Nat->Bool)(E:Nat->Addr)(VT:pI S0){w:World}(hE:bz S0 E w){Ft Fs:Nat->Prop}{st n:Nat}{lo hi:ByteArray}{P:List Pr}{S:Int->Option An}(h:dE w Ft Fs st n lo hi P S)(key:ByteArray)(hx:P.length<=1000)(hl:lo.size<=300)(hh:hi.size<=300)(hk:key.size<=300):
    Calls prog 72 #[.pointer (some ⟨st,0,none⟩),.string key] w (z6m E w Ft Fs st n lo hi key P S (Pl.eA (Pl.bD lo hi) (Pl.aT key) (Pl.bk lo hi key) lo key)):=by
 have ko:=af (YL S0 E VT lo hi key w (by omega) (by omega) (by omega) hE);unfold z6m;obtain⟨tb,sb,h⟩:=h;have HST:=af h;have c1:=h.c1;have c2:=h.c2;have hst:st<w.heap.size:=bf c1;clear h hE;generalize Pl.eA (Pl.bD lo hi) (Pl.aT key) (Pl.bk lo hi key) lo key=c at *;unfold Qs at ko;by_cases hc:c=0
 . subst hc;have e0:bA E 0=.nilIface:=rfl;have e1:fX 0 lo key=(lo,key):=rfl;have e2:fX 0 key hi=(key,hi):=rfl;rw[e0,e1,e2]at ko;clear e0 e1 e2;go_in;go_wp2_with fail;refine ko.mono ?_;rintro e w1 ⟨rfl,aR⟩;have ct:=af aR;have k1:=(aR.cells.1 _ 1 hst).trans c1;have k2:=(aR.cells.1 _ 2 hst).trans c2;have z1:=(aR.cells.2 _ 1 hst).trans (HST.f0 1);have z2:=(aR.cells.2 _ 2 hst).trans (HST.f0 2);have mV:=xA9 hst aR.size;clear aR ko c1 c2;go_upto_region 4 with fail;obtain⟨Y,hY⟩:∃Y,Y=(w1.alloc (.cells #[.string lo,.string key] 24)).alloc (.cells #[.string key,.string hi] 24):=⟨_,rfl⟩
   have gY:ae w1 Y:=(by rw[hY];exact((ae.rf w1).alloc _).alloc _);have a0:Y.cell? ⟨w1.heap.size,0,none⟩=some (.string lo):=(by rw[hY];simp[go_sem]);have a1:Y.cell? ⟨w1.heap.size,1,none⟩=some (.string key):=(by rw[hY];simp[go_sem]);have b0:Y.cell? ⟨w1.heap.size+1,0,none⟩=some (.string key):=(by rw[hY];simp[go_sem]);have b1:Y.cell? ⟨w1.heap.size+1,1,none⟩=some (.string hi):=(by rw[hY];simp[go_sem]);rw[<-hY];obtain⟨x1,hx1⟩:∃x1,x1=w1.heap.size:=⟨_,rfl⟩
   obtain⟨x2,hx2⟩:∃x2,x2=w1.heap.size+1:=⟨_,rfl⟩
   rw[<-hx2]at b0 b1 ⊢;rw[<-hx1]at a0 a1 ⊢;have NR:=af (show w1.heap.size<=x1/\w1.heap.size<=x2 from⟨by omega,by omega⟩);have k1:=(gY.cells.1 _ 1 mV).trans k1;have k2:=(gY.cells.1 _ 2 mV).trans k2;have z1:=(gY.cells.2 _ 1 mV).trans z1;have z2:=(gY.cells.2 _ 2 mV).trans z2;have dg:=af (ct.trans gY);have NS:=xA9 mV gY.size;have fC:=bf a0;have hl2:=bf b0;clear hY gY hx1 hx2;go_upto_region 5 with fail;obtain⟨Z,hZ⟩:∃Z,Z=(Y.setCell ⟨st,1,none⟩ (.string lo)).setCell ⟨st,2,none⟩ (.string key):=⟨_,rfl⟩
   have hO:ar (fun j=>j=st) Y Z:=(by rw[hZ];exact(ar.setCell Y ⟨st,1,none⟩ _).then (ar.setCell _ ⟨st,2,none⟩ _));have d1:Z.cell? ⟨st,1,none⟩=some (.string lo):=(by rw[hZ];simp[go_sem,k1]);have d2:Z.cell? ⟨st,2,none⟩=some (.string key):=(by rw[hZ];simp[go_sem,k2]);have d0:Z.cell? ⟨st,0,none⟩=some (.pointer (some ⟨tb,0,none⟩)):=by
    have q:=(dg.cells.1 _ 0 hst).trans HST.c0;rw[hZ];simp[go_sem,q]
   have d3:Z.cell? ⟨st,3,none⟩=some (.pointer (some ⟨sb,0,none⟩)):=by
    have q:=(dg.cells.1 _ 3 hst).trans HST.c3;rw[hZ];simp[go_sem,q]
   have dz:=af (fun i=>show Z.frozen? ⟨st,i,none⟩=false by
    have q:=(dg.cells.2 _ i hst).trans (HST.f0 i);rw[hZ,World.frozen?_setCell,World.frozen?_setCell];exact q)
   have tW:¬x2=st:=(by have:=NR.out;omega);have b0:=(hO.cell hl2 tW 0).trans b0;have b1:=(hO.cell hl2 tW 1).trans b1;have DW:=af (show ar (fun j=>j=st) w Z from(dg.only _).then hO);have VU:=af (HST.tab.aC DW (fun j hj e=>(HST.cC j hj).2 e));have iI:=af (HST.cL.aC DW (fun j hj e=>HST.own j hj e));have oU:=af (fun j (hj:Ft j)=>(HST.cC j hj).1);have HD:=af (And.intro d1 (And.intro d2 (And.intro d0 d3)));have hZs:=DW.size;have xe:¬Ft st:=fun h=>(HST.cC st h).2 rfl;have iU:¬Ft x2:=fun h=>by have:=pR HST.tab x2 h;have:=NR.out;have:=ct.size;omega
   rw[<-hZ];clear hZ hO a0 a1 k1 k2 z1 z2 fC hl2 tW;have og:=bf d0;have VV:=bf b0;have D0:=bu (S:=Ft) d0 xe;have D3:=bu (S:=Ft) d3 xe;have B0:=bu (S:=Ft) b0 iU;have B1:=bu (S:=Ft) b1 iU;have NT:Lh Z Ft tb n key hi (P.take (Pl.bN P key)) (P.drop (Pl.bN P key)) S 0 (fun _=>undef) Z.drew:=⟨((ae.rf Z).drew).only _,fun _=>(ae.rf Z).drew,0,0,0,fun _=>False,fun _=>False,fun _=>False,(fun e=>by omega),(fun e=>by omega),(fun e=>by omega),(fun e=>by omega)⟩
   have NU:=af NT;clear NT d0 d1 d2 d3 b0 b1 xe iU;refine kh 14 [5,11,12,13] (ar Ft Z) Eq (JC [5,11,12,13] (Lh Z Ft tb n key hi (P.take (Pl.bN P key)) (P.drop (Pl.bN P key)) S)) (fun f a=>(((a.put (some 31) (f 5)).put (some 37) (f 11)).put (some 38) (f 12)).put (some 39) (f 13)) (JC.aX NU) (fun _ _ _ h=>by obtain⟨s,_,_,h⟩:=h.ex;exact h.only) (fun _=>rfl) (fun _ _ _ _ h g=>g▸h) ?_;repeat (first|refine kg ?_|(refine gg ?_;intros;go_big_quiet_op;go_big_quiet_on)|(refine fZ ?_;simp only[Act.put,xB9,xC9,xD9]))
   refine jB (by rfl) ⟨⟨bL rfl (fun _ a=>a) ?_,bL rfl (fun f a=>a.put (some 31) (f 5)) ?_,bL rfl (fun f a=>(a.put (some 31) (f 5)).put (some 37) (f 11)) ?_,bL rfl (fun f a=>a.put (some 38) (f 12)) ?_,trivial⟩,?_⟩
   . intro L f u hJ hL hd;have hp:∀k,0=k+1->∃i',([5,11,12,13]:List Nat)[k]? =some i'/\L i'=true:=fun k e=>by omega
     have HM:=af (hJ.stage 0 5 rfl hL hp).2;have eZ:=af (fun u' v (h:Lh Z Ft tb n key hi (P.take (Pl.bN P key)) (P.drop (Pl.bN P key)) S 1 (bQ f 5 v) u')=>hJ.put (by decide) 0 5 rfl hL hp h);clear hJ hL hd hp D0 D3 B0 B1;go_simp;have NV:=HM.s0 rfl;refine(zl (VU.ah NV) (by omega) key (by omega)).mono ?_;rintro e u' ⟨ob,rfl,hO,F',Fo,h1,h2,h3,h4⟩;have DX:=NV.size;exact⟨_,rfl,eZ _ _ ⟨HM.only.then hO,(fun e=>by omega),ob,0,0,F',Fo,fun _=>False,(fun _=>⟨fY _ _ _,h1,h2,fun j hj=>(h3 j hj).imp id fun q=>by omega,fun j hj=>⟨by have:=(h4 j hj).1;omega,(h4 j hj).2⟩⟩),(fun e=>by omega),(fun e=>by omega),(fun e=>by omega)⟩⟩
   . intro L f u hJ hL hd;have hp:∀k,1=k+1->∃i',([5,11,12,13]:List Nat)[k]? =some i'/\L i'=true:=fun k e=>by obtain rfl:k=0:=(by omega);exact⟨5,rfl,hd 5 rfl (by decide)⟩
     have HM:=af (hJ.stage 1 11 rfl hL hp).2;have eZ:=af (fun u' v (h:Lh Z Ft tb n key hi (P.take (Pl.bN P key)) (P.drop (Pl.bN P key)) S 2 (bQ f 11 v) u')=>hJ.put (by decide) 1 11 rfl hL hp h);clear hJ hL hd hp D0 D3 B0 B1;go_simp;have DX:=HM.only.size;obtain⟨ob,_,_,F',Fo,_,m1,_⟩:=HM.ex;obtain⟨q1,q2,q3,q4,q5⟩:=m1 (by omega);refine(Zi (iI.aC HM.only (fun j hj e=>oU j e hj))).mono ?_;rintro e u' ⟨cb,Gs,rfl,h1,h2,hg⟩;exact⟨_,rfl,eZ _ _ ⟨HM.only.dG hg,(fun e=>by omega),ob,cb,0,F',Fo,Gs,(fun _=>⟨by rw[gH (by decide)];exact q1,q2.ah hg,q3.ah hg,q4,q5⟩),(fun _=>⟨fY _ _ _,h1,fun j hj=>⟨by have:=h2 j hj;omega,fun e=>by have:=h2 j hj;have:=pR q2 j e;omega,fun e=>by have:=h2 j hj;have:=pR q3 j e;omega⟩⟩),(fun e=>by omega),(fun e=>by omega)⟩⟩
   . intro L f u hJ hL hd;have hp:∀k,2=k+1->∃i',([5,11,12,13]:List Nat)[k]? =some i'/\L i'=true:=fun k e=>by obtain rfl:k=1:=(by omega);exact⟨11,rfl,hd 11 rfl (by decide)⟩
     have HM:=af (hJ.stage 2 12 rfl hL hp).2;have eZ:=af (fun u' v (h:Lh Z Ft tb n key hi (P.take (Pl.bN P key)) (P.drop (Pl.bN P key)) S 3 (bQ f 12 v) u')=>hJ.put (by decide) 2 12 rfl hL hp h);obtain⟨ob,cb,_,F',Fo,Gs,m1,m2,_⟩:=HM.ex;have q1:=m1 (by omega);have q2:=m2 (by omega);have HQ:=af (And.intro q1 q2);have e5:=q1.1;have e11:=q2.1;clear hJ hL hd hp D0 D3 m1 m2 q1 q2;rw[e5,e11];clear e5 e11;go_simp;obtain⟨q1,q2⟩:=HQ.out;exact eZ _ _ ⟨HM.only,(fun e=>by omega),ob,cb,0,F',Fo,Gs,(fun _=>⟨by rw[gH (by decide)];exact q1.1,q1.2⟩),(fun _=>⟨by rw[gH (by decide)];exact q2.1,q2.2⟩),(fun _=>fY _ _ _),(fun e=>by omega)⟩
   . intro L f u hJ hL hd;have hp:∀k,3=k+1->∃i',([5,11,12,13]:List Nat)[k]? =some i'/\L i'=true:=fun k e=>by obtain rfl:k=2:=(by omega);exact⟨12,rfl,hd 12 rfl (by decide)⟩
     have HM:=af (hJ.stage 3 13 rfl hL hp).2;have eZ:=af (fun u' v (h:Lh Z Ft tb n key hi (P.take (Pl.bN P key)) (P.drop (Pl.bN P key)) S 4 (bQ f 13 v) u')=>hJ.put (by decide) 3 13 rfl hL hp h);obtain⟨ob,cb,_,F',Fo,Gs,m1,m2,m3,_⟩:=HM.ex;have q1:=m1 (by omega);have q2:=m2 (by omega);have q3:=m3 (by omega);have HQ:=af (And.intro q1 (And.intro q2 q3));clear hJ hL hd hp D0 D3 B0 B1 m1 m2 m3 q1 q2;rw[q3];clear q3;go_simp;obtain⟨⟨q1,t1,t2,t3,t4⟩,⟨q2,s1,s2⟩,q3⟩:=HQ.out;have gA:ae u (u.alloc (.cells #[.pointer (some ⟨ob,0,none⟩),.string key,.string hi,.pointer (some ⟨cb,0,none⟩)] 106)):=(ae.rf u).alloc _;exact eZ _ _ ⟨HM.only.dG gA,(fun e=>by omega),ob,cb,u.heap.size,F',Fo,Gs,(fun _=>⟨by rw[gH (by decide)];exact q1,t1.ah gA,t2.ah gA,t3,t4⟩),(fun _=>⟨by rw[gH (by decide)];exact q2,s1.ah gA,s2⟩),(fun _=>by rw[gH (by decide)];exact q3),(fun _=>⟨fY _ _ _,HM.only.size,fun e=>by have:=pR t1 _ e;omega,fun e=>by have:=pR t2 _ e;omega,fun e=>by have:=s1.lt _ e;omega,wZ0 u _⟩)⟩
   intro f u hJ;have hM:=hJ.done (by decide);obtain⟨ob,cb,nb,F',Fo,Gs,m1,m2,m3,m4⟩:=hM.ex;obtain⟨e5,t1,t2,t3,t4⟩:=m1 (by decide);obtain⟨e11,s1,s2⟩:=m2 (by decide);have kp:=m3 (by decide);obtain⟨kB,n0,n1,n2,n3,kj⟩:=m4 (by decide);have dJ:=af (show RX w Ft Fs st n lo key key hi (P.take (Pl.bN P key)) (P.drop (Pl.bN P key)) S nb u by
    have DY:=hM.only;have hl:=pR HST.tab;have hs:=HST.cL.lt;have jw:¬Ft st:=fun h=>(HST.cC st h).2 rfl;have hcell:∀(i:Nat) v,Z.cell? ⟨st,i,none⟩=some v->u.cell? ⟨st,i,none⟩=some v:=fun i v hv=>(DY.cell og jw i).trans hv;refine⟨(DW.mono fun j hj=> .inl (.inl hj)).then (DY.mono fun j hj=> .inl (.inr hj)),F',Fo,Gs,⟨tb,sb,hcell 0 _ HD.2.2.1,hcell 1 _ HD.1,hcell 2 _ HD.2.1,hcell 3 _ HD.2.2.2,fun i=>(DY.frozen og jw i).trans (dz.out i),t1,iI.aC DY (fun j hj e=>oU j e hj),HST.good.sub (yJ9 _ _),fun j hj=>?_,HST.own⟩,⟨ob,cb,?_,?_,?_,?_,fun i=>?_,t2,s1,HST.good.sub (yK1 _ _),fun j hj=>⟨fun e=>(s2 j e).2.2 hj,fun e=>n2 (by rw[<-e];exact hj)⟩,fun j hj e=>n3 (by rw[<-e];exact hj)⟩,fun j hj=>(t3 j hj).imp id fun q=>by omega,fun j hj=>?_⟩
    . rcases t3 j hj with q | q
      . exact HST.cC j q
      . exact⟨fun e=>by have:=hs j e;omega,fun e=>by omega⟩
    . rw[gw kj];rfl
    . rw[gw kj];rfl
    . rw[gw kj];rfl
    . rw[gw kj];rfl
    . simp[World.frozen?,kj]
    . have hj':Z.heap.size<=j/\¬F' j:=by
       rcases hj with q | q | rfl
       . exact t4 j q
       . exact⟨(s2 j q).1,(s2 j q).2.1⟩
       . exact⟨n0,n1⟩
      refine⟨by omega,?_⟩;rintro (q | q | q)
      . exact hj'.2 q
      . have:=hs j q;omega
      . omega)
   clear hJ hM m1 m2 m3 m4 t1 t2 t3 t4 s1 s2 n0 n1 n2 n3 kj D0 D3 B0 B1 NU;dsimp only[List.drop];simp only[Act.put,xB9,xD9,xC9];rw[e5,e11,kp,kB];clear e5 e11 kp kB;go_wp2_with fail;go_ret2;exact⟨nb,rfl,dJ⟩
 . have NW:=af hc;have e1:fX c lo key=(cR,cR):=(by unfold fX;rw[zZ0 hc]);have e2:fX c key hi=(cR,cR):=(by unfold fX;rw[zZ0 hc]);rw[e1,e2]at ko;have RY:Hid (bA E c=.iface 302 (.pointer (some (E c)))):=by
    unfold Hid bA;rw[zZ0 hc]
   rw[RY.out]at ko;clear e1 e2 hc;go_in;go_wp2_with fail;refine ko.mono ?_;rintro e w1 ⟨rfl,aR⟩;have cA:=af (show ae w ((w1.alloc (.cells #[.string cR,.string cR] 24)).alloc (.cells #[.string cR,.string cR] 24))from(aR.alloc _).alloc _);clear aR ko;go_wp2_with fail;go_ret2;exact .inl ⟨NW.out,by rw[RY.out];rfl,cA⟩
namespace Pl
theorem Ec {zs:List Pr}(h:dK zs):lu zs=false:=z2l fun i hi e=>by
 have h1:=zJ4.1 (Nn h) i (i+1) (by omega) hi (by omega);rw[kV zs i (by omega),kV zs (i+1) hi]at e;exact h1 e
end Pl
def Af (w:World)(Ft Fs:Nat->Prop)(st n:Nat)(lo hi:ByteArray)(R:List Pr)(S:Int->Option An)(w':World):Prop:=
 ar (fun j=>gq Ft Fs st j) w w'/\∃lK n',n'<=n+4/\dE w' lK Fs st n' lo hi R S/\∀j,lK j->Ft j\/w.heap.size<=j
def z5J (E:Nat->Addr)(w:World)(Ft Fs:Nat->Prop)(st n:Nat)(v:ByteArray×ByteArray)(R:List Pr)(S:Int->Option An)(c:Nat)(e:Ending)(w':World):Prop:=
 (c≠0/\e=.returned (bA E c)/\ae w w')\/(c=0/\e=.returned .nilIface/\Af w Ft Fs st n v.1 v.2 R S w')
theorem z3A (S0:Nat->Bool)(E:Nat->Addr)(VT:pI S0)(Ji:S0 18=true){w:World}(hE:bz S0 E w){Ft Fs Gt Gs:Nat->Prop}{st su n m:Nat}{lo hi gM hi':ByteArray}{P Q R:List Pr}{S T:Int->Option An}(h:dE w Ft Fs st n lo hi P S)(k:dE w Gt Gs su m gM hi' Q T)
    (hd:∀j,gq Gt Gs su j->¬gq Ft Fs st j) (N2:Pl.bg (Pl.bD lo hi) (Pl.bD gM hi') lo hi gM hi'=0->Pl.dK R/\R.Perm (P++Q)) (hx:P.length<=1000) (hy:Q.length<=1000) (hn:n<=100000) (hm:m<=100000) (hl:lo.size<=300) (hh:hi.size<=300) (hl':gM.size<=300) (hh':hi'.size<=300):
    Calls prog 73 #[.pointer (some ⟨st,0,none⟩),.pointer (some ⟨su,0,none⟩)] w (z5J E w Ft Fs st n (Pl.aW (Pl.bD lo hi) (Pl.bD gM hi') lo hi gM hi') R (dC S (iB T)) (Pl.bg (Pl.bD lo hi) (Pl.bD gM hi') lo hi gM hi')):=by
 have Jl:=af (fun W (g:ae w W)=>Tm S0 E VT lo hi gM hi' W (by omega) (by omega) (by omega) (by omega) (hE.ah g));unfold z5J;obtain⟨tb,sb,h⟩:=h;obtain⟨tc,sc,k⟩:=k;have HST:=af h;have V4:=af k;have HQ:=af (fun(h0:Pl.bg (Pl.bD lo hi) (Pl.bD gM hi') lo hi gM hi'=0)=>show Pl.Good R/\(∀(zs:List Pr) (h1:zs.Perm (P++Q)) (h2:Pl.RZ zs),zs=R)/\lu R=false from⟨fun c hc=>by
  rcases zQ8.1 ((N2 h0).2.mem_iff.1 hc)with q | q
  . exact h.good c q
  . exact k.good c q,fun zs h1 h2=>Pl.z0i (N2 h0).1 (h1.trans (N2 h0).2.symm) h2,Ec (N2 h0).1⟩)
 have HTJ:=af (fun W (g:ae w W)=>z6A E Ji (hE.ah g) (h.tab.ah g) (k.tab.ah g) (by omega));have HD:=af hd;have c0:=h.c0;have c1:=h.c1;have c2:=h.c2;have k1:=k.c1;have k2:=k.c2;have hst:st<w.heap.size:=bf c1;have hsu:su<w.heap.size:=bf k1;clear h k hE hd N2;generalize Pl.aW (Pl.bD lo hi) (Pl.bD gM hi') lo hi gM hi'=v at *;generalize Pl.bg (Pl.bD lo hi) (Pl.bD gM hi') lo hi gM hi'=c at *;obtain⟨vl,vh⟩:=v;unfold QC at Jl;dsimp only at Jl ⊢;have C1:=bj c1;have C2:=bj c2;have K1:=bj k1;have K2:=bj k2;have RY:Hid (c=0/\bA E c=.nilIface\/c≠0/\bA E c=.iface 302 (.pointer (some (E c)))):=by
  unfold Hid bA;by_cases h:c=0
  . exact .inl ⟨h,zZ1 h⟩
  . exact .inr ⟨h,zZ0 h⟩
 generalize hee:bA E c=ee at *;go_in;go_upto_region 1 with fail;refine kh 14 [12,13] (ae w) ae (JV [⟨12,13,[.string vl,.string vh]⟩] w) (fun f a=>a.put (some 5) (f 12)) (JV.aX _ w _) (fun _ _ _ h=>h.ah) ae.rf (fun _ _ _ _ h g=>h.br g) ?_;repeat (first|refine kg ?_|(refine gg ?_;intros;go_big_quiet_op;go_big_quiet_on)|(refine H0 (fun _=>by kernel_rfl) (fun u hu=>Jl u hu) ?_;simp only[Act.put,xB9,xC9,xD9])|(refine fZ ?_;simp only[Act.put,xB9,xC9,xD9]))
 refine jB (by rfl) ⟨⟨bL rfl (fun _ a=>a) ?_,bL rfl (fun f a=>a.put (some 5) (f 12)) ?_,trivial⟩,?_⟩
 . intro L f u hJ hL hd;clear C1 C2 K1 K2 c0 c1 c2 k1 k2;go_simp;exact hJ.alloc (by rfl) (V:=⟨12,13,[.string vl,.string vh]⟩) (by simp) hL [.string ⟨#[]⟩,.string ⟨#[]⟩] rfl _
 . intro L f u hJ hL hd;clear C1 C2 K1 K2 c0 c1 c2 k1 k2;obtain⟨m,x,y,hm,k0,k1,f0,f1⟩:=hJ.two (V:=⟨12,13,[.string vl,.string vh]⟩) (by simp) (hd 12 rfl (by decide)) rfl;dsimp only at hm;rw[hm];go_simp;exact hJ.store (by rfl) (V:=⟨12,13,[.string vl,.string vh]⟩) (by simp) (hd 12 rfl (by decide)) hm
 intro f u hJ;obtain⟨m8,q8,n8,l8,V5⟩:=hJ.full (V:=⟨12,13,[.string vl,.string vh]⟩) (by simp) rfl;dsimp only at q8;have o0:=(V5 0 _ rfl).1;have o1:=(V5 1 _ rfl).1;have mW:=af hJ.ah;clear hJ V5 C1 C2 K1 K2;dsimp only[List.drop];simp only[Act.put,xB9,xD9,xC9];rw[q8];clear q8;rcases RY.out with⟨rfl,rfl⟩ | ⟨hc,rfl⟩
 . have F0:=af (HQ rfl).1;have HZS:=af (HQ rfl).2.1;have HDP:=af (HQ rfl).2.2;clear HQ;have d0:=(mW.cells.1 _ 0 hst).trans c0;have j0:=(mW.cells.1 _ 0 hsu).trans V4.c0;have j0r:=xA9 hst mW.size;have j0s:=xA9 hsu mW.size;have D0:=bj d0;have J0:=bj j0;clear d0 j0 Jl hee;go_upto_region 4 with fail;refine pO 8 ?_;repeat (first|(refine gg ?_;intros;go_big_quiet_op;go_big_quiet_on)|(refine fZ ?_;simp only[Act.put,xB9,xC9,xD9]))
   refine jB (by rfl) ?_;intro x ln;have ke:=af (mW.trans ln);have o0:=(ln.cells.1 _ 0 l8).trans o0;have o1:=(ln.cells.1 _ 1 l8).trans o1;have uH:=xA9 l8 ln.size;have iV:w.heap.size<=m8:=n8;clear D0 J0 ln l8;dsimp only[List.drop];go_wp2_with fail;refine(HTJ x ke).mono ?_;rintro e w2 ⟨zs,hz1,hz2,⟨hb,_⟩ | ⟨_,rfl,hO,lK,px,iu⟩⟩
   . have:=HZS zs hz1 hz2;subst this;rw[HDP.out]at hb;cases hb
   have:=HZS zs hz1 hz2;subst this;have tC:∀j,w.heap.size<=j->¬Ft j:=fun j hj hf=>by have:=pR HST.tab j hf;omega
   have iN:=ke.size;have o0:=(hO.cell uH (tC _ iV) 0).trans o0;have o1:=(hO.cell uH (tC _ iV) 1).trans o1;have jw:¬Ft st:=fun h=>(HST.cC st h).2 rfl;have tZ:=xA9 hst iN;have s0:=(hO.cell tZ jw 0).trans ((ke.cells.1 _ 0 hst).trans HST.c0);have s1:=(hO.cell tZ jw 1).trans ((ke.cells.1 _ 1 hst).trans HST.c1);have s2:=(hO.cell tZ jw 2).trans ((ke.cells.1 _ 2 hst).trans HST.c2);have s3:=(hO.cell tZ jw 3).trans ((ke.cells.1 _ 3 hst).trans HST.c3);have Gj:=af (fun i=>(hO.frozen tZ jw i).trans ((ke.cells.2 _ i hst).trans (HST.f0 i)));have z1:=Gj 1;have z2:=Gj 2;have j0t:=xA9 tZ hO.size;have j0u:=xA9 uH hO.size;have N4:¬Ft su:=fun h=>HD su (.inr (.inr rfl)) (.inl h);have r3:=(hO.cell (xA9 hsu iN) N4 3).trans ((ke.cells.1 _ 3 hsu).trans V4.c3);have V6:=xA9 hsu (zZ6 iN hO.size);have uJ:=af (show ar Ft w w2 from(ke.only _).then hO);have V7:=af (HST.cL.aC uJ (fun j hj e=>(HST.cC j e).1 hj));have V8:=af (V4.cL.aC uJ (fun j hj e=>HD j (.inr (.inl hj)) (.inl e)));have DG:=af (And.intro px iu);clear hO px iu tC jw N4 tZ uH;go_upto_region 8 with fail;obtain⟨Z,hZ⟩:∃Z,Z=(w2.setCell ⟨st,1,none⟩ (.string vl)).setCell ⟨st,2,none⟩ (.string vh):=⟨_,rfl⟩
   have Jm:ar (fun j=>j=st) w2 Z:=(by rw[hZ];exact(ar.setCell w2 ⟨st,1,none⟩ _).then (ar.setCell _ ⟨st,2,none⟩ _));have d0:Z.cell? ⟨st,0,none⟩=some (.pointer (some ⟨tb,0,none⟩)):=(by rw[hZ];simp[go_sem,s0]);have d1:Z.cell? ⟨st,1,none⟩=some (.string vl):=(by rw[hZ];simp[go_sem,s1]);have d2:Z.cell? ⟨st,2,none⟩=some (.string vh):=(by rw[hZ];simp[go_sem,s2]);have d3:Z.cell? ⟨st,3,none⟩=some (.pointer (some ⟨sb,0,none⟩)):=(by rw[hZ];simp[go_sem,s3]);have MX:=af (fun i=>show Z.frozen? ⟨st,i,none⟩=false by rw[hZ,World.frozen?_setCell,World.frozen?_setCell];exact Gj i);have hne:¬su=st:=fun e=>HD su (.inr (.inr rfl)) (.inr (.inr e));have r3:=(Jm.cell V6 hne 3).trans r3;have N5:=af (V7.aC Jm (fun j hj e=>HST.own j hj e));have N6:=af (V8.aC Jm (fun j hj e=>HD j (.inr (.inl hj)) (.inr (.inr e))));have HOZ:=af Jm;have og:=bf d0;have j0v:=bf r3;rw[<-hZ];have D3:=bj d3;have J3:=bj r3;clear hZ Jm s0 s1 s2 s3 z1 z2 o0 o1 r3;refine pO 8 ?_;repeat (first|(refine gg ?_;intros;go_big_quiet_op;go_big_quiet_on)|(refine fZ ?_;simp only[Act.put,xB9,xC9,xD9]))
   refine jB (by rfl) ?_;intro y Jn;have dg:=af Jn;clear D3 J3 Jn;dsimp only[List.drop];go_wp2_with fail;refine(z5h (N5.ah dg) (N6.ah dg) (fun j hj e=>HD j (.inr (.inl hj)) (.inr (.inl e))) hn (by omega)).mono ?_;rintro e w3 ⟨rfl,n',nk,mK,hS3⟩;have dJ:=af (show Af w Ft Fs st n vl vh zs (dC S (iB T)) w3 by
    have hFs:=HST.cL.lt;have hFt:=pR HST.tab;have jL:ar Fs Z w3:=(dg.only _).then mK;have tC:¬Fs st:=fun h=>HST.own st h rfl;have px:∀j,lK j->¬(j=st)/\¬Fs j:=fun j hj=>by
     rcases DG.out.2 j hj with q | q
     . exact⟨(HST.cC j q).2,(HST.cC j q).1⟩
     . exact⟨fun e=>by omega,fun e=>by have:=hFs j e;omega⟩
    refine⟨((uJ.mono fun j hj=> .inl (.inl hj)).then (HOZ.mono fun j (hj:j=st)=> .inl (.inr (.inr hj)))).then (jL.mono fun j hj=> .inl (.inr (.inl hj))),lK,n',nk,⟨tb,sb,⟨(jL.cell og tC 0).trans d0,(jL.cell og tC 1).trans d1,(jL.cell og tC 2).trans d2,(jL.cell og tC 3).trans d3,fun i=>(jL.frozen og tC i).trans (MX i),(DG.1.aC HOZ fun j hj e=>(px j hj).1 e).aC jL fun j hj e=>(px j hj).2 e,hS3,F0,fun j hj=>⟨(px j hj).2,(px j hj).1⟩,HST.own⟩⟩,fun j hj=>(DG.2 j hj).imp id fun q=>by omega⟩)
   clear mK hS3 d0 d1 d2 d3;go_wp2_with fail;go_ret;exact⟨rfl,dJ⟩
 . have NW:=af hc;have HF:=af mW;clear hc Jl;go_wp2_with fail;go_ret;exact .inl ⟨NW.out,rfl,HF⟩
end
theorem mv (st:Nat->Option (List Pr×(Int->Option An)))(i:Nat)(v):fF st i v i=v:=zZ1 rfl
theorem jW (st:Nat->Option (List Pr×(Int->Option An))){i j:Nat}(v)(h:j≠i):fF st i v j=st j:=zZ0 h
theorem z6k (g g':Nat->Nat)(i:Nat)(hne:∀j,j≠i->g' j=g j):∀n,i<n->((List.range n).map g').sum+g i=((List.range n).map g).sum+g' i
 | 0,h=>absurd h (yX4 i)
 | n+1,h=>by
  rw[List.range_succ,yX3,yX3,List.sum_append,List.sum_append];simp only[zJ5,yQ5,List.sum_cons,List.sum_nil,zX9];by_cases e:i=n
  . subst e;have:(List.range i).map g'=(List.range i).map g:=List.map_congr_left fun j hj=>hne j (by have:=yK3.1 hj;omega);rw[this];omega
  . have:=z6k g g' i hne n (by omega);rw[hne n (by omega)];omega
theorem Lj (st:Nat->Option (List Pr×(Int->Option An)))(i:Nat)(v)(hi:i<13):Aa (fF st i v)+ib (st i)=Aa st+ib v:=by
 have:=z6k (fun j=>ib (st j)) (fun j=>ib (fF st i v j)) i (fun j hj=>by rw[jW st v hj]) 13 hi;simp only[mv]at this;exact this
theorem Ed (st:Nat->Option (List Pr×(Int->Option An)))(i:Nat)(hi:i<13):ib (st i)<=Aa st:=by
 have:=Lj st i none hi;have h0:ib none=0:=rfl;omega
def bC.init:bC:=⟨0,dR.init,fun i=>if i=1 then some ([],fun _=>none)else none,fun _=>none⟩
theorem V9:bV bC.init 0 where
 inv:=zX
 chain:=z4b
 dom:=by
  intro c hc;rw[zQ0.1 hc];exact⟨[],_,rfl,Pl.DU _ _⟩
 back:=by
  intro i hi;refine⟨KH,zQ0.2 rfl,?_⟩;by_cases e:i=1
  . subst e;rfl
  . exact absurd (zZ0 e) hi
 few:=by decide
 sz:=by
  intro c hc;rw[zQ0.1 hc];exact⟨by decide,by decide⟩
namespace Pl
def cB (A:bC)(i:Nat):Sh:=ai A.sh.xs (aK A.sh.xs (i:Int)).toNat
def iQ (ci cj:Sh)(P Q:List Pr):List Pr:=if bm ci.hi=false/\ci.hi.toList=cj.lo.toList then P++Q else Q++P
def kD (A:bC)(e:En):Nat->Option (List Pr×(Int->Option An)):=
 if e.ax=3 then
  match A.st e.aj.toNat with
  | none=>A.st
  | some (P,S)=>fF (fF A.st e.aj.toNat (some (P.take (bN P e.key),S))) e.ak.toNat (some (P.drop (bN P e.key),S))
 else if e.ax=4 then
  match A.st e.aj.toNat,A.st e.ak.toNat with
  | some (P,S),some (Q,T)=>fF (fF A.st e.aj.toNat (some (iQ (cB A e.aj.toNat) (cB A e.ak.toNat) P Q,dC S (iB T)))) e.ak.toNat none
  | _,_=>A.st
 else A.st
noncomputable def fh (A:bC)(e:En)(at':Int):Nat×bC:=
 if cK e=false then(4,A)
 else if at'<A.at_\/at'<0\/4096<=at' then(1,A)
 else if e.ax=1 then
  match A.st e.aj.toNat with
  | none=>(0,⟨at'+1,A.sh,A.st,fB A.gC (bt at') (some (fQ 3 0))⟩)
  | some (P,S)=>((gj (cB A e.aj.toNat).lo (cB A e.aj.toNat).hi P S e at').err,⟨at'+1,A.sh,fF A.st e.aj.toNat (some ((gj (cB A e.aj.toNat).lo (cB A e.aj.toNat).hi P S e at').P,(gj (cB A e.aj.toNat).lo (cB A e.aj.toNat).hi P S e at').S)),fB A.gC (bt at') (some (fQ (gj (cB A e.aj.toNat).lo (cB A e.aj.toNat).hi P S e at').cI (gj (cB A e.aj.toNat).lo (cB A e.aj.toNat).hi P S e at').at_))⟩)
 else if gp A.sh.xs A.sh.aD e at'=true then(0,⟨at'+1,bp A.sh e at',kD A e,A.gC⟩)
 else(0,⟨at'+1,A.sh,A.st,A.gC⟩)
theorem kE {A:bC}{m:Nat}(h:bV A m){c:Sh}(hc:c∈A.sh.xs){i:Nat}(hi:c.id=(i:Int)):cB A i=c:=by
 obtain⟨k,hk,rfl⟩:=zK5 hc;unfold cB;have e:ai A.sh.xs k=A.sh.xs[k]:=j3 _ k hk;rw[<-hi,<-e,NN h.inv.nodup k hk,zQ3,e]
end Pl
namespace Pl
theorem z0K {lo mid hi key:ByteArray}(h:bk lo mid key=true)(r:bD mid hi=true)(hm:bm mid=false):bk lo hi key=true:=by
 obtain⟨h1,h2,h3,h4⟩:=uX h;have r2:=VR h1 r hm;have hl:dv key hi=true:=by
  unfold dv at h4 ⊢;rw[hm,yZ4,wZ2]at h4;have h5:=(zZ r).2.2;unfold dv at h5;rw[yZ0]at h5 ⊢;rcases h5 with h5 | h5
  . exact .inl h5
  . cases hn:bm hi with
    | true=>exact .inl rfl
    | false=>
     refine .inr (wZ5 (uM (uY h2) (zV (zZ r).1) (zV (zZ r).2.1) h4 (wQ3 h5)))
 unfold bk;rw[r2,h2,hl,wZ5 h3];rfl
theorem y9u {lo mid hi key:ByteArray}(h:bk mid hi key=true)(r:bD lo mid=true)(hm:bm mid=false):bk lo hi key=true:=by
 obtain⟨h1,h2,h3,h4⟩:=uX h;have r2:=VR r h1 hm;have hg:0<=cU key lo:=by
  refine Int.not_lt.1 fun az=>?_;have h5:=(zZ r).2.2;unfold dv at h5;rw[hm,yZ4,wZ2]at h5;have:=uM (uY h2) (zV (zZ r).1) (zV (zZ r).2.1) az h5;omega
 unfold bk;rw[r2,h2,h4,wZ5 hg];rfl
theorem z4N {lo hi gM hi':ByteArray}{P Q:List Pr}(hP:pB lo hi P)(hQ:pB gM hi' Q)(r1:bD lo hi=true)(r2:bD gM hi'=true)(hj:bg (bD lo hi) (bD gM hi') lo hi gM hi'=0):
    pB (aW (bD lo hi) (bD gM hi') lo hi gM hi').1 (aW (bD lo hi) (bD gM hi') lo hi gM hi').2 (if bm hi=false/\hi.toList=gM.toList then P++Q else Q++P):=by
 unfold bg at hj;unfold aW;rw[zZ0 (by rw[r1,r2];simp)]at hj ⊢;by_cases h1:bm hi=false/\hi.toList=gM.toList
 . rw[zZ1 h1,zZ1 h1];obtain rfl:=Lg h1.2;intro c hc;rcases zQ8.1 hc with q | q
   . exact z0K (hP c q) r2 h1.1
   . exact y9u (hQ c q) r1 h1.1
 . rw[zZ0 h1]at hj ⊢;rw[zZ0 h1];by_cases h2:bm hi'=false/\hi'.toList=lo.toList
   . rw[zZ1 h2];obtain rfl:=Lg h2.2;intro c hc;rcases zQ8.1 hc with q | q
     . exact z0K (hQ c q) r1 h2.1
     . exact y9u (hP c q) r2 h2.1
   . rw[zZ0 h2]at hj;cases hj
theorem Wa {xs:List Sh}(hn:(xs.map Sh.id).Nodup){i k:Nat}(hi:i<xs.length)(hk:k<xs.length)(h:(ai xs k).id=(ai xs i).id):k=i:=by
 have h1:=NN hn k hk;have h2:=NN hn i hi;rw[h,h2]at h1;omega
theorem y6e {xs:List Sh}{i:Nat}{c:Sh}(h:c∈xs.take i):∃k,k<xs.length/\k≠i/\c=ai xs k:=by
 obtain⟨k,hk,rfl⟩:=yK7.1 h;exact⟨k,by omega,by omega,by rw[j3 xs k (by omega)]⟩
theorem y6c {xs:List Sh}{i:Nat}{c:Sh}(h:c∈xs.drop (i+1)):∃k,k<xs.length/\k≠i/\c=ai xs k:=by
 obtain⟨k,hk,rfl⟩:=yJ3.1 h;exact⟨i+1+k,by omega,by omega,by rw[j3 xs _ (by omega)]⟩
theorem y8k {xs:List Sh}{i:Nat}{key:ByteArray}{ak aq at':Int}{c:Sh}(h:c∈kz xs i key ak aq at'):
    (∃k,k<xs.length/\k≠i/\c=ai xs k)\/c=⟨(ai xs i).id,(ai xs i).aq,at'+1,(ai xs i).lo,key⟩\/c=⟨ak,aq,at'+1,key,(ai xs i).hi⟩:=by
 unfold kz at h;simp only[zQ8,zX0,yX6,or_false]at h;rcases h with(h | h | h) | h
 . exact .inl (y6e h)
 . exact .inr (.inl h)
 . exact .inr (.inr h)
 . exact .inl (y6c h)
theorem lL {xs:List Sh}{k:Nat}(hk:k<xs.length):ai xs k∈xs:=by rw[j3 xs k hk];exact zQ4 hk
theorem Cg {xs:List Sh}{c:Sh}(h:c∈xs):∃k,k<xs.length/\c=ai xs k:=by
 obtain⟨k,hk,rfl⟩:=zK5 h;exact⟨k,hk,(j3 xs k hk).symm⟩
theorem Wb {xs:List Sh}{i:Nat}{key:ByteArray}{ak aq at':Int}{k:Nat}(hk:k<xs.length)(hn:k≠i):ai xs k∈kz xs i key ak aq at':=by
 unfold kz;simp only[zQ8,zX0,yX6,or_false];rw[j3 xs k hk];by_cases h:k<i
 . exact .inl (.inl (yK7.2 ⟨k,by omega,rfl⟩))
 . exact .inr (yJ3.2 ⟨k - (i+1),by omega,by congr 1;omega⟩)
theorem y9N {xs:List Sh}{i j:Nat}(hi:i<xs.length){v:ByteArray×ByteArray}{at':Int}{c:Sh}(h:c∈kJ xs i j v at'):
    (∃k,k<xs.length/\k≠i/\k≠j/\c=ai xs k)\/c=⟨(ai xs i).id,(ai xs i).aq,at'+1,v.1,v.2⟩:=by
 unfold kJ at h;generalize hc:(⟨(ai xs i).id,(ai xs i).aq,at'+1,v.1,v.2⟩:Sh)=ci at *;have key:∃k,k<(xs.set i ci).length/\k≠j/\c=ai (xs.set i ci) k:=by
  rcases zQ8.1 h with h | h
  . exact y6e h
  . exact y6c h
 obtain⟨k,hk,hkj,rfl⟩:=key;rw[zX8]at hk;rw[tU xs i hi ci k];by_cases e:k=i
 . rw[zZ1 e];exact .inr rfl
 . rw[zZ0 e];exact .inl ⟨k,hk,e,hkj,rfl⟩
theorem Lk {xs:List Sh}{i j:Nat}(hi:i<xs.length){v:ByteArray×ByteArray}{at':Int}{k:Nat}(hk:k<xs.length)(hkj:k≠j):
    (if k=i then⟨(ai xs i).id,(ai xs i).aq,at'+1,v.1,v.2⟩else ai xs k)∈kJ xs i j v at':=by
 unfold kJ;generalize hc:(⟨(ai xs i).id,(ai xs i).aq,at'+1,v.1,v.2⟩:Sh)=ci at *;rw[<-tU xs i hi ci k,j3 _ k (by rw[zX8];exact hk)];by_cases h:k<j
 . exact List.mem_append_left _ (yK7.2 ⟨k,by rw[zX8];omega,rfl⟩)
 . exact List.mem_append_right _ (yJ3.2 ⟨k - (j+1),by rw[zX8];omega,by congr 1;omega⟩)
end Pl
theorem bV.br {A:bC}{m m':Nat}(h:bV A m)(hm:m<=m'):bV A m':=⟨h.inv.br hm,h.chain,h.dom,h.back,by have:=h.few;omega,h.sz⟩
theorem bV.at_ {A:bC}{m:Nat}(h:bV A m)(a:Int){fa:Lit->Option Value}:bV ⟨a,A.sh,A.st,fa⟩ m:=⟨h.inv,h.chain,h.dom,h.back,h.few,h.sz⟩
theorem bV.lt {A:bC}{m:Nat}(h:bV A m){i:Nat}(hi:A.st i≠none):1<=i/\i<=12:=by
 obtain⟨c,hc,e⟩:=h.back i hi;have:=h.inv.ids c hc;omega
theorem z2P:ib none=0:=rfl
namespace Pl
theorem z3I {A:bC}{m:Nat}(h:bV A m)(i:Nat)(P:List Pr)(S:Int->Option An)(hi:A.st i=some (P,S))(P':List Pr)(S':Int->Option An)(iG:pB (cB A i).lo (cB A i).hi P')(hl:P'.length<=P.length+8)(a:Int){fa:Lit->Option Value}:bV ⟨a,A.sh,fF A.st i (some (P',S')),fa⟩ (m+1):=by
 have az:=h.lt (i:=i) (by rw[hi];simp);refine⟨h.inv.br (by omega),h.chain,fun c hc=>?_,fun j hj=>?_,?_,h.sz⟩
 . dsimp only;by_cases e:c.id.toNat=i
   . have af:c.id=(i:Int):=(by have:=h.inv.ids c hc;omega);rw[e,mv];refine⟨P',S',rfl,?_⟩;rw[<-kE h hc af];exact iG
   . rw[jW _ _ e];exact h.dom c hc
 . refine h.back j ?_;dsimp only at hj;by_cases e:j=i
   . rw[e,hi];simp
   . rwa[jW _ _ e]at hj
 . have:=Lj A.st i (some (P',S')) (by omega);have h2:=h.few;rw[hi]at this;unfold ib at this;dsimp only at this ⊢;omega
theorem z6B {A:bC}{m:Nat}(h:bV A m){e:En}{at':Int}(ha:gp A.sh.xs A.sh.aD e at'=true)(k2:e.ax=2)(a:Int){fa:Lit->Option Value}:bV ⟨a,bp A.sh e at',A.st,fa⟩ (m+1):=by
 have hI:=VQ h.inv ha;have hC:=VS h.chain ha;have hc:jG A.sh.xs A.sh.aD e=true:=by unfold gp at ha;simp only[zZ7]at ha;exact ha.1.1
 obtain⟨hr,i,hi,hf,gL,cH,hk⟩:=qx hc;have ex:(bp A.sh e at').xs=A.sh.xs.set i ⟨(ai A.sh.xs i).id,e.aq,(ai A.sh.xs i).cJ,(ai A.sh.xs i).lo,(ai A.sh.xs i).hi⟩:=by
  unfold bp;rw[zZ1 k2,gL]
 have hm:=lL hi;refine⟨hI,hC,fun c hc=>?_,fun j hj=>?_,by have:=h.few;dsimp only;omega,fun c hc=>?_⟩
 . rw[ex]at hc;rcases NM hc with q | rfl
   . exact h.dom c q
   . exact h.dom (ai A.sh.xs i) hm
 . obtain⟨c,hc,e1⟩:=h.back j hj;obtain⟨k,nN,rfl⟩:=Cg hc;dsimp only;rw[ex];refine⟨ai (A.sh.xs.set i _) k,lL (by rw[zX8];exact nN),?_⟩;rw[tU _ _ hi];by_cases e2:k=i
   . rw[zZ1 e2,<-e1,e2]
   . rw[zZ0 e2];exact e1
 . rw[ex]at hc;rcases NM hc with q | rfl
   . exact h.sz c q
   . exact h.sz (ai A.sh.xs i) hm
theorem z3w {A:bC}{m:Nat}(h:bV A m)(hs:∀i P S,A.st i=some (P,S)->dK P){e:En}{at':Int}(ha:gp A.sh.xs A.sh.aD e at'=true)(k3:e.ax=3)(a:Int){fa:Lit->Option Value}:bV ⟨a,bp A.sh e at',kD A e,fa⟩ (m+1):=by
 have hI:=VQ h.inv ha;have hC:=VS h.chain ha;have hc:jG A.sh.xs A.sh.aD e=true:=by unfold gp at ha;simp only[zZ7]at ha;exact ha.1.1
 obtain⟨hr,i,hi,hf,gL,cH,hk⟩:=qx hc;obtain⟨hu,o1,o2,hh,hne⟩:A.sh.aD e.ak.toNat=false/\1<=e.ak/\e.ak<=12/\bk (ai A.sh.xs i).lo (ai A.sh.xs i).hi e.key=true/\e.key.toList≠(ai A.sh.xs i).lo.toList:=by
  rcases hk with k2 | ⟨_,q⟩ | ⟨k4,_⟩
  . omega
  . exact q
  . omega
 have ex:(bp A.sh e at').xs=kz A.sh.xs i e.key e.ak e.aq at':=by
  unfold bp;rw[zZ0 (by omega),zZ1 k3,gL]
 have hm:=lL hi;have wz:=h.inv.ids _ hm;obtain⟨P,S,hP,iG⟩:=h.dom _ hm;rw[cH]at hP wz;have R5:=z6e (hs _ P S hP) iG (RT hh hne);have fG:A.st e.ak.toNat=none:=by
  cases hx:A.st e.ak.toNat with
  | none=>rfl
  | some v=>
   obtain⟨c,hc,af⟩:=h.back e.ak.toNat (by rw[hx];simp);have:=(h.inv.ids c hc).2.2;rw[af,zQ3,hu]at this;cases this
 have pE:e.aj.toNat≠e.ak.toNat:=fun e1=>by rw[e1,fG]at hP;cases hP
 have es:kD A e=fF (fF A.st e.aj.toNat (some (P.take (bN P e.key),S))) e.ak.toNat (some (P.drop (bN P e.key),S)):=by
  unfold kD;rw[zZ1 k3,hP]
 refine⟨hI,hC,fun c hc=>?_,fun j hj=>?_,?_,fun c hc=>?_⟩
 . rw[ex]at hc;dsimp only;rw[es];rcases y8k hc with⟨k,fV,hk2,rfl⟩ | rfl | rfl
   . have hik:=h.inv.ids _ (lL fV);have n1:(ai A.sh.xs k).id.toNat≠e.aj.toNat:=fun e1=>hk2 (Wa h.inv.nodup hi fV (by rw[cH];omega));have n2:(ai A.sh.xs k).id.toNat≠e.ak.toNat:=fun e1=>by
      obtain⟨P2,S2,h2,_⟩:=h.dom _ (lL fV);rw[e1,fG]at h2;cases h2
     rw[jW _ _ n2,jW _ _ n1];exact h.dom _ (lL fV)
   . dsimp only;rw[cH,jW _ _ pE,mv];exact⟨_,_,rfl,R5.2.2.1⟩
   . dsimp only;rw[mv];exact⟨_,_,rfl,R5.2.2.2.1⟩
 . dsimp only at hj ⊢;rw[es]at hj;rw[ex];by_cases e2:j=e.ak.toNat
   . refine⟨⟨e.ak,e.aq,at'+1,e.key,(ai A.sh.xs i).hi⟩,by unfold kz;simp,by dsimp only;omega⟩
   . rw[jW _ _ e2]at hj;by_cases e1:j=e.aj.toNat
     . refine⟨⟨(ai A.sh.xs i).id,(ai A.sh.xs i).aq,at'+1,(ai A.sh.xs i).lo,e.key⟩,by unfold kz;simp,by dsimp only;rw[cH];omega⟩
     . rw[jW _ _ e1]at hj;obtain⟨c,hc,af⟩:=h.back j hj;obtain⟨k,fV,rfl⟩:=Cg hc;have Ag:k≠i:=fun e3=>e1 (by rw[e3,cH]at af;omega);exact⟨_,Wb fV Ag,af⟩
 . dsimp only;rw[es];have t1:=Lj A.st e.aj.toNat (some (P.take (bN P e.key),S)) (by omega);have t2:=Lj (fF A.st e.aj.toNat (some (P.take (bN P e.key),S))) e.ak.toNat (some (P.drop (bN P e.key),S)) (by omega);rw[jW _ _ (Ne.symm pE),fG,z2P]at t2;rw[hP]at t1;have hl:(P.take (bN P e.key)).length+(P.drop (bN P e.key)).length=P.length:=(by rw[<-zZ4,zX7]);simp only[ib]at t1 t2;have:=h.few;omega
 . rw[ex]at hc;rcases y8k hc with⟨k,fV,hk2,rfl⟩ | rfl | rfl
   . exact h.sz _ (lL fV)
   . exact⟨(h.sz _ hm).1,by have:=R5.2.2.2.2;dsimp only;omega⟩
   . exact⟨by have:=R5.2.2.2.2;dsimp only;omega,(h.sz _ hm).2⟩
theorem z3Z {A:bC}{m:Nat}(h:bV A m){e:En}{at':Int}(ha:gp A.sh.xs A.sh.aD e at'=true)(k4:e.ax=4)(a:Int){fa:Lit->Option Value}:bV ⟨a,bp A.sh e at',kD A e,fa⟩ (m+1):=by
 have hI:=VQ h.inv ha;have hC:=VS h.chain ha;have hc:jG A.sh.xs A.sh.aD e=true:=by unfold gp at ha;simp only[zZ7]at ha;exact ha.1.1
 obtain⟨hr,i,hi,hf,gL,cH,hk⟩:=qx hc;obtain⟨j,hj,nI,qQ,gz,hz⟩:∃j,j<A.sh.xs.length/\aK A.sh.xs e.ak=(j:Nat)/\pU A.sh.xs e=j/\(ai A.sh.xs j).id=e.ak/\bg (bD (ai A.sh.xs i).lo (ai A.sh.xs i).hi) (bD (ai A.sh.xs j).lo (ai A.sh.xs j).hi) (ai A.sh.xs i).lo (ai A.sh.xs i).hi (ai A.sh.xs j).lo (ai A.sh.xs j).hi=0:=by
  rcases hk with k2 | ⟨k3,_⟩ | ⟨_,q⟩
  . omega
  . omega
  . exact q
 have Ch:=(zY hr k4).2.2.2.2;have ex:(bp A.sh e at').xs=kJ A.sh.xs i j (aW (bD (ai A.sh.xs i).lo (ai A.sh.xs i).hi) (bD (ai A.sh.xs j).lo (ai A.sh.xs j).hi) (ai A.sh.xs i).lo (ai A.sh.xs i).hi (ai A.sh.xs j).lo (ai A.sh.xs j).hi) at':=by
  unfold bp;rw[zZ0 (by omega),zZ0 (by omega),gL,qQ]
 have kq:=lL hi;have pV:=lL hj;have qz:=h.inv.ids _ kq;have rP:=h.inv.ids _ pV;have lQ:i≠j:=fun e1=>Ch (by rw[<-cH,<-gz,e1]);obtain⟨P,S,hP,rQ⟩:=h.dom _ kq;obtain⟨Q,T,hQ,rR⟩:=h.dom _ pV;rw[cH]at hP qz;rw[gz]at hQ rP;have pE:e.aj.toNat≠e.ak.toNat:=by omega
 have ri:=h.chain.right i hi;have rj:=h.chain.right j hj;have si:cB A e.aj.toNat=ai A.sh.xs i:=kE h kq (by rw[cH];omega);have sj:cB A e.ak.toNat=ai A.sh.xs j:=kE h pV (by rw[gz];omega);have hJ:=z4N rQ rR ri rj hz;have es:kD A e=fF (fF A.st e.aj.toNat (some (if bm (ai A.sh.xs i).hi=false/\(ai A.sh.xs i).hi.toList=(ai A.sh.xs j).lo.toList then P++Q else Q++P,dC S (iB T)))) e.ak.toNat none:=by
  unfold kD iQ;rw[zZ0 (by omega),zZ1 k4,hP,hQ,si,sj]
 refine⟨hI,hC,fun c hc=>?_,fun q hq=>?_,?_,fun c hc=>?_⟩
 . rw[ex]at hc;dsimp only;rw[es];rcases y9N hi hc with⟨k,fV,hk2,hk3,rfl⟩ | rfl
   . have hik:=h.inv.ids _ (lL fV);have n1:(ai A.sh.xs k).id.toNat≠e.aj.toNat:=fun e1=>hk2 (Wa h.inv.nodup hi fV (by rw[cH];omega));have n2:(ai A.sh.xs k).id.toNat≠e.ak.toNat:=fun e1=>hk3 (Wa h.inv.nodup hj fV (by rw[gz];omega));rw[jW _ _ n2,jW _ _ n1];exact h.dom _ (lL fV)
   . dsimp only;rw[cH,jW _ _ pE,mv];exact⟨_,_,rfl,hJ⟩
 . dsimp only at hq ⊢;rw[es]at hq;rw[ex];by_cases e2:q=e.ak.toNat
   . rw[e2,mv]at hq;exact absurd rfl hq
   . rw[jW _ _ e2]at hq;by_cases e1:q=e.aj.toNat
     . refine⟨_,Lk hi (k:=i) hi lQ,?_⟩;rw[zZ1 rfl];dsimp only;rw[cH];omega
     . rw[jW _ _ e1]at hq;obtain⟨c,hc,af⟩:=h.back q hq;obtain⟨k,fV,rfl⟩:=Cg hc;have Ag:k≠i:=fun e3=>e1 (by rw[e3,cH]at af;omega);have hkj:k≠j:=fun e3=>e2 (by rw[e3,gz]at af;omega);refine⟨_,Lk hi (k:=k) fV hkj,?_⟩;rw[zZ0 Ag];exact af
 . dsimp only;rw[es];generalize hR:(if bm (ai A.sh.xs i).hi=false/\(ai A.sh.xs i).hi.toList=(ai A.sh.xs j).lo.toList then P++Q else Q++P)=R;have hl:R.length=P.length+Q.length:=by
    rw[<-hR];split
    . rw[zZ4]
    . rw[zZ4];omega
   have t1:=Lj A.st e.aj.toNat (some (R,dC S (iB T))) (by omega);have t2:=Lj (fF A.st e.aj.toNat (some (R,dC S (iB T)))) e.ak.toNat none (by omega);rw[jW _ _ (Ne.symm pE),hQ,z2P]at t2;rw[hP]at t1;simp only[ib]at t1 t2;have:=h.few;omega
 . rw[ex]at hc;rcases y9N hi hc with⟨k,fV,_,_,rfl⟩ | rfl
   . exact h.sz _ (lL fV)
   . exact Zf _ _ _ _ _ _ 300 (h.sz _ kq).1 (h.sz _ kq).2 (h.sz _ pV).1 (h.sz _ pV).2
theorem R6 {A:bC}{m:Nat}(h:bV A m)(hs:∀i P S,A.st i=some (P,S)->dK P)(e:En)(at':Int):bV (fh A e at').2 (m+1):=by
 unfold fh;split
 . exact h.br (by omega)
 split
 . exact h.br (by omega)
 split
 . cases hx:A.st e.aj.toNat with
   | none=>exact(h.at_ _).br (by omega)
   | some v=>
    obtain⟨P,S⟩:=v;dsimp only;obtain⟨c,hc,af⟩:=h.back e.aj.toNat (by rw[hx];simp);have hsu:=kE h hc af;obtain⟨P2,S2,h2,iG⟩:=h.dom c hc;rw[af,zQ3,hx]at h2;cases h2;rw[hsu];exact z3I h _ P S hx _ _ (by rw[hsu];exact z5G (hs _ P S hx) iG S e at') (z4a _ _ P S e at') _
 split
 . next ha=>
   dsimp only;by_cases k3:e.ax=3
   . exact z3w h hs ha k3 _
   by_cases k4:e.ax=4
   . exact z3Z h ha k4 _
   have hc:jG A.sh.xs A.sh.aD e=true:=(by unfold gp at ha;simp only[zZ7]at ha;exact ha.1.1);obtain⟨hr,i,hi,hf,gL,cH,hk⟩:=qx hc;have k2:e.ax=2:=by
    rcases hk with k2 | ⟨q,_⟩ | ⟨q,_⟩
    . exact k2
    . exact absurd q k3
    . exact absurd q k4
   have es:kD A e=A.st:=(by unfold kD;rw[zZ0 k3,zZ0 k4]);rw[es];exact z6B h ha k2 _
 . exact(h.at_ _).br (by omega)
end Pl
namespace Pl
theorem z2w {lo mid hi:ByteArray}{P Q:List Pr}(hP:pB lo mid P)(hQ:pB mid hi Q)(sP:dK P)(sQ:dK Q)(hm:bm mid=false):dK (P++Q):=by
 refine⟨fun c hc=>?_,yX7.2 ⟨sP.iO,sQ.iO,fun a ha b hb=>?_⟩⟩
 . rcases zQ8.1 hc with q | q
   . exact sP.key c q
   . exact sQ.key c q
 . obtain⟨r1,k1,_,l1⟩:=uX (hP a ha);obtain⟨r2,k2,g2,_⟩:=uX (hQ b hb);have om:=zV (zZ r2).1;unfold dv at l1;rw[hm,yZ4,wZ2]at l1;by_cases e:cU b.key mid=0
   . rw[CS (uY k2) om e];exact l1
   . have e2:=yU om (uY k2);have:cU mid b.key<0:=by
      have:=yU (uY k2) om;omega
     exact uM (uY k1) om (uY k2) l1 this
theorem z2N {c d:Sh}{P Q:List Pr}(hP:pB c.lo c.hi P)(hQ:pB d.lo d.hi Q)(sP:dK P)(sQ:dK Q)(r1:bD c.lo c.hi=true)(r2:bD d.lo d.hi=true)(hz:bg (bD c.lo c.hi) (bD d.lo d.hi) c.lo c.hi d.lo d.hi=0):dK (iQ c d P Q)/\(iQ c d P Q).Perm (P++Q):=by
 unfold iQ;unfold bg at hz;rw[zZ0 (by rw[r1,r2];simp)]at hz;by_cases h1:bm c.hi=false/\c.hi.toList=d.lo.toList
 . rw[zZ1 h1];have e:=Lg h1.2;rw[<-e]at hQ;exact⟨z2w hP hQ sP sQ h1.1,List.Perm.refl _⟩
 . rw[zZ0 h1]at hz ⊢;by_cases h2:bm d.hi=false/\d.hi.toList=c.lo.toList
   . have e:=Lg h2.2;rw[<-e]at hP;exact⟨z2w hQ hP sQ sP h2.1,List.perm_append_comm⟩
   . rw[zZ0 h2]at hz;cases hz
end Pl
section
attribute [local go_sem] bl
theorem N7 (f:Lit->Option Value)(l:Lit)(v:Option Value):fB f l v l=v:=by unfold fB;exact zZ1 rfl
theorem Ee (f:Lit->Option Value){l m:Lit}(v:Option Value)(h:m≠l):fB f l v m=f m:=by unfold fB;exact zZ0 h
theorem R7 {i j:Nat}(h:bt (i:Int)=bt (j:Int)):i=j:=by unfold bt at h;injection h with _ h;omega
theorem z2W (E:Nat->Addr)(w:World)(hE:bz lI E w):
    Calls prog 6 #[] w fun e w'=>∃ab,e=.returned (.pointer (some ⟨ab,0,none⟩))/\ae w w'/\∀(k:Nat) (L:Nat->Nat),∃L',(∀j,j<w.heap.size->L' j=L j)/\(∀j,w.heap.size<=j->cr k (L' j))/\dh w' L' k ab 1 bC.init:=by
 have HN:=af (fun W (g:ae w W)=>zM lI E ⟨rfl,rfl,rfl,rfl⟩ ⟨#[]⟩ ⟨#[]⟩ W (by decide) (by decide) (hE.ah g) z5r zC);clear hE;go_in;go_wp2_with fail;refine(yq w).mono ?_;rintro e w1 ⟨sb,rfl,aR,iA,F,hS,hF⟩;have HS:=af (show gm w1 F sb dR.init/\(∀j,F j->w.heap.size<=j)from⟨hS,hF⟩);have ct:=af aR;clear aR iA hS hF;have qJ:=@run_makeMap prog;go_upto_region 2 with fail;obtain⟨Y,hY⟩:∃Y,Y=(((w1.alloc (.map #[] 0)).alloc (.map #[] 0)).alloc (.cells #[.int .i64 0,.pointer (some ⟨sb,0,none⟩),.map (some w1.heap.size),.map (some (w1.heap.size+1))] 75)):=⟨_,rfl⟩
 have gY:ae w1 Y:=by rw[hY];exact(((ae.rf w1).alloc _).alloc _).alloc _
 have ua:bU Y prog 3 w1.heap.size 0 (fun _=>none):=by rw[hY];exact(bU.made w1 prog 3).ah (((ae.rf _).alloc _).alloc _)
 have Wc:bU Y prog 3 (w1.heap.size+1) 0 (fun _=>none):=by
  have:=(bU.made (w1.alloc (.map #[] 0)) prog 3).ah ((ae.rf _).alloc (.cells #[.int .i64 0,.pointer (some ⟨sb,0,none⟩),.map (some w1.heap.size),.map (some (w1.heap.size+1))] 75));rw[hY];have e:(w1.alloc (.map #[] 0)).heap.size=w1.heap.size+1:=by simp
  rw[e]at this;exact this
 have dB:Y.heap[w1.heap.size+1+1]? =some (.cells #[.int .i64 0,.pointer (some ⟨sb,0,none⟩),.map (some w1.heap.size),.map (some (w1.heap.size+1))] 75 (0,0)):=by
  rw[hY];have:=wZ0 ((w1.alloc (.map #[] 0)).alloc (.map #[] 0)) (.cells #[.int .i64 0,.pointer (some ⟨sb,0,none⟩),.map (some w1.heap.size),.map (some (w1.heap.size+1))] 75);have e:((w1.alloc (.map #[] 0)).alloc (.map #[] 0)).heap.size=w1.heap.size+1+1:=by simp
  rw[e]at this;exact this
 rw[<-hY];clear hY;obtain⟨mb,vW⟩:∃mb,mb=w1.heap.size:=⟨_,rfl⟩
 obtain⟨nb,kj⟩:∃nb,nb=w1.heap.size+1:=⟨_,rfl⟩
 obtain⟨ab,hab⟩:∃ab,ab=w1.heap.size+1+1:=⟨_,rfl⟩
 have HB:=af (show w1.heap.size=mb/\nb=mb+1/\ab=mb+2 from⟨vW.symm,by omega,by omega⟩);rw[<-hab,<-kj,<-vW]at dB ⊢;rw[<-vW]at ua;rw[<-kj]at Wc;clear vW kj hab qJ;have rS:ab<Y.heap.size:=(zZ2.1 dB).1;have HY:=af (And.intro (ct.trans gY) (And.intro gY (And.intro ua Wc)));have d0:Y.cell? ⟨ab,0,none⟩=some (.int .i64 0):=by rw[gw dB];rfl
 have d1:Y.cell? ⟨ab,1,none⟩=some (.pointer (some ⟨sb,0,none⟩)):=by rw[gw dB];rfl
 have d2:Y.cell? ⟨ab,2,none⟩=some (.map (some mb)):=by rw[gw dB];rfl
 have d3:Y.cell? ⟨ab,3,none⟩=some (.map (some nb)):=by rw[gw dB];rfl
 have Gj:=af (show ∀i,Y.frozen? ⟨ab,i,none⟩=false from fun i=>by simp[World.frozen?,dB]);clear ua Wc gY dB;go_wp2_with fail;refine(HN Y HY.1).mono ?_;rintro e y ⟨st,Gt,Gs,rfl,hS,h1,h2,h3,hg⟩;have Ah:=af (And.intro hS (And.intro h1 (And.intro h2 h3)));have Gl:=af hg;have d2:=(hg.cells.1 _ 2 rS).trans d2;obtain⟨w2,hrun,r1,r2⟩:=(HY.2.2.1.ah hg).store (val:=.pointer (some ⟨st,0,none⟩)) ng underlying73 (by unfold maxLen;omega) (keyOf_int_mk underlying3 (qH (c:=1) (by omega) (by omega)));have eH:=af hrun;have HR:=af (And.intro r1 r2);clear hS h1 h2 h3 hg hrun r1 r2 HN;go_wp2_with (at_mapUpdate;refine H3 rfl _ _ _ rfl rfl rfl rfl eH.out ?_);go_ret;have hO:ar (fun j=>j=mb) y w2:=ar.eh HR.2;have z1:=ct.size;have z2:=HY.2.1.size;have z3:=Gl.size;obtain⟨b1,b2,b3⟩:=HB.out;have wA:∀j,j≠mb->¬(fun j=>j=mb) j:=fun j hj=>hj;refine⟨ab,rfl,(((HY.1.trans Gl).only _).then hO).ah fun j hj=>by rw[hj];omega,fun k L=>⟨fun j=>if j<w.heap.size then L j else if j<w1.heap.size then k+3 else if j=mb then k+1 else if j=nb then k+2 else if j=ab then k else k+21,fun j hj=>zZ1 hj,fun j hj=>?_,sb,mb,nb,fB (fun _=>none) (bt 1) (some (.pointer (some ⟨st,0,none⟩))),fun _=>st,?_⟩⟩
 . dsimp only;rw[zZ0 (by omega)];unfold cr;repeat' split
   all_goals omega
 . have hS1:=(HS.1.ah (HY.2.1.trans Gl)).aC hO (fun j hj hq=>by have:=HS.1.lt j hj;omega);have mX:=Ah.1.aC hO (fun j hj hq=>by have:=Ah.2.1 j hj;omega) (fun j hj hq=>by have:=Ah.2.2.1 j hj;omega) (fun hq=>by have:=Ah.2.2.2;omega);have N8:=xA9 rS z3;refine⟨(hO.cell N8 (wA _ (by omega)) 0).trans ((Gl.cells.1 _ 0 rS).trans d0),(hO.cell N8 (wA _ (by omega)) 1).trans ((Gl.cells.1 _ 1 rS).trans d1),(hO.cell N8 (wA _ (by omega)) 2).trans d2,(hO.cell N8 (wA _ (by omega)) 3).trans ((Gl.cells.1 _ 3 rS).trans d3),fun i=>(hO.frozen N8 (wA _ (by omega)) i).trans ((Gl.cells.2 _ i rS).trans (Gj i)),?_,?_,?_,⟨F,hS1,fun j hj=>?_⟩,⟨1,zZ3 _,HR.1⟩,fun i=>?_,fun l hl=>?_,⟨0,by omega,(HY.2.2.2.ah Gl).aC hO (wA _ (by omega))⟩,fun i P S hi=>?_⟩
   . rw[zZ0 (by omega),zZ0 (by omega),zZ0 (by omega),zZ0 (by omega),zZ1 rfl]
   . rw[zZ0 (by omega),zZ0 (by omega),zZ1 rfl]
   . rw[zZ0 (by omega),zZ0 (by omega),zZ0 (by omega),zZ1 rfl]
   . have h1:=HS.2 j hj;have h2:=HS.1.lt j hj;rw[zZ0 (by omega),zZ1 h2]
   . by_cases e:i=1
     . subst e;exact N7 _ _ _
     . have e1:bC.init.st i=none:=zZ0 e;rw[e1,Ee (l:=bt 1) (m:=bt (i:Int)) _ _ (fun h=>e (R7 (i:=i) (j:=1) h))];rfl
   . by_cases e:l=bt 1
     . exact⟨1,e⟩
     . rw[Ee _ _ e]at hl;exact absurd rfl hl
   . by_cases e:i=1
     . subst e;have ml:some (([]:List Pr),(fun _=>none:Int->Option An))=some (P,S):=hi;cases ml;refine⟨by omega,KH,zQ0.2 rfl,rfl,Gt,Gs,0,by omega,mX,fun j hj=>?_⟩;have:Y.heap.size<=j:=by
        rcases hj with q | q | q
        . exact Ah.2.1 j q
        . exact Ah.2.2.1 j q
        . rw[q];exact Ah.2.2.2
       rw[zZ0 (by omega),zZ0 (by omega),zZ0 (by omega),zZ0 (by omega),zZ0 (by omega)]
     . have e1:bC.init.st i=none:=zZ0 e;rw[e1]at hi;cases hi
theorem R8 (w:World):(zeroValue 76).run prog w=.ok (.pointer none) w:=by kernel_rfl
def lZ (A:bC)(st:Nat->Nat)(i:Nat):Value:=if(A.st i).isSome then .pointer (some ⟨st i,0,none⟩)else .pointer none
section
variable {W W':World}{L:Nat->Nat}{k ab sb mb nb n:Nat}{f:Lit->Option Value}{st:Nat->Nat}{A:bC}
theorem dF.look (h:dF W L k ab sb mb nb n f st A)(g:ae W W')(i:Nat)(hi:i<1000000):(Instr.lookup 73 (.map (some mb)) (.int .i64 (i:Int)) false).run prog W'=.ok (lZ A st i) W':=by
 obtain⟨m,_,hl⟩:=h.lm;have:=(hl.ah g).lookup ng underlying73 (R8 W') (keyOf_int_mk underlying3 (qH (c:=(i:Int)) (by omega) (by omega)));rw[show(Lit.int .i64 (i:Int))=bt (i:Int)from rfl,h.val]at this;rw[this];unfold lZ;cases A.st i<;> rfl
end
theorem z5V {W:World}{L:Nat->Nat}{k ab n:Nat}{A:bC}(h:dh W L k ab n A):
    Calls prog 12 #[.pointer (some ⟨ab,0,none⟩)] W fun e w'=>e=.returned (.int .i64 A.at_)/\ae W w':=by
 obtain⟨sb,mb,nb,f,st,h⟩:=h;have c0:=h.c0;have hab:=bf c0;clear h;go_in;go_wp2_with fail;go_ret;exact⟨rfl,ae.rf _⟩
theorem z3E {W:World}{L:Nat->Nat}{k ab n:Nat}{A:bC}(h:dh W L k ab n A)(i:Nat)(hi:i<1000000)(hx:∀P S,A.st i=some (P,S)->P.length<=1000):
    Calls prog 37 #[.pointer (some ⟨ab,0,none⟩),.int .i64 (i:Int)] W fun e w'=>ae W w'/\((A.st i=none/\e=.returned (.tuple #[.pointer none,.bool false]))\/∃P S,A.st i=some (P,S)/\∃c∈A.sh.xs,c.id=(i:Int)/\∃cb Gt Gs m,m<=n/\e=.returned (.tuple #[.pointer (some ⟨cb,0,none⟩),.bool true])/\dE w' Gt Gs cb m c.lo c.hi P S):=by
 obtain⟨sb,mb,nb,f,st,h⟩:=h;have c2:=h.c2;have hab:=bf c2;have hlk:=h.look (ae.rf W) i hi;cases hA:A.st i with
 | none=>
  have e1:lZ A st i=.pointer none:=by unfold lZ;rw[hA];rfl
  rw[e1]at hlk;clear h hx hA e1;go_in;go_wp2_with fail;exact wZ1 (v:=.tuple #[.pointer none,.bool false]) (by simp[results,results37,go_sem]) rfl ⟨ae.rf _,by first | exact .inl ⟨rfl,rfl⟩ | exact rfl | simp⟩
 | some v=>
  obtain⟨P,S⟩:=v;have e1:lZ A st i=.pointer (some ⟨st i,0,none⟩):=by unfold lZ;rw[hA];rfl
  rw[e1]at hlk;obtain⟨_,c,hc,bY,Ft,Fs,m,hm,hS,_⟩:=h.bE i P S hA;have HC:=af (y9T hS (hx P S hA));have HX:=af (And.intro hc (And.intro bY hm));clear h hx hA e1 hc bY hm hS;go_in;go_wp2_with fail;refine HC.mono ?_;rintro e w' ⟨cb,Gt,Gs,rfl,h1,_,_,_,hg⟩;have HF:=af (And.intro h1 hg);clear h1 hg HC;go_wp2_with fail;exact wZ1 (v:=.tuple #[.pointer (some ⟨cb,0,none⟩),.bool true]) (by simp[results,results37,go_sem]) rfl ⟨HF.2,.inr ⟨P,S,rfl,c,HX.1,HX.2.1,cb,Gt,Gs,m,HX.2.2,rfl,HF.1⟩⟩
end
section
attribute [local go_sem] bl
theorem z6j:iM lI:=⟨rfl,rfl,rfl,rfl,rfl,rfl⟩
namespace Pl
def iR (A:bC)(key:ByteArray):Option Pr:=if mU A.sh.xs key<0 then none else match A.st (rO A.sh.xs key).id.toNat with | none=>none | some v=>fl v.1 key
end Pl
theorem z6D (E:Nat->Addr){W:World}(hE:bz lI E W){L:Nat->Nat}{k ab n:Nat}{A:bC}(h:dh W L k ab n A)(hl:A.sh.xs.length<=1000)(key:ByteArray)(hk:key.size<=70368744177664)(hn:Pl.mU A.sh.xs key<0):
    Calls prog 16 #[.pointer (some ⟨ab,0,none⟩),.string key] W fun e w'=>e=.returned (.tuple #[Pr.none.agg,.bool false])/\ae W w':=by
 obtain⟨sb,mb,nb,f,st,h⟩:=h;obtain⟨F,hS,_⟩:=h.sh;have c1:=h.c1;have hab:=bf c1;have HO:=af (fun X (g:ae W X)=>y9X z6j E (hE.ah g) (hS.ah g) hl key hk);have e1:Pl.rO A.sh.xs key=Sh.none:=by unfold Pl.rO;rw[zZ1 hn]
 have e2:decide (0<=Pl.mU A.sh.xs key)=false:=wZ6 (by omega);rw[e1,e2]at HO;clear h hE hS e1 e2;unfold Sh.none Sh.dH Sh.vals at HO;dsimp only at HO;go_in;go_wp2_with fail;refine(HO _ ((ae.rf W).alloc _)).mono ?_;rintro e w1 ⟨rfl,aR⟩;have ct:=af (show ae W w1 from((ae.rf W).alloc _).trans aR);have hz:W.heap.size<w1.heap.size:=xA9 (by simp) aR.size;have q:(∀i,i<3->∃u,w1.cell? ⟨W.heap.size,i,none⟩=some u)/\∀i,w1.frozen? ⟨W.heap.size,i,none⟩=false:=⟨fun i hi=>by
  obtain rfl | rfl | rfl:i=0\/i=1\/i=2:=by omega
  all_goals exact⟨_,(aR.cells.1 _ _ (by simp)).trans (by simp[go_sem];rfl)⟩,fun i=>(aR.cells.2 _ i (by simp)).trans (by simp[go_sem])⟩
 obtain⟨u0,k0⟩:=q.1 0 (by omega);obtain⟨u1,k1⟩:=q.1 1 (by omega);obtain⟨u2,k2⟩:=q.1 2 (by omega);have f0:=q.2 0;have f1:=q.2 1;have f2:=q.2 2;clear aR q HO;go_wp2_with fail;refine wZ1 (v:=.tuple #[.agg #[.string ⟨#[]⟩,.string ⟨#[]⟩,.int .i64 0],.bool false]) (by simp[results,results16,go_sem,f0,f1,f2,k0,k1,k2,hz]) rfl ⟨rfl,?_⟩;refine(ae.setCell (ae.setCell (ae.setCell ct ?_ _) ?_ _) ?_ _).alloc _;all_goals exact zZ3 W.heap.size
theorem z6G (E:Nat->Addr){W:World}(hE:bz lI E W){L:Nat->Nat}{k ab n:Nat}{A:bC}(h:dh W L k ab n A)(hl:A.sh.xs.length<=1000)(key:ByteArray)(hk:key.size<=70368744177664)(hn:¬Pl.mU A.sh.xs key<0)(i:Nat)(hi9:i<1000000)(Jo:(Pl.rO A.sh.xs key).id=(i:Int)){P:List Pr}{S:Int->Option An}(hst:A.st i=some (P,S))(hx:P.length<=1000):
    Calls prog 16 #[.pointer (some ⟨ab,0,none⟩),.string key] W fun e w'=>e=.returned (.tuple #[((Pl.fl P key).getD Pr.none).agg,.bool (Pl.fl P key).isSome])/\ae W w':=by
 obtain⟨sb,mb,nb,f,st,h⟩:=h;obtain⟨F,hS,_⟩:=h.sh;have c1:=h.c1;have c2:=h.c2;have hab:=bf c1;have HO:=af (fun X (g:ae W X)=>y9X z6j E (hE.ah g) (hS.ah g) hl key hk);rw[show decide (0<=Pl.mU A.sh.xs key)=true from wZ5 (by omega)]at HO;obtain⟨_,c,_,_,Ft,Fs,m,_,⟨tb,yb,hT⟩,_⟩:=h.bE i P S hst;have e1:lZ A st i=.pointer (some ⟨st i,0,none⟩):=by unfold lZ;rw[hst];rfl
 have qy:=af (fun X (g:ae W X)=>h.look g i hi9);rw[e1]at qy;have s0:=hT.c0;have IV:=bf s0;have xm:=af (fun X (g:ae W X)=>y7Y (show mM lI from⟨rfl,rfl,rfl,rfl,rfl⟩) E (hE.ah g) (hT.tab.ah g) (by omega) key hk);clear h hE hS hT e1 hst;generalize st i=sp at *;generalize (Pl.fl P key).isSome=is' at *;generalize (Pl.fl P key).getD Pr.none=o at *;obtain⟨ok,ov,on⟩:=o;unfold Pr.agg at xm ⊢;generalize Pl.rO A.sh.xs key=cc at *;obtain⟨x0,x1,x2,x3,x4⟩:=cc;dsimp only at *;subst Jo;unfold Sh.dH Sh.vals at HO;dsimp only at HO;go_in;go_wp2_with fail;refine(HO _ ((ae.rf W).alloc _)).mono ?_;rintro e w1 ⟨rfl,aR⟩;have ct:=af (show ae W w1 from((ae.rf W).alloc _).trans aR);have hz:W.heap.size<w1.heap.size:=xA9 (by simp) aR.size;have q:(∀j,j<3->∃u,w1.cell? ⟨W.heap.size,j,none⟩=some u)/\∀j,w1.frozen? ⟨W.heap.size,j,none⟩=false:=⟨fun j hj=>by
  obtain rfl | rfl | rfl:j=0\/j=1\/j=2:=by omega
  all_goals exact⟨_,(aR.cells.1 _ _ (by simp)).trans (by simp[go_sem];rfl)⟩,fun j=>(aR.cells.2 _ j (by simp)).trans (by simp[go_sem])⟩
 have HQ:=af q;clear aR q HO;go_upto_region 4 with fail;obtain⟨Y,hY⟩:∃Y,Y=w1.alloc (.cells #[.int .i64 (i:Int),.int .i64 x1,.int .i64 x2,.string x3,.string x4] 100):=⟨_,rfl⟩
 have gY:ae w1 Y:=by rw[hY];exact(ae.rf w1).alloc _
 obtain⟨xb,eE⟩:∃xb,xb=w1.heap.size:=⟨_,rfl⟩
 have X0:=bj (show Y.cell? ⟨xb,0,none⟩=some (.int .i64 (i:Int))by rw[hY,eE];simp[go_sem]);have dg:=af (ct.trans gY);have jd:=af gY;rw[<-hY,<-eE];have hlk:∀p:Wd (ae Y),(Instr.lookup 73 (.map (some mb)) (.int .i64 (i:Int)) false).run prog p.w=.ok (.pointer (some ⟨sp,0,none⟩)) p.w:=fun p=>qy p.w (dg.trans p.ok);have A2:=bj ((dg.cells.1 _ 2 hab).trans c2);have S0:=bj ((dg.cells.1 _ 0 IV).trans s0);have N9:=af (fun X (g:ae Y X)=>xm X (dg.trans g));clear hY gY eE qy;refine pO 14 ?_;repeat (first|(refine gg ?_;intros;go_big_quiet_op;go_big_quiet_on)|(refine H0 (fun _=>by kernel_rfl) (fun u hu=>N9 u hu) ?_;simp only[Act.put,xB9,xC9,xD9])|(refine fZ ?_;simp only[Act.put,xB9,xC9,xD9]))
 refine jB (by rfl) ?_;intro u iH;have HU:=af (dg.trans iH);have HV:=af (jd.trans iH);obtain⟨u0,k0⟩:=HQ.1 0 (by omega);obtain⟨u1,k1⟩:=HQ.1 1 (by omega);obtain⟨u2,k2⟩:=HQ.1 2 (by omega);have k0:=(HV.cells.1 _ 0 hz).trans k0;have k1:=(HV.cells.1 _ 1 hz).trans k1;have k2:=(HV.cells.1 _ 2 hz).trans k2;have f0:=(HV.cells.2 _ 0 hz).trans (HQ.2 0);have f1:=(HV.cells.2 _ 1 hz).trans (HQ.2 1);have f2:=(HV.cells.2 _ 2 hz).trans (HQ.2 2);have wR:=xA9 hz HV.size;clear iH X0 hlk A2 S0 N9 xm HQ;dsimp only[List.drop];go_wp2_with fail;refine wZ1 (v:=.tuple #[.agg #[.string ok,.string ov,.int .i64 on],.bool is']) (by simp[results,results16,go_sem,f0,f1,f2,k0,k1,k2,wR]) rfl ⟨rfl,?_⟩;refine ae.setCell (ae.setCell (ae.setCell HU ?_ _) ?_ _) ?_ _;all_goals exact zZ3 W.heap.size
end
theorem y9g (e:En)(w:World)(hA:e.ax=1->b7 w e)(hs:∀o∈e.ops,o.key.size<=16777216)(at_:Int)(ms:Nat)(h:¬(e.ax=1/\Pl.cK e=true)):
    Calls prog 60 #[.pointer (some ⟨ms,0,none⟩),e.agg,.int .i64 at_] w fun r w'=>r=.returned (.tuple #[fQ 0 0,.int .i64 4])/\ae w w':=by
 have HR:=af (fun W (g:ae w W) (h1:e.ax=1)=>RJ e W ((hA h1).ah g) (fun h3=>by omega) hs);have HW:=af (sL.aX w e);obtain⟨Y,hY⟩:∃Y,Y=(((w.alloc (.cells e.vals.toArray 36)).alloc (.cells #[.int .i64 0,.int .i64 0] 50)).alloc (.cells #[.int .i64 0,.int .i64 0] 50)):=⟨_,rfl⟩
 rw[<-hY]at HW;have mQ:=af hY;clear hY hA hs;unfold En.agg at *;obtain⟨ax,aj,ak,aq,aw,seq,key,aM,aL,aA,ops,aN,aS,aF,aB,aG⟩:=e;unfold En.vals at HR mQ ⊢;dsimp only at *;generalize kd:Pl.cK ⟨ax,aj,ak,aq,aw,seq,key,aM,aL,aA,ops,aN,aS,aF,aB,aG⟩=rb at *;unfold fQ;by_cases hk:ax=1
 . subst hk;obtain rfl:rb=false:=(by cases rb with | false=>rfl | true=>exact absurd ⟨rfl,rfl⟩ h);clear h kd;go_in;go_upto_region 2 with fail;go_wp2_with fail;rw[<-mQ.out];refine(HR Y HW.ah (by trivial)).mono ?_;rintro e w1 ⟨rfl,aR⟩;have bM:=af (HW.br aR);have fC:=bM.lt;have a0:=bM.a0;have a1:=bM.a1;have f0:=bM.f0;have f1:=bM.f1;have n0:=bM.n0;have n1:=bM.n1;clear aR HW HR;go_wp2_with fail;refine wZ1 (v:=.tuple #[.agg #[.int .i64 0,.int .i64 0],.int .i64 4]) (by simp[results,results60,go_sem,a0,a1,f0,f1]) rfl ⟨rfl,?_⟩;exact(bM.ah.setCell (show w.heap.size<=w.heap.size+1 by omega) _).setCell (show w.heap.size<=w.heap.size+1 by omega) _
 . have hkb:(ax==1)=false:=wZ3.2 hk;clear h kd HR;go_in;go_upto_region 2 with fail;have bM:=HW;obtain⟨_⟩:True:=trivial;rw[<-mQ.out];have fC:=bM.lt;have a0:=bM.a0;have a1:=bM.a1;have f0:=bM.f0;have f1:=bM.f1;have n0:=bM.n0;have n1:=bM.n1;have c0:Y.cell? ⟨w.heap.size,0,none⟩=some (.int .i64 ax):=bM.dZ 0 _ rfl;clear HW;go_wp2_with fail;refine wZ1 (v:=.tuple #[.agg #[.int .i64 0,.int .i64 0],.int .i64 4]) (by simp[results,results60,go_sem,a0,a1,f0,f1]) rfl ⟨rfl,?_⟩;exact(bM.ah.setCell (show w.heap.size<=w.heap.size+1 by omega) _).setCell (show w.heap.size<=w.heap.size+1 by omega) _
theorem y9K (e:En){w:World}(hA:e.ax=1->b7 w e)(hs:∀o∈e.ops,o.key.size<=16777216)(Cc:∀o∈e.ops,o.val.size<=140737488351232)(at_:Int){G:Nat->Prop}{ms sb:Nat}{lo hi:ByteArray}{D P:List Pr}{S:Int->Option An}(h:fE w G ms sb lo hi D S)(I9:Pl.Tt P D)(hl:lo.size<=16777216)(hh:hi.size<=16777216)(hx:D.length<=1000):
    Calls prog 60 #[.pointer (some ⟨ms,0,none⟩),e.agg,.int .i64 at_] w fun r w'=>r=.returned (.tuple #[fQ (Pl.gj lo hi P S e at_).cI (Pl.gj lo hi P S e at_).at_,.int .i64 ((Pl.gj lo hi P S e at_).err:Nat)])/\∃D',rE w G ms sb lo hi D' (Pl.gj lo hi P S e at_).S w'/\Pl.Tt (Pl.gj lo hi P S e at_).P D':=by
 by_cases h1:e.ax=1/\Pl.cK e=true
 . by_cases h2:at_<0\/4096<=at_
   . have e1:Pl.gj lo hi P S e at_=⟨0,0,1,P,S⟩:=(by unfold Pl.gj;rw[zZ0 (not_not_intro h1),zZ1 h2]);rw[e1];refine(y8I e w (hA h1.1) hs at_ ms h1.1 h1.2 h2).mono ?_;rintro r w' ⟨hr,hg⟩;exact⟨hr,D,rE.dw h hg,I9⟩
   . have e1:(Pl.gj lo hi P S e at_).err=0:=by
      unfold Pl.gj;rw[zZ0 (not_not_intro h1),zZ0 h2];split
      . rfl
      . split
        . rfl
        . split<;> rfl
     rw[e1];exact z3G e (hA h1.1) hs Cc at_ h I9 h1.1 h1.2 (by omega) (by omega) hl hh hx
 . have e1:Pl.gj lo hi P S e at_=⟨0,0,4,P,S⟩:=(by unfold Pl.gj;rw[zZ1 h1]);rw[e1];refine(y9g e w hA hs at_ ms h1).mono ?_;rintro r w' ⟨hr,hg⟩;exact⟨hr,D,rE.dw h hg,I9⟩
section
attribute [local go_sem] bl
def qR (W:World)(L:Nat->Nat)(k ab n:Nat)(A:bC)(W':World):Prop:=ar (fun j=>cr k (L j)) W W'/\∃L',(∀j,j<W.heap.size->L' j=L j)/\(∀j,W.heap.size<=j->cr k (L' j))/\dh W' L' k ab n A
section
variable {W W':World}{L L':Nat->Nat}{k ab sb mb nb n n':Nat}{f:Lit->Option Value}{st:Nat->Nat}{A:bC}
theorem dF.answered (h:dF W L k ab sb mb nb n f st A)(hO:ar (fun j=>j=nb) W W')(hL:∀j,j<W.heap.size->L' j=L j){fa:Lit->Option Value}{m:Nat}(hm:m<=n+1)(hl:bU W' prog 3 nb m fa):dF W' L' k ab sb mb nb (n+1) f st ⟨A.at_,A.sh,A.st,fa⟩:=by
 obtain⟨F,h3,h4⟩:=h.sh;obtain⟨m1,e1,h1⟩:=h.lm;obtain⟨_,_,h2⟩:=h.la;have tab:¬ab=nb:=fun e=>by have:=h.iy;have:=h.kP;rw[e]at *;omega
 have tmb:¬mb=nb:=fun e=>by have:=h.pC;have:=h.kP;rw[e]at *;omega
 have hab:=h.wu;refine⟨(hO.cell hab tab 0).trans h.c0,(hO.cell hab tab 1).trans h.c1,(hO.cell hab tab 2).trans h.c2,(hO.cell hab tab 3).trans h.c3,fun i=>(hO.frozen hab tab i).trans (h.fz i),(hL ab hab).trans h.iy,(hL mb h1.lt).trans h.pC,(hL nb h2.lt).trans h.kP,⟨F,h3.aC hO fun j hj e=>by have a:=h4 j hj;have b:=h.kP;rw[e,b]at a;omega,fun j hj=>(hL j (h3.lt j hj)).trans (h4 j hj)⟩,⟨m1,by omega,h1.aC hO tmb⟩,h.val,h.lit,⟨m,hm,hl⟩,fun i P S hi=>?_⟩;obtain⟨i12,c,hc,bY,Ft,Fs,q,hq,hS,hB⟩:=h.bE i P S hi;have ha:=hS.all;have hn:∀j,gq Ft Fs (st i) j->¬j=nb:=fun j hj e=>by have a:=hB j hj;have b:=h.kP;rw[e,b]at a;omega
 exact⟨i12,c,hc,bY,Ft,Fs,q,by omega,hS.aC hO (fun j hj=>hn j (.inl hj)) (fun j hj=>hn j (.inr (.inl hj))) (hn _ (.inr (.inr rfl))),fun j hj=>(hL j (ha j hj)).trans (hB j hj)⟩
theorem dF.turned (h:dF W L k ab sb mb nb n f st A){T:Nat->Prop}{i:Nat}{P:List Pr}{S:Int->Option An}(hi:A.st i=some (P,S))(hO:ar T W W')(hT:∀j,j<W.heap.size->T j->L j=k+20+i)(hn:n<=n')(hL:∀j,j<W.heap.size->L' j=L j){P':List Pr}{S':Int->Option An}
    (hS:∃c∈A.sh.xs,c.id=(i:Int)/\∃Gt Gs m,m<=n'/\dE W' Gt Gs (st i) m c.lo c.hi P' S'/\∀j,gq Gt Gs (st i) j->L' j=k+20+i):dF W' L' k ab sb mb nb n' f st ⟨A.at_,A.sh,fF A.st i (some (P',S')),A.gC⟩:=by
 have hab:=h.wu;have nT:∀j,j<W.heap.size->L j≠k+20+i->¬T j:=fun j hj hl ht=>hl (hT j hj ht);have i12:=(h.bE i P S hi).1;obtain⟨F,h3,h4⟩:=h.sh;obtain⟨m1,e1,h1⟩:=h.lm;obtain⟨m2,e2,h2⟩:=h.la;have tab:=nT ab hab (by rw[h.iy];omega);refine⟨(hO.cell hab tab 0).trans h.c0,(hO.cell hab tab 1).trans h.c1,(hO.cell hab tab 2).trans h.c2,(hO.cell hab tab 3).trans h.c3,fun q=>(hO.frozen hab tab q).trans (h.fz q),(hL ab hab).trans h.iy,(hL mb h1.lt).trans h.pC,(hL nb h2.lt).trans h.kP,⟨F,h3.aC hO fun j hj=>nT j (h3.lt j hj) (by rw[h4 j hj];omega),fun j hj=>(hL j (h3.lt j hj)).trans (h4 j hj)⟩,⟨m1,by omega,h1.aC hO (nT mb h1.lt (by rw[h.pC];omega))⟩,fun j=>?_,h.lit,⟨m2,by omega,h2.aC hO (nT nb h2.lt (by rw[h.kP];omega))⟩,fun j Q U hj=>?_⟩
 . dsimp only;by_cases e:j=i
   . rw[e,mv,h.val,hi];rfl
   . rw[jW _ _ e];exact h.val j
 . dsimp only at hj ⊢;by_cases e:j=i
   . subst e;rw[mv]at hj;cases hj;exact⟨i12,hS⟩
   . rw[jW _ _ e]at hj;obtain⟨R9,c,hc,Oa,Ft,Fs,m,hm,mX,hB⟩:=h.bE j Q U hj;have ha:=mX.all;have nk:∀x,gq Ft Fs (st j) x->¬T x:=fun x hx=>nT x (ha x hx) (by rw[hB x hx];omega);exact⟨R9,c,hc,Oa,Ft,Fs,m,by omega,mX.aC hO (fun x hx=>nk x (.inl hx)) (fun x hx=>nk x (.inr (.inl hx))) (nk _ (.inr (.inr rfl))),fun x hx=>(hL x (ha x hx)).trans (hB x hx)⟩
theorem dF.gone (h:dF W L k ab sb mb nb n f st A)(a:Int):dF (W.setCell ⟨ab,0,none⟩ (.int .i64 a)) L k ab sb mb nb n f st ⟨a,A.sh,A.st,A.gC⟩:=by
 have hO:ar (fun j=>j=ab) W (W.setCell ⟨ab,0,none⟩ (.int .i64 a)):=ar.setCell W ⟨ab,0,none⟩ _;obtain⟨F,h3,h4⟩:=h.sh;obtain⟨m1,e1,h1⟩:=h.lm;obtain⟨m2,e2,h2⟩:=h.la;have nT:∀j,L j≠k->¬j=ab:=fun j hl e=>hl (by rw[e];exact h.iy);refine⟨by simp[go_sem,h.c0],by simp[go_sem,h.c1],by simp[go_sem,h.c2],by simp[go_sem,h.c3],fun q=>by rw[World.frozen?_setCell];exact h.fz q,h.iy,h.pC,h.kP,⟨F,h3.aC hO fun j hj=>nT j (by rw[h4 j hj];omega),h4⟩,⟨m1,e1,h1.aC hO (nT mb (by rw[h.pC];omega))⟩,h.val,h.lit,⟨m2,e2,h2.aC hO (nT nb (by rw[h.kP];omega))⟩,fun i P S hi=>?_⟩;obtain⟨i12,c,hc,bY,Ft,Fs,q,hq,hS,hB⟩:=h.bE i P S hi;have hn:∀j,gq Ft Fs (st i) j->¬j=ab:=fun j hj=>nT j (by rw[hB j hj];omega);exact⟨i12,c,hc,bY,Ft,Fs,q,hq,hS.aC hO (fun j hj=>hn j (.inl hj)) (fun j hj=>hn j (.inr (.inl hj))) (hn _ (.inr (.inr rfl))),hB⟩
end
end
namespace Pl
theorem Ai {xs:List Sh}(h:ix xs){k:Nat}(hk:k<xs.length){key:ByteArray}(hh:bk (ai xs k).lo (ai xs k).hi key=true):mU xs key=(k:Int):=by
 unfold mU;rw[zZ1 (uX hh).2.1];unfold dU;cases hf:xs.findIdx? (fun c=>bk c.lo c.hi key)with
 | none=>
  have:=yJ6.1 hf (ai xs k) (lL hk);rw[hh]at this;cases this
 | some i=>
  obtain⟨hi,hp,_⟩:=yQ6.1 hf;rw[<-j3 xs i hi]at hp;rw[h.uniq key i k hi hk hp hh]
theorem z5s {xs:List Sh}{key:ByteArray}(hn:¬mU xs key<0):∃k,k<xs.length/\mU xs key=(k:Int)/\bk (ai xs k).lo (ai xs k).hi key=true/\rO xs key=ai xs k:=by
 unfold rO;rw[zZ0 hn];unfold mU at *;cases hk:isKey key with
 | false=>rw[hk]at hn;simp at hn
 | true=>
  rw[hk,zZ1 rfl]at hn;rw[zZ1 rfl];unfold dU at *;cases hf:xs.findIdx? (fun c=>bk c.lo c.hi key)with
  | none=>rw[hf]at hn;simp at hn
  | some i=>
   obtain⟨hi,hp,_⟩:=yQ6.1 hf;rw[<-j3 xs i hi]at hp;exact⟨i,hi,rfl,hp,by simp⟩
def rT (A:bC)(key:ByteArray)(i:Nat):Bool:=match A.st i with | none=>false | some v=>(fl v.1 key).isSome
theorem We {A:bC}{m:Nat}(h:bV A m)(hs:∀i P S,A.st i=some (P,S)->dK P){key:ByteArray}{i:Nat}(hi:rT A key i=true):¬mU A.sh.xs key<0/\(rO A.sh.xs key).id=(i:Int):=by
 unfold rT at hi;cases hA:A.st i with
 | none=>rw[hA]at hi;cases hi
 | some v=>
  obtain⟨P,S⟩:=v;rw[hA]at hi;dsimp only at hi;obtain⟨c,hc⟩:=Option.isSome_iff_exists.1 hi;obtain⟨h1,h2⟩:=Ru (hs i P S hA) hc;obtain⟨x,hx,af⟩:=h.back i (by rw[hA];simp);obtain⟨P2,S2,hP2,iG⟩:=h.dom x hx;rw[af,zQ3,hA]at hP2;cases hP2;have hh:=iG c h1;rw[h2]at hh;obtain⟨k,hk,rfl⟩:=Cg hx;have e:=Ai h.chain hk hh;refine⟨by rw[e];omega,?_⟩;unfold rO;rw[zZ0 (by rw[e];omega),e,zQ3,af]
theorem Wf {A:bC}{m:Nat}(h:bV A m){key:ByteArray}(hn:¬mU A.sh.xs key<0):∃i:Nat,i<13/\(rO A.sh.xs key).id=(i:Int)/\∃P S,A.st i=some (P,S)/\iR A key=fl P key:=by
 obtain⟨k,hk,e,hh,ev⟩:=z5s hn;have hm:=lL hk;have af:=h.inv.ids _ hm;obtain⟨P,S,hP,iG⟩:=h.dom _ hm;refine⟨(ai A.sh.xs k).id.toNat,by omega,by rw[ev];omega,P,S,hP,?_⟩;unfold iR;rw[zZ0 hn,ev,hP]
theorem y7O {A:bC}{key:ByteArray}(hn:mU A.sh.xs key<0):iR A key=none:=by
 unfold iR;rw[zZ1 hn]
end Pl
namespace Pl
def SL (A:bC)(p:Pr):Prop:=∃i P S,A.st i=some (P,S)/\p∈P
theorem z0e {A:bC}{m:Nat}(h:bV A m)(hs:∀i P S,A.st i=some (P,S)->dK P)(key:ByteArray)(p:Pr):iR A key=some p↔SL A p/\p.key=key:=by
 constructor
 . intro hg;by_cases hn:mU A.sh.xs key<0
   . rw[y7O hn]at hg;cases hg
   . obtain⟨i,hi,af,P,S,hP,e⟩:=Wf h hn;rw[e]at hg;obtain⟨h1,h2⟩:=Ru (hs i P S hP) hg;exact⟨⟨i,P,S,hP,h1⟩,h2⟩
 . rintro ⟨⟨i,P,S,hP,hp⟩,rfl⟩;have hg:=Rv (hs i P S hP) hp;have hh:rT A p.key i=true:=(by unfold rT;rw[hP];dsimp only;rw[hg];rfl);obtain⟨hn,af⟩:=We h hs hh;obtain⟨j,hj,CC,Q,T,hQ,e⟩:=Wf h hn;obtain rfl:i=j:=(by rw[af]at CC;omega);rw[hP]at hQ;cases hQ;rw[e,hg]
end Pl
section
attribute [local go_sem] bl
theorem dF.Aj {W W':World}{L L':Nat->Nat}{k ab sb mb nb n:Nat}{f:Lit->Option Value}{st:Nat->Nat}{A:bC}(h:dF W L k ab sb mb nb n f st A)(g:ae W W')(hL:∀j,j<W.heap.size->L' j=L j):dF W' L' k ab sb mb nb n f st A:=h.aC (g.only fun _=>False) (fun _ _ h=>h.elim) hL
theorem z1Y {W:World}{L:Nat->Nat}{k ab n:Nat}{A:bC}(h:dh W L k ab n A)(e:En)(hs0:0<=e.aj)(hs1:e.aj<1000000)(hst:A.st e.aj.toNat=none)(at':Int)(h0:0<=at')(h1:at'<4096)(hn:n<=1000000):
    Calls prog 31 #[.pointer (some ⟨ab,0,none⟩),e.agg,.int .i64 at'] W fun r w'=>r=.returned .nilIface/\qR W L k ab (n+1) ⟨A.at_,A.sh,A.st,fB A.gC (bt at') (some (fQ 3 0))⟩ w':=by
 obtain⟨sb,mb,nb,f,st,h⟩:=h;have c2:=h.c2;have c3:=h.c3;have hab:=bf c2;have qy:=af (fun X (g:ae W X)=>h.look g e.aj.toNat (by omega));have e1:lZ A st e.aj.toNat=.pointer none:=by unfold lZ;rw[hst];rfl
 rw[e1,Int.toNat_of_nonneg hs0]at qy;have HH:=af h;clear h e1 hst;obtain⟨ax,aj,ak,aq,aw,seq,key,aM,aL,aA,ops,aN,aS,aF,aB,aG⟩:=e;unfold En.agg En.vals;dsimp only at *;go_in;go_upto_region 1 with fail;obtain⟨Y,hY⟩:∃Y,Y=W.alloc (.cells #[.int .i64 ax,.int .i64 aj,.int .i64 ak,.int .i64 aq,.int .i64 aw,.int .i64 seq,.slice aN ops.length aS,.string key,.int .i64 aM,.int .i64 aL,.int .i64 aA,.slice aF aB aG] 36):=⟨_,rfl⟩
 have gY:ae W Y:=by rw[hY];exact(ae.rf W).alloc _
 obtain⟨xb,eE⟩:∃xb,xb=W.heap.size:=⟨_,rfl⟩
 have X1:=bj (show Y.cell? ⟨xb,1,none⟩=some (.int .i64 aj)by rw[hY,eE];simp[go_sem]);have A2:=bj ((gY.cells.1 _ 2 hab).trans c2);have hlk:∀p:Wd (ae Y),(Instr.lookup 73 (.map (some mb)) (.int .i64 aj) false).run prog p.w=.ok (.pointer none) p.w:=fun p=>qy p.w (gY.trans p.ok);have dg:=af gY;rw[<-hY,<-eE];clear hY gY eE qy;refine pO 7 ?_;repeat (first|(refine gg ?_;intros;go_big_quiet_op;go_big_quiet_on)|(refine fZ ?_;simp only[Act.put,xB9,xC9,xD9]))
 refine jB (by rfl) ?_;intro u iH;have HU:=af (dg.trans iH);have d3:=(HU.cells.1 _ 3 hab).trans c3;have ud:=xA9 hab HU.size;obtain⟨m,hm,rU⟩:=HH.la;obtain⟨w2,hrun,r1,r2⟩:=(rU.ah HU).store (val:=.agg #[.int .i64 3,.int .i64 0]) ng underlying56 (by unfold maxLen;omega) (keyOf_int_mk underlying3 (qH (c:=at') (by omega) (by omega)));have eH:=af hrun;have HR:=af (And.intro r1 (And.intro r2 hm));clear iH X1 A2 hlk hrun r1 r2 rU hm;dsimp only[List.drop];go_wp2_with (at_mapUpdate;refine H3 rfl _ _ _ rfl rfl rfl rfl eH.out ?_);go_ret;have hO:ar (fun j=>j=nb) u w2:=ar.eh HR.2.1;refine⟨rfl,((HU.only _).then (hO.mono fun j hj=> .inl (by rw[hj];unfold cr;have:=HH.kP;omega))),fun j=>if j<W.heap.size then L j else k+50,fun j hj=>zZ1 hj,fun j hj=>?_,sb,mb,nb,f,st,?_⟩
 . dsimp only;rw[zZ0 (by omega)];unfold cr;omega
 . exact(HH.Aj HU (fun j hj=>zZ1 hj)).answered hO (fun _ _=>rfl) (by have:=HR.2.2;omega) HR.1
theorem z1B (E:Nat->Addr){W:World}(hE:bz lI E W){L:Nat->Nat}{k ab n m0:Nat}{A:bC}(h:dh W L k ab n A)(bF:bV A m0)(lW:m0<=120)(e:En)(hA:b7 W e)(hz:rJ e)(hs0:0<=e.aj)(hs1:e.aj<1000000){P:List Pr}{S:Int->Option An}(hst:A.st e.aj.toNat=some (P,S))(at':Int)(h0:0<=at')(h1:at'<4096)(hn:n<=100000):
    Calls prog 31 #[.pointer (some ⟨ab,0,none⟩),e.agg,.int .i64 at'] W fun r w'=>r=.returned (bA E (Pl.gj (Pl.cB A e.aj.toNat).lo (Pl.cB A e.aj.toNat).hi P S e at').err)/\qR W L k ab (n+2) ⟨A.at_,A.sh,fF A.st e.aj.toNat (some ((Pl.gj (Pl.cB A e.aj.toNat).lo (Pl.cB A e.aj.toNat).hi P S e at').P,(Pl.gj (Pl.cB A e.aj.toNat).lo (Pl.cB A e.aj.toNat).hi P S e at').S)),fB A.gC (bt at') (some (fQ (Pl.gj (Pl.cB A e.aj.toNat).lo (Pl.cB A e.aj.toNat).hi P S e at').cI (Pl.gj (Pl.cB A e.aj.toNat).lo (Pl.cB A e.aj.toNat).hi P S e at').at_))⟩ w':=by
 obtain⟨sb,mb,nb,f,st,h⟩:=h;have c2:=h.c2;have c3:=h.c3;have hab:=bf c2;have qy:=af (fun X (g:ae W X)=>h.look g e.aj.toNat (by omega));have e1:lZ A st e.aj.toNat=.pointer (some ⟨st e.aj.toNat,0,none⟩):=by unfold lZ;rw[hst];rfl
 rw[e1,Int.toNat_of_nonneg hs0]at qy;obtain⟨i12,c,hc,bY,Ft,Fs,m,hm,hS,hB⟩:=h.bE _ P S hst;have qT:=kE bF hc bY;rw[qT];have hsz:=bF.sz c hc;have Ef:P.length<=1000:=by
  have a:=Ed A.st e.aj.toNat (by omega);have b:=bF.few;rw[hst]at a;unfold ib at a;dsimp only at a;omega
 have Jp:=af (fun X (g:ae W X)=>z3k E e (hE.ah g) (hA.ah g) hz at' (hS.ah g) (by omega) (by omega) Ef (by omega));have HH:=af h;have HC:=af (And.intro hc bY);have HB:=af (And.intro hst (And.intro hB hS.all));have HM:=af (show m<=n from hm);clear h e1 hst qT hsz Ef hE hA hz hS hB hm bF hc bY;unfold fQ at Jp ⊢;generalize Pl.gj c.lo c.hi P S e at'=wr at *;obtain⟨wc,wa,we,wP,wS⟩:=wr;dsimp only at *;generalize bA E we=ev at *;generalize e.aj.toNat=i at *;obtain⟨sp,hsp⟩:∃sp,st i=sp:=⟨_,rfl⟩
 rw[hsp]at qy Jp HB;obtain⟨ax,aj,ak,aq,aw,seq,key,aM,aL,aA,ops,aN,aS,aF,aB,aG⟩:=e;unfold En.agg En.vals at *;dsimp only at *;go_in;go_upto_region 1 with fail;obtain⟨Y,hY⟩:∃Y,Y=W.alloc (.cells #[.int .i64 ax,.int .i64 aj,.int .i64 ak,.int .i64 aq,.int .i64 aw,.int .i64 seq,.slice aN ops.length aS,.string key,.int .i64 aM,.int .i64 aL,.int .i64 aA,.slice aF aB aG] 36):=⟨_,rfl⟩
 have gY:ae W Y:=by rw[hY];exact(ae.rf W).alloc _
 obtain⟨xb,eE⟩:∃xb,xb=W.heap.size:=⟨_,rfl⟩
 have HX:=af (show ∀q v,(#[.int .i64 ax,.int .i64 aj,.int .i64 ak,.int .i64 aq,.int .i64 aw,.int .i64 seq,.slice aN ops.length aS,.string key,.int .i64 aM,.int .i64 aL,.int .i64 aA,.slice aF aB aG]:Array Value)[q]? =some v->Y.cell? ⟨xb,q,none⟩=some v from fun q v hv=>by
  rw[hY,eE,wQ1 _ _ q _ _ _ (wZ0 W _)];simpa using hv)
 have X1:=bj (HX 1 _ rfl);have A2:=bj ((gY.cells.1 _ 2 hab).trans c2);have hlk:∀p:Wd (ae Y),(Instr.lookup 73 (.map (some mb)) (.int .i64 aj) false).run prog p.w=.ok (.pointer (some ⟨sp,0,none⟩)) p.w:=fun p=>qy p.w (gY.trans p.ok);have dg:=af gY;have ir:xb<Y.heap.size:=by rw[hY,eE];simp
 rw[<-hY,<-eE];clear hY gY eE qy;refine pO 7 ?_;repeat (first|(refine gg ?_;intros;go_big_quiet_op;go_big_quiet_on)|(refine fZ ?_;simp only[Act.put,xB9,xC9,xD9]))
 refine jB (by rfl) ?_;intro u iH;have HU:=af (dg.trans iH);have x0:=(iH.cells.1 _ 0 ir).trans (HX 0 _ rfl);have x1:=(iH.cells.1 _ 1 ir).trans (HX 1 _ rfl);have x2:=(iH.cells.1 _ 2 ir).trans (HX 2 _ rfl);have x3:=(iH.cells.1 _ 3 ir).trans (HX 3 _ rfl);have x4:=(iH.cells.1 _ 4 ir).trans (HX 4 _ rfl);have x5:=(iH.cells.1 _ 5 ir).trans (HX 5 _ rfl);have x6:=(iH.cells.1 _ 6 ir).trans (HX 6 _ rfl);have x7:=(iH.cells.1 _ 7 ir).trans (HX 7 _ rfl);have x8:=(iH.cells.1 _ 8 ir).trans (HX 8 _ rfl);have x9:=(iH.cells.1 _ 9 ir).trans (HX 9 _ rfl);have qU:=(iH.cells.1 _ 10 ir).trans (HX 10 _ rfl);have qV:=(iH.cells.1 _ 11 ir).trans (HX 11 _ rfl);have wB:=xA9 ir iH.size;have ud:=xA9 hab HU.size;clear iH X1 A2 hlk;dsimp only[List.drop];go_wp2_with fail;refine(Jp u HU).mono ?_;rintro r w1 ⟨rfl,q,hq,hW⟩;obtain⟨iJ,Gt,hS1,gh⟩:=hW;have Ak:∀j,(j=sp\/Fs j)->L j=k+20+i:=fun j hj=>HB.2.1 j (by rcases hj with e | e;exact .inr (.inr e);exact .inr (.inl e));have qA:¬(ab=sp\/Fs ab):=fun hj=>by have:=Ak ab hj;have:=HH.iy;omega
 have d3:=(iJ.cell ud qA 3).trans ((HU.cells.1 _ 3 hab).trans c3);have Eg:=xA9 ud iJ.size;have vP:=af (show ar (fun j=>j=sp\/Fs j) W w1 from(HU.only _).then iJ);have MG:=af (show dF w1 (fun j=>if j<W.heap.size then L j else k+20+i) k ab sb mb nb (n+1) f st ⟨A.at_,A.sh,fF A.st i (some (wP,wS)),A.gC⟩by
  refine HH.turned HB.1 vP (fun j _ hj=>Ak j hj) (by omega) (fun j hj=>zZ1 hj) ⟨c,HC.1,HC.2,Gt,Fs,q,by have:=HM.out;omega,by rw[hsp];exact hS1,fun j hj=>?_⟩;rw[hsp]at hj;have hall:=HB.2.2;rcases hj with z | z | z
  . rcases gh j z with y | y
    . rw[zZ1 (hall j (.inl y))];exact HB.2.1 j (.inl y)
    . have:=HU.size;rw[zZ0 (by omega)]
  . rw[zZ1 (hall j (.inr (.inl z)))];exact HB.2.1 j (.inr (.inl z))
  . rw[zZ1 (hall j (.inr (.inr z)))];exact HB.2.1 j (.inr (.inr z)))
 clear x0 x1 x2 x3 x4 x5 x6 x7 x8 x9 qU qV wB iJ hS1 gh Ak qA Jp HX ir;go_upto_region 6 with fail;obtain⟨Z,hZ⟩:∃Z,Z=w1.alloc (.cells #[.int .i64 wc,.int .i64 wa] 50):=⟨_,rfl⟩
 have gZ:ae w1 Z:=by rw[hZ];exact(ae.rf w1).alloc _
 obtain⟨zb,hzb⟩:∃zb,zb=w1.heap.size:=⟨_,rfl⟩
 have z0:Z.cell? ⟨zb,0,none⟩=some (.int .i64 wc):=by rw[hZ,hzb];simp[go_sem]
 have z1:Z.cell? ⟨zb,1,none⟩=some (.int .i64 wa):=by rw[hZ,hzb];simp[go_sem]
 have A3:=bj ((gZ.cells.1 _ 3 Eg).trans d3);have Z0:=bj z0;have Z1:=bj z1;have jd:=af gZ;rw[<-hZ,<-hzb];clear hZ hzb gZ z0 z1;refine pO 6 ?_;repeat (first|(refine gg ?_;intros;go_big_quiet_op;go_big_quiet_on)|(refine fZ ?_;simp only[Act.put,xB9,xC9,xD9]))
 refine jB (by rfl) ?_;intro v Eh;have HV:=af (jd.trans Eh);obtain⟨ma,Ob,rU⟩:=MG.la;obtain⟨w2,hrun,r1,r2⟩:=(rU.ah HV).store (val:=.agg #[.int .i64 wc,.int .i64 wa]) ng underlying56 (by unfold maxLen;omega) (keyOf_int_mk underlying3 (qH (c:=at') (by omega) (by omega)));have eH:=af hrun;have HR:=af (And.intro r1 (And.intro r2 Ob));clear Eh A3 Z0 Z1 hrun r1 r2 rU Ob;dsimp only[List.drop];go_wp2_with (at_mapUpdate;refine H3 rfl _ _ _ rfl rfl rfl rfl eH.out ?_);go_ret;have gN:ar (fun j=>j=nb) v w2:=ar.eh HR.2.1;have hWs:=vP.size;refine⟨rfl,((vP.mono fun j hj=> .inl ?_).then (HV.only _)).then (gN.mono fun j hj=> .inl (by rw[hj];unfold cr;have:=HH.kP;omega)),fun j=>if j<w1.heap.size then(if j<W.heap.size then L j else k+20+i)else k+50,fun j hj=>?_,fun j hj=>?_,sb,mb,nb,f,st,?_⟩
 . have:L j=k+20+i:=HB.2.1 j (by rcases hj with e | e;exact .inr (.inr e);exact .inr (.inl e));unfold cr;omega
 . dsimp only;rw[zZ1 (by omega),zZ1 hj]
 . dsimp only;unfold cr;repeat' split
   all_goals omega
 . exact(MG.Aj HV (fun j hj=>zZ1 hj)).answered gN (fun _ _=>rfl) (by have:=HR.2.2;omega) HR.1
end
end Go.Proofs.YtgegogoanbamfaaGreatDoor
