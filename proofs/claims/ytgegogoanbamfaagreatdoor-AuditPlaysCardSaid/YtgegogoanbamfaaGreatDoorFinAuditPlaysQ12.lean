/- Part 12. -/
import Derived.Test.YtgegogoanbamfaaGreatDoorFinAuditPlaysQ4
import Derived.Test.YtgegogoanbamfaaGreatDoorFinAuditPlaysQ7
import Derived.Deep.DeepCutAuto
set_option linter.unusedVariables false
set_option linter.unusedSectionVars false
set_option linter.unusedSimpArgs false
set_option maxRecDepth 100000
set_option maxHeartbeats 16000000
namespace Go.Proofs.YtgegogoanbamfaaGreatDoor
namespace Pl
end Pl
open Pl Go.Proofs.Tryz Go.RowKit Go.Maps
attribute [local go_sem] Oper.semAt_some
theorem Ca (n most:Int)(w:World):Calls prog 58 #[.int .i64 n,.int .i64 most] w fun e w'=>e=.returned (.bool (Pl.dW n most))/\w=w':=by
 by_cases h1:1<=n
 . by_cases h2:n<=most
   . have e:Pl.dW n most=true:=(by unfold Pl.dW;rw[wZ5 h1,wZ5 h2];rfl);rw[e];clear e;go_in;go_wp2_with fail;go_ret;exact⟨rfl,rfl⟩
   . have e:Pl.dW n most=false:=(by unfold Pl.dW;rw[wZ5 h1,wZ6 h2];rfl);rw[e];clear e;go_in;go_wp2_with fail;go_ret;exact⟨rfl,rfl⟩
 . have e:Pl.dW n most=false:=(by unfold Pl.dW;rw[wZ6 h1];rfl);rw[e];clear e;go_in;go_wp2_with fail;go_ret;exact⟨rfl,rfl⟩
theorem z2H (s:ByteArray)(w:World)(hs:s.size<=16777216):Calls prog 59 #[.string s] w fun e w'=>e=.returned (.bool (decide (Pl.aT s=0)))/\ae w w':=by
 have H:=af (za s w hs);have HZ:Hid ((((Pl.aT s:Nat):Int)==0)=decide (Pl.aT s=0)):=by unfold Hid;by_cases h:Pl.aT s=0<;> simp[h]
 generalize Pl.aT s=k at *;go_in;go_wp2_with fail;refine H.mono ?_;rintro e w1 ⟨rfl,hg⟩;go_wp2_with fail;go_ret;exact⟨bS HZ,hg⟩
structure ly (e:En):Prop where
 key:e.key.size<=16777216
 ops:∀o∈e.ops,o.key.size<=16777216
theorem z5i (p:cf->Bool)(xs:List cf)(k:Nat)(h:k<xs.length):(xs.take (k+1)).any p=((xs.take k).any p || p (bO xs k)):=by
 rw[zX1 h,BL xs k h,xZ4];simp
theorem DF (p:cf->Bool)(xs:List cf)(k:Nat)(h:k<xs.length)(hp:p (bO xs k)=true):xs.any p=true:=by
 rw[BL xs k h]at hp;exact zK9.2 ⟨xs[k],zQ4 h,hp⟩
theorem RJ (e:En)(w:World)(hA:b7 w e)(hs1:e.ax=3->e.key.size<=16777216)(hs2:∀o∈e.ops,o.key.size<=16777216):
    Calls prog 27 #[e.agg] w fun r w'=>r=.returned (.bool (Pl.cK e))/\ae w w':=by
 obtain⟨ax,aj,ak,aq,aw,seq,key,aM,aL,aA,ops,aN,aS,aF,aB,aG⟩:=e;obtain⟨hA,jT,eK,hk⟩:=hA;dsimp only at hA jT eK hk hs1 hs2;have HK:=af (fun(h:ax=3) W=>z2H key W (hs1 h));clear hs1;have HR:Hid (Pl.cK ⟨ax,aj,ak,aq,aw,seq,key,aM,aL,aA,ops,aN,aS,aF,aB,aG⟩=(if ax=1 then Pl.mH aj aw seq ops else if ax=2 then Pl.dW aj 12 && Pl.dW aq 4 else if ax=3 then(Pl.dW aj 12 && Pl.dW ak 12 && (aj !=ak)) && Pl.dW aq 4 && decide (Pl.aT key=0)else if ax=4 then(Pl.dW aj 12 && Pl.dW ak 12 && (aj !=ak))else if ax=5 then sZ aj aM aA aL aB else false)):=by
  unfold Hid Pl.cK vJ sY vK;rfl
 generalize Pl.cK ⟨ax,aj,ak,aq,aw,seq,key,aM,aL,aA,ops,aN,aS,aF,aB,aG⟩=rb at HR ⊢;unfold En.agg En.vals;dsimp only;go_in;go_upto_region 1 with fail;go_cut [3] (fun s3 wx=>s3=.bool (Pl.dW aj 12 && Pl.dW ak 12 && (aj !=ak))/\wx=w.alloc (.cells #[.int .i64 ax,.int .i64 aj,.int .i64 ak,.int .i64 aq,.int .i64 aw,.int .i64 seq,.slice aN ops.length aS,.string key,.int .i64 aM,.int .i64 aL,.int .i64 aA,.slice aF aB aG] 36));case first=>
  go_wp2_with fail;refine(Ca _ _ _).mono ?_;rintro r w1 ⟨rfl,rfl⟩;cases h0:Pl.dW aj 12 with
  | false=>
   go_wp2_with fail;go_meet;exact⟨by simp[h0],rfl⟩
  | true=>
   go_wp2_with fail;refine(Ca _ _ _).mono ?_;rintro r w1 ⟨rfl,rfl⟩;cases h1:Pl.dW ak 12 with
   | false=>
    go_wp2_with fail;go_meet;exact⟨by simp[h0,h1],rfl⟩
   | true=>
    go_wp2_with fail;go_meet;exact⟨by simp[h0,h1],rfl⟩
 case rest=>
  obtain⟨rfl,rfl⟩:=hcut;have HA:=af (hA.ah ((ae.rf w).alloc (.cells #[.int .i64 ax,.int .i64 aj,.int .i64 ak,.int .i64 aq,.int .i64 aw,.int .i64 seq,.slice aN ops.length aS,.string key,.int .i64 aM,.int .i64 aL,.int .i64 aA,.slice aF aB aG] 36)));have HG:Hid (ae w (w.alloc (.cells #[.int .i64 ax,.int .i64 aj,.int .i64 ak,.int .i64 aq,.int .i64 aw,.int .i64 seq,.slice aN ops.length aS,.string key,.int .i64 aM,.int .i64 aL,.int .i64 aA,.slice aF aB aG] 36))):=(ae.rf w).alloc _;clear hA;generalize (Pl.dW aj 12 && Pl.dW ak 12 && (aj !=ak))=two at *;by_cases k1:ax=1
  . subst k1;have jf:Hid (rb=Pl.mH aj aw seq ops):=HR.out;clear HR;have HF:Hid ((Pl.dW aj 12 && Pl.dW aw 4 && Pl.dW seq 1073741824 && Pl.dW ops.length 8)=false->rb=false):=fun h=>by rw[jf.out];unfold Pl.mH;rw[h];rfl
    go_wp2_with fail;refine(Ca _ _ _).mono ?_;rintro r w1 ⟨rfl,rfl⟩;cases h0:Pl.dW aj 12 with
    | false=>
     go_wp2_with fail;go_ret;exact⟨bS (HF (by simp[h0])).symm,HG⟩
    | true=>
     go_wp2_with fail;refine(Ca _ _ _).mono ?_;rintro r w1 ⟨rfl,rfl⟩;cases h1:Pl.dW aw 4 with
     | false=>
      go_wp2_with fail;go_ret;exact⟨bS (HF (by simp[h1])).symm,HG⟩
     | true=>
      go_wp2_with fail;refine(Ca _ _ _).mono ?_;rintro r w1 ⟨rfl,rfl⟩;cases h2:Pl.dW seq 1073741824 with
      | false=>
       go_wp2_with fail;go_ret;exact⟨bS (HF (by simp[h2])).symm,HG⟩
      | true=>
       go_wp2_with fail;refine(Ca _ _ _).mono ?_;rintro r w1 ⟨rfl,rfl⟩;cases h3:Pl.dW (ops.length:Int) 8 with
       | false=>
        go_wp2_with fail;go_ret;exact⟨bS (HF (by simp[h3])).symm,HG⟩
       | true=>
        have yR:Hid (rb=!(ops.any fun o=>!Pl.lf o)):=(by rw[jf.out];unfold Hid Pl.mH;rw[h0,h1,h2,h3];rfl);clear jf HF h0 h1 h2 h3;have tN:ops.length<=1000000:=jT;have j0a:(ops.length:Int)<=1000000:=(by omega);have RL:=af (And.intro eK hs2);clear eK hs2 jT;have hw0:w.heap.size<(w.alloc (.cells #[.int .i64 1,.int .i64 aj,.int .i64 ak,.int .i64 aq,.int .i64 aw,.int .i64 seq,.slice aN ops.length aS,.string key,.int .i64 aM,.int .i64 aL,.int .i64 aA,.slice aF aB aG] 36)).heap.size:=(by simp);have c6:(w.alloc (.cells #[.int .i64 1,.int .i64 aj,.int .i64 ak,.int .i64 aq,.int .i64 aw,.int .i64 seq,.slice aN ops.length aS,.string key,.int .i64 aM,.int .i64 aL,.int .i64 aA,.slice aF aB aG] 36)).cell? ⟨w.heap.size,6,none⟩=some (.slice aN ops.length aS):=(by simp[go_sem]);generalize hW:w.alloc _=W0 at *;clear hW;go_wp2_with fail;go_loopw [52] (fun i wr=>∃k:Nat,k<=ops.length/\i=.int .i64 k/\Hid ((ops.take k).any (fun o=>!Pl.lf o)=false)/\ae W0 wr) (fun i _=>ops.length - (intOf i).toNat);exact⟨0,zZ5 _,rfl,rfl,ae.rf _⟩;obtain⟨k,fV,rfl,HN,hG⟩:=hrel;by_cases az:k<ops.length;rotate_left
        . obtain rfl:k=ops.length:=(by omega);have HE:Hid (true=rb):=(by have:=HN.out;rw[zQ1]at this;rw[yR.out,this];rfl);go_wp2_with fail;go_ret;exact⟨bS HE,HG.trans hG⟩
        rcases HA.out with h0 | ⟨b,off,rfl,hb,hR⟩
        . rw[h0]at az;simp at az
        have q0:=(hG.cells.1 b (off+k*5) hb).trans (hR.ax k az);have q1:=(hG.cells.1 b (off+k*5+1) hb).trans (hR.key k az);have q2:=(hG.cells.1 b (off+k*5+2) hb).trans (hR.val k az);have q3:=(hG.cells.1 b (off+k*5+3) hb).trans (hR.old k az);have q4:=(hG.cells.1 b (off+k*5+4) hb).trans (hR.eI k az);have HB:=af (fun(h:Pl.lf (bO ops k)=false)=>show false=rb by rw[yR.out,DF _ ops k az (by rw[h];rfl)];rfl);have HC:Hid (Pl.lf (bO ops k)=true->(ops.take (k+1)).any (fun o=>!Pl.lf o)=false):=fun h=>by rw[z5i _ ops k az,HN.out,h];rfl
        have HKO:=af (fun W=>z2H (bO ops k).key W (RL.2 _ (BM ops k az)));obtain⟨_,z2,z3⟩:=RL.1 _ (BM ops k az);clear hR;generalize bO ops k=o at *;obtain⟨on,ok,ov,od,or'⟩:=o;dsimp only at *;unfold Pl.lf at HB HC;dsimp only at HB HC;go_wp2_with fail;refine(HKO _).mono ?_;rintro r w1 ⟨rfl,aR⟩;have hz:wr.heap.size<w1.heap.size:=(by have:=aR.size;simp at this;omega);have p0:w1.cell? ⟨wr.heap.size,0,none⟩=some (.int .i64 on):=(by rw[aR.cells.1 _ _ (by simp)];simp[go_sem]);have p1:w1.cell? ⟨wr.heap.size,1,none⟩=some (.string ok):=(by rw[aR.cells.1 _ _ (by simp)];simp[go_sem]);have p2:w1.cell? ⟨wr.heap.size,2,none⟩=some (.string ov):=(by rw[aR.cells.1 _ _ (by simp)];simp[go_sem]);have p3:w1.cell? ⟨wr.heap.size,3,none⟩=some (.string od):=(by rw[aR.cells.1 _ _ (by simp)];simp[go_sem]);have p4:w1.cell? ⟨wr.heap.size,4,none⟩=some (.int .i64 or'):=(by rw[aR.cells.1 _ _ (by simp)];simp[go_sem]);have ct:=af ((hG.alloc _).trans aR);clear aR q0 q1 q2 q3 q4;by_cases dO:Pl.aT ok=0
        . have TW:decide (Pl.aT ok=0)=true:=wZ5 dO;by_cases n1:on=1
          . subst n1;by_cases v1:(ov.size:Int)<=64
            . have Ns:decide ((ov.size:Int)<=64)=true:=wZ5 v1;have uT:=af (HC (by simp[dO,show ov.size<=64 by omega]));go_wp2_with fail;go_roundw;case rel=>exact⟨k+1,by omega,by go_num,uT,ct⟩
              case measure=>simp[intOf];omega
            . have Ns:decide ((ov.size:Int)<=64)=false:=wZ6 v1;go_wp2_with fail;go_ret;exact⟨bS (HB (by simp[dO,show 64<ov.size by omega])),HG.trans ct⟩
          by_cases n2:on=2
          . subst n2
            . have uT:=af (HC (by simp[dO]));go_wp2_with fail;go_roundw;case rel=>exact⟨k+1,by omega,by go_num,uT,ct⟩
              case measure=>simp[intOf];omega
          by_cases n3:on=3
          . subst n3;by_cases v1:(ov.size:Int)<=64;rotate_left
            . have Ns:decide ((ov.size:Int)<=64)=false:=wZ6 v1;go_wp2_with fail;go_ret;exact⟨bS (HB (by simp[dO];omega)),HG.trans ct⟩
            have Ns:decide ((ov.size:Int)<=64)=true:=wZ5 v1;by_cases v2:(od.size:Int)<=64
            . have Vm:decide ((od.size:Int)<=64)=true:=wZ5 v2;have uT:=af (HC (by simp[dO,show ov.size<=64 by omega,show od.size<=64 by omega]));go_wp2_with fail;go_roundw;case rel=>exact⟨k+1,by omega,by go_num,uT,ct⟩
              case measure=>simp[intOf];omega
            . have Vm:decide ((od.size:Int)<=64)=false:=wZ6 v2;go_wp2_with fail;go_ret;exact⟨bS (HB (by simp[dO];omega)),HG.trans ct⟩
          by_cases n4:on=4
          . subst n4;by_cases v1:0<=or';rotate_left
            . have Ns:decide (0<=or')=false:=wZ6 v1;go_wp2_with fail;go_ret;exact⟨bS (HB (by simp[dO];omega)),HG.trans ct⟩
            have Ns:decide (0<=or')=true:=wZ5 v1;by_cases v2:or'<=4096
            . have Vm:decide (or'<=4096)=true:=wZ5 v2;have uT:=af (HC (by simp[dO,v1,v2]));go_wp2_with fail;go_roundw;case rel=>exact⟨k+1,by omega,by go_num,uT,ct⟩
              case measure=>simp[intOf];omega
            . have Vm:decide (or'<=4096)=false:=wZ6 v2;go_wp2_with fail;go_ret;exact⟨bS (HB (by simp[dO];omega)),HG.trans ct⟩
          have e1:(on==1)=false:=wZ3.2 n1;have e2:(on==2)=false:=wZ3.2 n2;have e3:(on==3)=false:=wZ3.2 n3;have e4:(on==4)=false:=wZ3.2 n4;have qp:=af (HB (by simp[n1,n2,n3,n4]));clear HC HB n1 n2 n3 n4;go_wp2_with fail;go_ret;exact⟨bS qp,HG.trans ct⟩
        . have TW:decide (Pl.aT ok=0)=false:=wZ6 dO;by_cases n1:on=1
          . subst n1;clear HC
            . go_wp2_with fail;go_ret;exact⟨bS (HB (by simp[dO])),HG.trans ct⟩
          by_cases n2:on=2
          . subst n2;clear HC
            . go_wp2_with fail;go_ret;exact⟨bS (HB (by simp[dO])),HG.trans ct⟩
          by_cases n3:on=3
          . subst n3;clear HC
            . go_wp2_with fail;go_ret;exact⟨bS (HB (by simp[dO])),HG.trans ct⟩
          by_cases n4:on=4
          . subst n4;clear HC
            . go_wp2_with fail;go_ret;exact⟨bS (HB (by simp[dO])),HG.trans ct⟩
          have e1:(on==1)=false:=wZ3.2 n1;have e2:(on==2)=false:=wZ3.2 n2;have e3:(on==3)=false:=wZ3.2 n3;have e4:(on==4)=false:=wZ3.2 n4;have qp:=af (HB (by simp[n1,n2,n3,n4]));clear HC HB n1 n2 n3 n4;go_wp2_with fail;go_ret;exact⟨bS qp,HG.trans ct⟩
  by_cases k2:ax=2
  . subst k2;have jf:Hid (rb=(Pl.dW aj 12 && Pl.dW aq 4)):=HR.out;clear HR k1;go_wp2_with fail;refine(Ca _ _ _).mono ?_;rintro r w1 ⟨rfl,rfl⟩;cases h0:Pl.dW aj 12 with
    | false=>
     go_wp2_with fail;go_ret;exact⟨bS (by rw[jf.out];simp[h0]),HG⟩
    | true=>
     go_wp2_with fail;refine(Ca _ _ _).mono ?_;rintro r w1 ⟨rfl,rfl⟩;go_wp2_with fail;go_ret;exact⟨bS (by rw[jf.out];simp[h0]),HG⟩
  by_cases k3:ax=3
  . subst k3;have jf:Hid (rb=(two && Pl.dW aq 4 && decide (Pl.aT key=0))):=HR.out;clear HR k1 k2;cases two with
    | false=>
     go_wp2_with fail;go_ret;exact⟨bS (by rw[jf.out];simp),HG⟩
    | true=>
     go_wp2_with fail;refine(Ca _ _ _).mono ?_;rintro r w1 ⟨rfl,rfl⟩;cases h0:Pl.dW aq 4 with
     | false=>
      go_wp2_with fail;go_ret;exact⟨bS (by rw[jf.out];simp[h0]),HG⟩
     | true=>
      go_wp2_with fail;refine(HK (by trivial) _).mono ?_;rintro r w1 ⟨rfl,hg⟩;go_wp2_with fail;go_ret;exact⟨bS (by rw[jf.out];simp[h0]),HG.trans hg⟩
  by_cases k4:ax=4
  . subst k4;have jf:Hid (rb=two):=HR.out;clear HR k1 k2 k3;go_wp2_with fail;go_ret;exact⟨bS jf.symm,HG⟩
  by_cases k5:ax=5
  . subst k5;have jf:Hid (rb=sZ aj aM aA aL aB):=HR.out;clear HR k1 k2 k3 k4;have HF:Hid (∀b,(b=true↔(0<=aj/\aj<=12/\0<=aM/\aM<=4096/\Pl.dW aA 64=true/\0<=aL/\aL<aA/\(aB:Int)<=256))->b=rb):=fun b hb=>by
     rw[jf.out,zK4,hb];unfold sZ Pl.dW;simp only[zZ7,yZ0,beq_iff_eq,wZ2];omega
    have IW:Hid (¬(0<=aj/\aj<=12/\0<=aM/\aM<=4096/\Pl.dW aA 64=true/\0<=aL/\aL<aA)->false=rb):=fun h=>HF false ⟨fun h=>(by cases h),fun k=>absurd ⟨k.1,k.2.1,k.2.2.1,k.2.2.2.1,k.2.2.2.2.1,k.2.2.2.2.2.1,k.2.2.2.2.2.2.1⟩ h⟩;by_cases h1:0<=aj;rotate_left
    . go_wp2_with fail;go_ret;exact⟨bS (IW (by omega)),HG⟩
    by_cases h2:aj<=12;rotate_left
    . go_wp2_with fail;go_ret;exact⟨bS (IW (by omega)),HG⟩
    by_cases h3:0<=aM;rotate_left
    . go_wp2_with fail;go_ret;exact⟨bS (IW (by omega)),HG⟩
    by_cases h4:aM<=4096;rotate_left
    . go_wp2_with fail;go_ret;exact⟨bS (IW (by omega)),HG⟩
    go_wp2_with fail;refine(Ca _ _ _).mono ?_;rintro r w1 ⟨rfl,rfl⟩;cases h5:Pl.dW aA 64 with
    | false=>
     go_wp2_with fail;go_ret;exact⟨bS (IW (by rw[h5];simp)),HG⟩
    | true=>
     by_cases h6:0<=aL;rotate_left
     . go_wp2_with fail;go_ret;exact⟨bS (IW (by omega)),HG⟩
     by_cases h7:aL<aA;rotate_left
     . go_wp2_with fail;go_ret;exact⟨bS (IW (by omega)),HG⟩
     go_wp2_with fail;go_ret;exact⟨bS (HF _ (by simp[h1,h2,h3,h4,h5,h6,h7])),HG⟩
  have jf:Hid (rb=false):=by have:=HR.out;rw[zZ0 k1,zZ0 k2,zZ0 k3,zZ0 k4,zZ0 k5]at this;exact this
  have e1:(ax==1)=false:=wZ3.2 k1;have e2:(ax==2)=false:=wZ3.2 k2;have e3:(ax==3)=false:=wZ3.2 k3;have e4:(ax==4)=false:=wZ3.2 k4;have e5:(ax==5)=false:=wZ3.2 k5;clear HR k1 k2 k3 k4 k5;go_wp2_with fail;go_ret;exact⟨bS jf.symm,HG⟩
theorem Vn (e:En)(w:World)(hA:b7 w e)(hs:ly e):
    Calls prog 27 #[e.agg] w fun r w'=>r=.returned (.bool (Pl.cK e))/\ae w w':=RJ e w hA (fun _=>hs.key) hs.ops
end Go.Proofs.YtgegogoanbamfaaGreatDoor
namespace Go.Proofs.YtgegogoanbamfaaGreatDoor.Fe
open Go
theorem z6z {a b:Bool}(h1:a=true)(h2:b=true):(a && b)=true:=by rw[h1,h2];rfl
theorem closed:joinedFacts Tryz.pinned.checked.prog 3 Tryz.f3 Rows.auditPlaysSpec Rows.auditPlaysRow=true:=by
 unfold joinedFacts;iterate 31 (refine z6z ?_ (by as_aux_lemma=>kernel_rfl))
 kernel_rfl
end Go.Proofs.YtgegogoanbamfaaGreatDoor.Fe
