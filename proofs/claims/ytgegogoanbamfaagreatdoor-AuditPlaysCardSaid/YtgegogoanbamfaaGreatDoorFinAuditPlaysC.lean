/- tidewaterlaw30.AuditPlays returns true, for every list of acts and everything that is asked at its end; the program's sentinels lie as its own text lays them. -/
import Derived.Test.YtgegogoanbamfaaGreatDoorFinAuditPlaysQ19
set_option linter.unusedVariables false
set_option linter.unusedSectionVars false
set_option linter.unusedSimpArgs false
set_option maxRecDepth 100000
set_option maxHeartbeats 16000000
namespace Go.Proofs.YtgegogoanbamfaaGreatDoor.finAuditPlays
open Go.ChangeShapes Go.WideShapes Go.ChangeAt Go.RowKit
open Go.ChangeMaps (open_string shut_string)
open Go.Proofs.YtgegogoanbamfaaGreatDoor.Fe
theorem lifted (os:Os)(started:os.Started)(H:Type)(enc:TypeId×Value->H):
    ReturnsInHanded {} Tryz.checked os 3 .any (fun w args=>(Rows.auditPlaysSpec.pre enc Tryz.prog Tryz.f3 [] false w args/\laidMetH Tryz.prog Rows.auditPlaysRow.laid w)/\sizedMet enc Tryz.prog Tryz.f3 (OpenSpec.ofChange Rows.auditPlaysSpec) false w args)
     (Rows.auditPlaysSpec.post enc Tryz.prog Tryz.f3 false true false false):=by
 refine returnsInHanded_of_change_and (C:=Tryz.checked) (X:=fun w _=>laidMetH Tryz.prog Rows.auditPlaysRow.laid w) (fun _ _ _ hh h=>h.of_heap hh) own started (by kernel_rfl) Tryz.func3
  (ChangeSpec.witness_shaped (enc:=enc) (C:=Tryz.checked) (os:=os) (X:=fun w _=>laidMetH Tryz.prog Rows.auditPlaysRow.laid w) false (World.doorLaid Tryz.prog 400 os) #[.slice none 0 0,.agg #[.string ⟨#[]⟩,.string ⟨#[]⟩,.string ⟨#[]⟩,.int .i64 0]] 8 rfl (World.shaped_of_RefB (by kernel_rfl) (by kernel_rfl)) (by kernel_rfl) (by kernel_rfl) (by kernel_rfl) (BI os _)) ?_
 intro W base args ds gs before G0 hW _ Yp hL _;have hval:∀(j:Nat) t v,Tryz.f3.params[j]? =some t->args[j]? =some v->Value.okWide Tryz.prog W .any base t v:=G0;have hW':=hW;have hsz:(DataW.weightsEach Tryz.prog (Tryz.f3.params.toList++Rows.auditPlaysSpec.plain.varTypes Tryz.prog) (ds++gs)).all (·<=reachBytes)=true:=Yp;obtain⟨p,q,hA0,hV,rfl,Je,qD⟩:=hW;have hA:DataW.TrodAll enc Tryz.prog W 0 (fun _=>true) true Tryz.f3.params.toList args.toList ds p:=hA0;rw[Tryz.params3]at hA hval hsz;obtain⟨v0,TE,d0,ds0,p0,q0,j0c,rfl,rfl,h0,r0⟩:=trodAll_cons hA;obtain⟨v1,vs1,d1,ds1,p1,q1,rfl,rfl,rfl,h1,r1⟩:=trodAll_cons r0;obtain⟨rfl,rfl,rfl⟩:=trodAll_nil r1;obtain rfl:args=#[v0,v1]:=by cases args;simp_all
 obtain⟨rfl,rfl⟩:=trodVars_none hV;have k0:=h0;have lt0:∀x∈p0,x.block<W.heap.size:=by obtain⟨m,hm⟩:=k0;exact DataW.trod_lt m _ _ _ hm
 have k1:=h1;have lt1:∀x∈p1,x.block<W.heap.size:=by obtain⟨m,hm⟩:=k1;exact DataW.trod_lt m _ _ _ hm
 obtain⟨a,cap,xs,rfl,Su,jC,Yq,vZ⟩:=z2a (hval 0 22 v0 rfl rfl) h0;have dI:xs.length*144<=140737488351232:=by
  rcases vZ with rfl | ⟨es,sp,hd,hes⟩
  . simp
  . have:=sized_slice hsz (j:=0) (t:=22) rfl (by rw[hd];rfl) Tryz.underlying22;rw[z1o,hes]at this;have h2:reachBytes=140737488351232:=rfl;rw[h2]at this;have h3:xs.length*144<=(xs.length+sp.length)*144:=xQ9 _ (Nat.le_add_right _ _);omega
 obtain⟨cs,rfl,hcs⟩:=okWide_struct Tryz.underlying26 (hval 1 26 v1 rfl rfl);have Yr:∃key lo hi aI,cs=#[.string key,.string lo,.string hi,.int .i64 aI]/\key.size<=9223372036854775807/\lo.size<=9223372036854775807/\hi.size<=9223372036854775807/\(Lit.int .i64 aI).wf=true:=by
  obtain⟨fuel,hf⟩:=h1;obtain⟨key,lo,hi,aI,he,h2⟩:=z3S (by simpa[Value.cells,z1r]using hcs) hf;refine⟨key,lo,hi,aI,?_,h2⟩;have:cs.toList=[.string key,.string lo,.string hi,.int .i64 aI]:=by simpa[Value.cells]using he
  rw[<-this]
 obtain⟨key,lo,hi,aI,rfl,Ys,wlo,whi,Yt⟩:=Yr;obtain⟨E,hE⟩:=errs hL;clear hA0 G0;refine(y7j E a cap xs key lo hi aI W hE Su (by omega) jC Yq Ys wlo whi (by have:=(z3i Yt).2;omega)).mono fun e W' ⟨he,Yu⟩=>?_;subst he;exact⟨_,rfl,_,_,_,[],_,[],hW',trodAll_mk1 (shut_bool Tryz.underlying4 _),(trodAll_cons_mk (Below.trod z5P (by kernel_rfl) (wQ3 (by kernel_rfl)) k0 Yu.below lt0) (trodAll_cons_mk (Below.trod z5P (by kernel_rfl) (wQ3 (by kernel_rfl)) k1 Yu.below lt1) trodAll_mk0)),rfl,Yu.below.frame _,fun h=>by cases h⟩
theorem over:Rows.AuditPlaysSaid:=
 OpenClaim.holds_of_wide 3 Tryz.f3 rfl rfl rfl rfl rfl rfl rfl ⟨rfl,rfl,rfl,rfl,rfl⟩ rfl rfl rfl rfl rfl (by kernel_rfl) Tryz.func3 closed
  (wQ3 (by kernel_rfl)) (by unfold Func.isWrapper;first | (rw[zZ1 (by decide+kernel)];kernel_rfl) | (rw[zZ0 (by decide+kernel)];exact⟨rfl,rfl⟩))
  (fun os started H enc _=>lifted os started H enc)
theorem plain (f:FuncId)(fn:Func)(hf:Tryz.pinned.checked.prog.funcNamed "tidewater/tidewaterlaw30.AuditPlays" =some f) (hfn:Tryz.pinned.checked.prog.funcs[f]? =some fn):
    true=Tryz.pinned.checked.prog.looks []/\∀(j:Nat) t,fn.params[j]? =some t->Tryz.pinned.checked.prog.wantsStandIn t=false:=by
 obtain rfl:f=3:=Option.some.inj ((show Tryz.prog.funcNamed "tidewater/tidewaterlaw30.AuditPlays" =some 3 by kernel_rfl).symm.trans hf) |>.symm
 obtain rfl:fn=Tryz.f3:=(Option.some.inj (Tryz.func3.symm.trans hfn)).symm;refine⟨by kernel_rfl,fun j t ht=>?_⟩;rw[Tryz.params3]at ht;have hm:t∈[22,26]:=by simpa using Array.mem_of_getElem? ht
 have hall:([22,26].all fun u=>!Tryz.prog.wantsStandIn u)=true:=by kernel_rfl
 exact(show Tryz.prog.wantsStandIn t=false by simpa using zK0.1 hall t hm)
theorem card:Rows.AuditPlaysCardSaid:=
 Claim7.holds_tied_plain_at .later [] _ _ _ _ over (fun _ h=>by cases h) (by kernel_rfl) (fun _ h=>by cases h) auditPlays_row_tie rfl ⟨rfl,rfl⟩ (by kernel_rfl) rfl plain (by kernel_rfl)
#print axioms card
end Go.Proofs.YtgegogoanbamfaaGreatDoor.finAuditPlays
