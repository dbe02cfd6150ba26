/- Part 9 of the proof. -/
import Derived.Test.YtbnofojapimfcaaGreatDoorFinWatchStepsQ3
import Derived.Test.YtbnofojapimfcaaGreatDoorFinWatchStepsQ4
import Derived.Test.YtbnofojapimfcaaGreatDoorFinWatchStepsQ5
import Derived.Maps.Keyed
import Derived.Shelf.SlIterI.Nil
import Derived.Shelf.SortM.Plain
import Derived.Shelf.SortM.SortNone
import Derived.Lib.SlKeysI
import Derived.RangeFuncNested
import Derived.RangeFuncBound
import Derived.RangeFuncCalls
import Derived.RangeFuncLeaves
import Derived.RangeFuncBox
import Derived.Shelf.Abstract
import Derived.Shelf.AbstractIn
import Derived.Shelf.RegionOpen
import Derived.TacticsInMore
import Derived.LoopNIn
import Derived.LoopIn
import Derived.Deep.Cut
set_option linter.unusedVariables false
set_option linter.unusedSectionVars false
set_option linter.unusedSimpArgs false
set_option maxRecDepth 100000
set_option maxHeartbeats 16000000
namespace Go.Proofs.YtbnofojapimfcaaGreatDoor
section
open Go.RowKit Go.Maps
attribute [local go_sem] Oper.semAt_some
structure An where
 seq:Int
 code:Int
 at_:Int
def An.agg (a:An):Value:=.agg #[.int .i64 a.seq,.int .i64 a.code,.int .i64 a.at_]
def gK (code at_:Int):Value:=.agg #[.int .i64 code,.int .i64 at_]
def bW (c:Int):Lit:=.int .i64 c
theorem pA {c:Int} (h1: -9223372036854775808<=c) (h2:c<9223372036854775808):(Lit.int .i64 c).wf=true:=by
 simp [Lit.wf,IntKind.min,IntKind.max,IntKind.bits,IntKind.signed];try omega
theorem ow:Keyed Tryz.prog 3:=int_keyed Tryz.underlying3
theorem Og (w:World):(zeroValue 233).run Tryz.prog w=.ok (.agg #[.int .i64 0,.int .i64 0,.int .i64 0]) w:=by kernel_rfl
structure An.Ok (a:An):Prop where
 s1:1<=a.seq
 s2:a.seq<=1073741824
 c1:a.code=1\/a.code=2
 a1:0<=a.at_
 a2:a.at_<4096
structure qW (w:World) (F:Nat->Prop) (sb mb n:Nat) (f:Lit->Option Value) (S:Int->Option An):Prop where
 c0:w.cell? ⟨sb,0,none⟩=some (.map (some mb))
 lm:bL w Tryz.prog 3 mb n f
 val:∀c,f (bW c)=(S c).map An.agg
 lit:∀l,f l≠none->∃c,l=bW c
 ok:∀c a,S c=some a->1<=c/\c<=4/\a.Ok
 bg:F sb
 aJ:F mb
 ne:sb≠mb
 lt:∀j,F j->j<w.heap.size
def jI (w:World) (F:Nat->Prop) (sb n:Nat) (S:Int->Option An):Prop:=∃mb f,qW w F sb mb n f S
section
variable {w w':World} {F T:Nat->Prop} {sb mb n:Nat} {f:Lit->Option Value} {S:Int->Option An}
theorem qW.kept (h:qW w F sb mb n f S) (g:aj T w w') (hT:∀j,F j->¬T j):qW w' F sb mb n f S where
 c0:=(g.cell (aN h.c0) (hT _ h.bg) 0).trans h.c0
 lm:=h.lm.kept g (hT _ h.aJ)
 val:=h.val
 lit:=h.lit
 ok:=h.ok
 bg:=h.bg
 aJ:=h.aJ
 ne:=h.ne
 lt:=fun j hj=>ltT (h.lt j hj) g.size
theorem jI.kept (h:jI w F sb n S) (g:aj T w w') (hT:∀j,F j->¬T j):jI w' F sb n S:=by
 obtain ⟨mb,f,h⟩:=h
 exact ⟨mb,f,h.kept g hT⟩
theorem jI.ag (h:jI w F sb n S) (g:ae w w'):jI w' F sb n S:=h.kept (g.only fun _=>False) (fun _ _ h=>h)
theorem jI.lt (h:jI w F sb n S):∀j,F j->j<w.heap.size:=by obtain ⟨mb,f,h⟩:=h;exact h.lt
theorem qW.look (h:qW w F sb mb n f S) (g:ae w w') (c:Int) (h1: -9223372036854775808<=c) (h2:c<9223372036854775808):(Instr.lookup 227 (.map (some mb)) (.int .i64 c) true).run Tryz.prog w'=.ok (.tuple #[((S c).map An.agg).getD (.agg #[.int .i64 0,.int .i64 0,.int .i64 0]),.bool (S c).isSome]) w':=by
 have:=(h.lm.ag g).rO ow Tryz.underlying227 (Og w') (keyOf_int_mk Tryz.underlying3 (pA h1 h2))
 rw [show (Lit.int .i64 c)=bW c from rfl,h.val] at this
 rw [this]
 cases S c<;> rfl
end
def Oh (w:World) (F:Nat->Prop) (sb n:Nat) (S:Int->Option An) (w':World):Prop:=aj F w w'/\jI w' F sb n S
theorem uV (w:World):Calls Tryz.prog 81 #[] w fun e w'=>∃sb F,e=.returned (.pointer (some ⟨sb,0,none⟩))/\jI w' F sb 0 (fun _=>none)/\(∀j,F j->w.heap.size<=j)/\ae w w':=by
 have hM:=bL.made w Tryz.prog 3
 have g1:ae w (w.alloc (.map #[] 0)):=(ae.rf w).alloc _
 have HF:Hid (∃F,jI ((w.alloc (.map #[] 0)).alloc (.cells #[.map (some w.heap.size)] 229)) F (w.heap.size+1) 0 (fun _=>none)/\(∀j,F j->w.heap.size<=j)/\ae w ((w.alloc (.map #[] 0)).alloc (.cells #[.map (some w.heap.size)] 229))):=by
  refine ⟨fun j=>j=w.heap.size\/j=w.heap.size+1,⟨w.heap.size,_,⟨by simp [go_sem],hM.ag ((ae.rf _).alloc _),fun c=>rfl,(fun l h=>absurd rfl h),(fun c a h=>by cases h),.inr rfl,.inl rfl,by omega,fun j hj=>?_⟩⟩,fun j hj=>?_,g1.alloc _⟩
  · simp;rcases hj with hj | hj<;> omega
  · rcases hj with hj | hj<;> omega
 clear hM g1
 have hmm:=@run_makeMap Tryz.prog
 go_in
 go_wp2_with fail
 go_ret
 obtain ⟨F,h1,h2,h3⟩:=HF.out
 exact ⟨_,F,rfl,h1,h2,h3⟩
def dF (o:Option An) (seq:Int):Int:=match o with | none=>1 | some a=>if a.seq<seq then 1 else if seq=a.seq then 2 else 3
def fp (o:Option An) (seq:Int):Int×Int:=match o with | none=>(0,0) | some a=>if a.seq<seq then (0,0) else if seq=a.seq then (a.code,a.at_) else (0,0)
theorem Oi {w:World} {F:Nat->Prop} {sb n:Nat} {S:Int->Option An} (h:jI w F sb n S) (c seq:Int) (h1: -9223372036854775808<=c) (h2:c<9223372036854775808):
    Calls Tryz.prog 141 #[.pointer (some ⟨sb,0,none⟩),.int .i64 c,.int .i64 seq] w fun e w'=>e=.returned (.tuple #[gK (fp (S c) seq).1 (fp (S c) seq).2,.int .i64 (dF (S c) seq)])/\ae w w':=by
 obtain ⟨mb,f,h⟩:=h
 have c0:=h.c0
 have ia:sb<w.heap.size:=aN c0
 have hlk:=h.look ((ae.rf w).alloc (.cells #[.int .i64 0,.int .i64 0] 68)) c h1 h2
 clear h
 have g2:ae w ((w.alloc (.cells #[.int .i64 0,.int .i64 0] 68)).alloc (.cells #[.int .i64 0,.int .i64 0,.int .i64 0] 233)):=((ae.rf w).alloc _).alloc _
 have HG2:=af g2
 have ey:=af (fun (x y z:Int)=>show ae w ((w.alloc (.cells #[.int .i64 0,.int .i64 0] 68)).alloc (.cells #[.int .i64 x,.int .i64 y,.int .i64 z] 233)) from ((ae.rf w).alloc _).alloc _)
 have kG:=af (fun (u v x y z:Int)=>show ae w ((w.alloc (.cells #[.int .i64 u,.int .i64 v] 68)).alloc (.cells #[.int .i64 x,.int .i64 y,.int .i64 z] 233)) from ((ae.rf w).alloc _).alloc _)
 clear g2
 cases hS:S c with
 | none=>
  rw [hS] at hlk
  clear hS
  go_in
  go_wp2_with fail
  exact bodyPost_ret (v:=.tuple #[.agg #[.int .i64 0,.int .i64 0],.int .i64 1]) (by simp [results,Tryz.results141,go_sem]) rfl ⟨rfl,HG2.out⟩
 | some a=>
  rw [hS] at hlk
  clear hS
  obtain ⟨q,k,t⟩:=a
  have HN:Hid (dF (some ⟨q,k,t⟩) seq=if q<seq then 1 else if seq=q then 2 else 3):=rfl
  have HA:Hid (fp (some ⟨q,k,t⟩) seq=if q<seq then (0,0) else if seq=q then (k,t) else (0,0)):=rfl
  by_cases h1:q<seq
  · unfold An.agg at hlk
    dsimp only [Option.map_some,Option.getD_some,Option.isSome_some] at hlk
    have e1:dF (some ⟨q,k,t⟩) seq=1:=by rw [HN.out,zZ1 h1]
    have e2:fp (some ⟨q,k,t⟩) seq=(0,0):=by rw [HA.out,zZ1 h1]
    rw [e1,e2]
    clear e1 e2
    go_in
    go_wp2_with fail
    exact bodyPost_ret (v:=.tuple #[.agg #[.int .i64 0,.int .i64 0],.int .i64 1]) (by simp [results,Tryz.results141,go_sem]) rfl ⟨rfl,ey.out _ _ _⟩
  · by_cases h2:seq=q
    · unfold An.agg at hlk
      dsimp only [Option.map_some,Option.getD_some,Option.isSome_some] at hlk
      have e1:dF (some ⟨q,k,t⟩) seq=2:=by rw [HN.out,zZ0 h1,zZ1 h2]
      have e2:fp (some ⟨q,k,t⟩) seq=(k,t):=by rw [HA.out,zZ0 h1,zZ1 h2]
      rw [e1,e2]
      subst h2
      clear e1 e2
      go_in
      go_wp2_with fail
      refine bodyPost_ret (v:=.tuple #[.agg #[.int .i64 k,.int .i64 t],.int .i64 2]) (by simp [results,Tryz.results141,go_sem]) rfl ⟨rfl,kG.out _ _ _ _ _⟩
    · unfold An.agg at hlk
      dsimp only [Option.map_some,Option.getD_some,Option.isSome_some] at hlk
      have e1:dF (some ⟨q,k,t⟩) seq=3:=by rw [HN.out,zZ0 h1,zZ0 h2]
      have e2:fp (some ⟨q,k,t⟩) seq=(0,0):=by rw [HA.out,zZ0 h1,zZ0 h2]
      rw [e1,e2]
      clear e1 e2
      go_in
      go_wp2_with fail
      exact bodyPost_ret (v:=.tuple #[.agg #[.int .i64 0,.int .i64 0],.int .i64 3]) (by simp [results,Tryz.results141,go_sem]) rfl ⟨rfl,ey.out _ _ _⟩
theorem Za (w:World) (c:Int) (a:An) (h1:1<=c) (h2:c<=4) (h3:a.Ok):Calls Tryz.prog 172 #[.int .i64 c,.int .i64 a.seq,gK a.code a.at_] w fun e w'=>e=.returned (.bool true)/\ae w w':=by
 obtain ⟨q,k,t⟩:=a
 obtain ⟨s1,s2,c1,a1,a2⟩:=h3
 dsimp only at *
 unfold gK
 have HG:=af ((ae.rf w).alloc (.cells #[.int .i64 k,.int .i64 t] 68))
 rcases c1 with rfl | rfl
 · go_in
   go_wp2_with fail
   go_ret
   exact ⟨rfl,HG.out⟩
 · go_in
   go_wp2_with fail
   go_ret
   exact ⟨rfl,HG.out⟩
def dw (S:Int->Option An) (c:Int) (a:An) (d:Int):Option An:=if d=c then some a else S d
theorem qW.note {w w':World} {F:Nat->Prop} {sb mb n:Nat} {f:Lit->Option Value} {S:Int->Option An} (h:qW w F sb mb n f S) (c:Int) (a:An) (h1:1<=c) (h2:c<=4) (h3:a.Ok) (hn:n<=1000000) (g:ae w w'):
    ∃w2,(Instr.mapUpdate 227 (.map (some mb)) (.int .i64 c) a.agg).run Tryz.prog w'=.ok () w2/\Oh w F sb (n+1) (dw S c a) w2:=by
 have hg:=h.kept (g.only fun _=>False) (fun _ _ h=>h)
 obtain ⟨w2,hrun,r1,r2⟩:=hg.lm.store (val:=a.agg) ow Tryz.underlying227 (by unfold maxLen;omega) (keyOf_int_mk Tryz.underlying3 (pA (c:=c) (by omega) (by omega)))
 have hO:aj (fun j=>j=mb) w' w2:=aj.dm r2
 refine ⟨w2,hrun,(g.only F).then (hO.mono fun j hj=> .inl (by rw [hj];exact h.aJ)),mb,_,⟨(hO.cell (aN hg.c0) (fun e=>h.ne e) 0).trans hg.c0,r1,fun d=>?_,fun l hl=>?_,fun d b hb=>?_,h.bg,h.aJ,h.ne,fun j hj=>ltT (h.lt j hj) (zQ0 g.size hO.size)⟩⟩
 · unfold fC dw bW
   by_cases hd:d=c
   · subst hd;simp
   · rw [zZ0 hd,zZ0 (fun e=>hd (by injection e)),<-h.val];rfl
 · unfold fC at hl
   by_cases hd:l=.int .i64 c
   · exact ⟨c,hd⟩
   · rw [zZ0 hd] at hl;exact h.lit l hl
 · unfold dw at hb
   by_cases hd:d=c
   · rw [zZ1 hd] at hb;cases hb;subst hd;exact ⟨h1,h2,h3⟩
   · rw [zZ0 hd] at hb;exact h.ok d b hb
theorem Zb {w:World} {F:Nat->Prop} {sb n:Nat} {S:Int->Option An} (h:jI w F sb n S) (c:Int) (a:An) (h1:1<=c) (h2:c<=4) (h3:a.Ok) (hn:n<=1000000) (hf:dF (S c) a.seq=1):
    Calls Tryz.prog 143 #[.pointer (some ⟨sb,0,none⟩),.int .i64 c,.int .i64 a.seq,gK a.code a.at_] w fun e w'=>e=.returned .nilIface/\Oh w F sb (n+1) (dw S c a) w':=by
 have HR:=af (fun W=>Za W c a h1 h2 h3)
 have HA:=af (fun W (g:ae w W)=>Oi (h.ag g) c a.seq (by omega) (by omega))
 obtain ⟨mb,f,h⟩:=h
 have c0:=h.c0
 have ia:sb<w.heap.size:=aN c0
 have HST:=af (fun W (g:ae w W)=>h.note c a h1 h2 h3 hn g)
 rw [hf] at HA
 clear h hf
 obtain ⟨q,k,t⟩:=a
 unfold gK An.agg at *
 dsimp only at *
 generalize fp (S c) q=aa at *
 go_in
 go_wp2_with fail
 refine (HR.out _).mono ?_
 rintro e w1 ⟨rfl,aA⟩
 have jr:=((ae.rf w).alloc (.cells #[.int .i64 k,.int .i64 t] 68)).trans aA
 have hz:w.heap.size<w1.heap.size:=ltT (by simp) aA.size
 have d0:w1.cell? ⟨w.heap.size,0,none⟩=some (.int .i64 k):=(aA.cells.1 _ _ (by simp)).trans (by simp [go_sem])
 have d1:w1.cell? ⟨w.heap.size,1,none⟩=some (.int .i64 t):=(aA.cells.1 _ _ (by simp)).trans (by simp [go_sem])
 have bI:=af jr
 have HD:=af (And.intro hz (And.intro d0 d1))
 clear aA jr hz d0 d1
 go_wp2_with fail
 refine (HA.out _ bI.out).mono ?_
 rintro e w2 ⟨rfl,aB⟩
 obtain ⟨hz,d0,d1⟩:=HD.out
 have bD:=bI.out.trans aB
 have e0:=(aB.cells.1 _ 0 hz).trans d0
 have e1:=(aB.cells.1 _ 1 hz).trans d1
 have hz2:=ltT hz aB.size
 have HG2:=af bD
 have HE:=af (And.intro hz2 (And.intro e0 e1))
 clear aB bD hz d0 d1 e0 e1 hz2
 go_wp2_with fail
 obtain ⟨Y,hY⟩:∃Y,Y=w2.alloc (.cells #[.int .i64 aa.1,.int .i64 aa.2] 68):=⟨_,rfl⟩
 have LG:ae w2 Y:=by rw [hY];exact (ae.rf w2).alloc _
 have cR:=af (HG2.out.trans LG)
 have C0:=aU ((cR.out.cells.1 _ 0 ia).trans c0)
 obtain ⟨hz2,e0,e1⟩:=HE.out
 have D0:=aU ((LG.cells.1 _ 0 hz2).trans e0)
 have D1:=aU ((LG.cells.1 _ 1 hz2).trans e1)
 rw [<-hY]
 clear hY LG hz2 e0 e1 c0
 refine lH 8 (by kernel_rfl) (by kernel_rfl) (fun _ _=>rfl) ?_
 repeat (first
  | (refine fF ?_;intro K hK;go_big_quiet_op;go_big_quiet_on)
  | (refine fE ?_;simp only [Act.put,sA,sB,sC]))
 refine iH (by rfl) ?_
 intro x hG
 obtain ⟨w3,hrun,hT⟩:=HST.out x (cR.out.trans hG)
 have cE:=af hrun
 have HT:=af hT
 clear hrun hT C0 D0 D1 hG
 dsimp only [List.drop]
 go_wp2_with (at_mapUpdate;refine FD rfl _ _ _ rfl rfl rfl rfl cE.out ?_)
 go_wp2_with fail
 go_ret
 exact ⟨rfl,HT.out⟩
end
section
open Go.RowKit Go.Maps
attribute [local go_sem] Oper.semAt_some
theorem Zc {w:World} {mb:Nat} {es:Array MapEntry} {clock:Nat} (h:w.heap[mb]? =some (.map es clock)):(callFunc 84 #[.iface 227 (.map (some mb))]).run Tryz.prog w=.ok (.value (.iface 227 (.map (some w.heap.size)))) (w.alloc (.map es clock)):=by
 rw [run_callFunc_extern (P:=Tryz.prog) (e:=Extern.MapsClone.clone) Tryz.func84 (by kernel_rfl) (by kernel_rfl) (by kernel_rfl) (by kernel_rfl)]
 have h2:(Extern.MapsClone.clone #[.iface 227 (.map (some mb))]).run Tryz.prog w=.ok (.iface 227 (.map (some w.heap.size))) (w.alloc (.map es clock)):=by
  have e:Extern.MapsClone.clone #[.iface 227 (.map (some mb))]=(getObj mb >>=fun o=>match o with
   | .map es c=>newObj (.map es c) >>=fun r=>pure (.iface 227 (.map (some r)))
   | _=>stuck "maps.clone: a map expected"):=rfl
  rw [e]
  rw [Sem.run_bind,Go.run_getObj_map w mb es clock h]
  rfl
 rw [h2]
 rfl
theorem bL.again {w:World} {P:Program} {k:TypeId} {mb n:Nat} {f:Lit->Option Value} (h:bL w P k mb n f):∃es clock,w.heap[mb]? =some (.map es clock)/\bL (w.alloc (.map es clock)) P k w.heap.size n f:=by
 obtain ⟨D,⟨es,clock,hb,hF,hn,hD⟩,hl⟩:=h
 exact ⟨es,clock,hb,D,⟨es,clock,heap_alloc_new w _,hF,hn,hD⟩,hl⟩
theorem Zd {w:World} {mb n:Nat} {f:Lit->Option Value} (h:bL w Tryz.prog 3 mb n f):
    Calls Tryz.prog 127 #[.map (some mb)] w fun e w'=>e=.returned (.map (some w.heap.size))/\bL w' Tryz.prog 3 w.heap.size n f/\ae w w'/\w.heap.size<w'.heap.size:=by
 obtain ⟨es,clock,hb,hL⟩:=h.again
 have hcl:=Zc hb
 have heq:(binOp .eql 227 (.map (some mb)) (.map none)).run Tryz.prog w=.ok (.bool false) w:=by kernel_rfl
 have C9:∀(x:Nat) (W:World),(Instr.typeAssert (.iface 227 (.map (some x))) 20 227 false).run Tryz.prog W=.ok (.map (some x)) W:=fun x W=>by kernel_rfl
 have hF:=af (And.intro hL (And.intro ((ae.rf w).alloc (.map es clock)) (show w.heap.size<(w.alloc (.map es clock)).heap.size by simp)))
 clear hL h
 go_in
 go_wp2_with fail
 go_ret
 exact ⟨rfl,hF.out⟩
theorem Ze {w:World} {F:Nat->Prop} {sb n:Nat} {S:Int->Option An} (h:jI w F sb n S):
    Calls Tryz.prog 86 #[.pointer (some ⟨sb,0,none⟩)] w fun e w'=>∃cb G,e=.returned (.pointer (some ⟨cb,0,none⟩))/\jI w' G cb n S/\(∀j,G j->w.heap.size<=j)/\ae w w':=by
 obtain ⟨mb,f,h⟩:=h
 have c0:=h.c0
 have ia:sb<w.heap.size:=aN c0
 have HC:=af (Zd h.lm)
 have HV:=af (And.intro h.val (And.intro h.lit h.ok))
 clear h
 go_in
 go_wp2_with fail
 refine HC.out.mono ?_
 rintro e w1 ⟨rfl,hL,hg,hz⟩
 have HF:Hid (∃G,jI (w1.alloc (.cells #[.map (some w.heap.size)] 229)) G w1.heap.size n S/\(∀j,G j->w.heap.size<=j)/\ae w (w1.alloc (.cells #[.map (some w.heap.size)] 229))):=by
  refine ⟨fun j=>j=w.heap.size\/j=w1.heap.size,⟨w.heap.size,f,⟨by simp [go_sem],hL.ag ((ae.rf _).alloc _),HV.out.1,HV.out.2.1,HV.out.2.2,.inr rfl,.inl rfl,by omega,fun j hj=>?_⟩⟩,fun j hj=>?_,hg.alloc _⟩
  · simp;rcases hj with hj | hj<;> omega
  · have:=hg.size;rcases hj with hj | hj<;> omega
 clear hL hg hz
 go_wp2_with fail
 go_ret
 obtain ⟨G,h1,h2,h3⟩:=HF.out
 exact ⟨_,G,rfl,h1,h2,h3⟩
end
section
open Go.Shelf
def Tryz.keysCl_ren:Go.Shelf.Ren:=⟨fun | 7=>182 | 10=>197 | n=>n,fun | 23=>227 | 26=>3 | 3=>233 | 28=>296 | 0=>0 | 27=>295 | 33=>312 | 4=>4 | n=>n,fun | n=>n⟩
theorem Tryz.keysCl:Go.Proofs.SlLaysZI.n7 Tryz.prog Tryz.keysCl_ren:={
 mixed:=by kernel_rfl
 f7:=⟨Tryz.f182.name,by decide,Tryz.func182.trans (congrArg some (by kernel_rfl))⟩
 f10:=⟨Tryz.f197.name,by decide,Tryz.func197.trans (congrArg some (by kernel_rfl))⟩
 t0:=Tryz.underlying0
 a0:=Tryz.isAgg0
 z0:=Tryz.sizeOf0
 v0:=Tryz.zeroValue0
 t4:=Tryz.underlying4
 a4:=Tryz.isAgg4
 z4:=Tryz.sizeOf4
 v4:=Tryz.zeroValue4
 t23:=Tryz.underlying227
 a23:=Tryz.isAgg227
 z23:=Tryz.sizeOf227
 v23:=Tryz.zeroValue227
 t26:=Tryz.underlying3
 a26:=Tryz.isAgg3
 z26:=Tryz.sizeOf3
 v26:=Tryz.zeroValue3
 t27:=Tryz.underlying295
 a27:=Tryz.isAgg295
 z27:=Tryz.sizeOf295
 v27:=Tryz.zeroValue295
 t28:=Tryz.underlying296
 a28:=Tryz.isAgg296
 z28:=Tryz.sizeOf296
 v28:=Tryz.zeroValue296
 t33:=Tryz.underlying312
 a33:=Tryz.isAgg312
 z33:=Tryz.sizeOf312
 v33:=Tryz.zeroValue312}
def Tryz.sortedCl_ren:Go.Shelf.Ren:=⟨fun | 6=>181 | 8=>195 | 9=>196 | 11=>210 | 13=>120 | 12=>211 | 23=>165 | 24=>166 | 14=>216 | 15=>217 | 16=>218 | 17=>219 | 18=>220 | 19=>221 | 20=>222 | 21=>223 | 22=>224 | 25=>227 | 26=>186 | 27=>187 | 28=>228 | 29=>229 | 30=>230 | 31=>231 | n=>n,fun | 26=>3 | 28=>296 | 24=>183 | 0=>0 | 3=>3 | 37=>222 | 48=>278 | 50=>280 | 4=>4 | 40=>272 | 39=>271 | 45=>268 | 5=>5 | 9=>9 | 51=>300 | 55=>304 | 57=>313 | 58=>314 | 33=>312 | n=>n,fun | n=>n⟩
theorem Tryz.sortedCl:Go.Proofs.SlLaysZI.n6 Tryz.prog Tryz.sortedCl_ren:={
 mixed:=by kernel_rfl
 f6:=⟨Tryz.f181.name,by decide,Tryz.func181.trans (congrArg some (by kernel_rfl))⟩
 f8:=⟨Tryz.f195.name,by decide,Tryz.func195.trans (congrArg some (by kernel_rfl))⟩
 f11:=⟨Tryz.f210.name,by decide,Tryz.func210.trans (congrArg some (by kernel_rfl))⟩
 t0:=Tryz.underlying0
 a0:=Tryz.isAgg0
 z0:=Tryz.sizeOf0
 v0:=Tryz.zeroValue0
 t24:=Tryz.underlying183
 a24:=Tryz.isAgg183
 z24:=Tryz.sizeOf183
 v24:=Tryz.zeroValue183
 t26:=Tryz.underlying3
 a26:=Tryz.isAgg3
 z26:=Tryz.sizeOf3
 v26:=Tryz.zeroValue3
 t28:=Tryz.underlying296
 a28:=Tryz.isAgg296
 z28:=Tryz.sizeOf296
 v28:=Tryz.zeroValue296
 i26:=by kernel_rfl}
def Tryz.sortCl_ren:Go.Shelf.Ren:=⟨fun | 5=>196 | 8=>120 | 7=>211 | 19=>165 | 20=>166 | 10=>216 | 11=>217 | 12=>218 | 13=>219 | 14=>220 | 15=>221 | 16=>222 | 17=>223 | 18=>224 | 30=>227 | 31=>186 | 32=>187 | 33=>228 | 34=>229 | 35=>230 | 40=>231 | n=>n,fun | 23=>183 | 25=>3 | 3=>3 | 32=>222 | 22=>183 | 0=>0 | 44=>278 | 46=>280 | 4=>4 | 36=>272 | 35=>271 | 41=>268 | 5=>5 | 9=>9 | 53=>300 | 57=>304 | 63=>313 | 64=>314 | n=>n,fun | n=>n⟩
theorem Tryz.sortCl:Go.Proofs.SlLaysM.n5 Tryz.prog Tryz.sortCl_ren:={
 mixed:=by kernel_rfl
 f5:=⟨Tryz.f196.name,by decide,Tryz.func196.trans (congrArg some (by kernel_rfl))⟩
 f7:=⟨Tryz.f211.name,by decide,Tryz.func211.trans (congrArg some (by kernel_rfl))⟩
 f8:=Tryz.func120.trans (congrArg some (by kernel_rfl))
 f10:=⟨Tryz.f216.name,by decide,Tryz.func216.trans (congrArg some (by kernel_rfl))⟩
 f11:=⟨Tryz.f217.name,by decide,Tryz.func217.trans (congrArg some (by kernel_rfl))⟩
 f12:=⟨Tryz.f218.name,by decide,Tryz.func218.trans (congrArg some (by kernel_rfl))⟩
 f13:=⟨Tryz.f219.name,by decide,Tryz.func219.trans (congrArg some (by kernel_rfl))⟩
 f14:=⟨Tryz.f220.name,by decide,Tryz.func220.trans (congrArg some (by kernel_rfl))⟩
 f15:=⟨Tryz.f221.name,by decide,Tryz.func221.trans (congrArg some (by kernel_rfl))⟩
 f16:=⟨Tryz.f222.name,by decide,Tryz.func222.trans (congrArg some (by kernel_rfl))⟩
 f17:=⟨Tryz.f223.name,by decide,Tryz.func223.trans (congrArg some (by kernel_rfl))⟩
 f18:=⟨Tryz.f224.name,by decide,Tryz.func224.trans (congrArg some (by kernel_rfl))⟩
 f19:=Tryz.func165.trans (congrArg some (by kernel_rfl))
 f20:=Tryz.func166.trans (congrArg some (by kernel_rfl))
 f30:=⟨Tryz.f227.name,by decide,Tryz.func227.trans (congrArg some (by kernel_rfl))⟩
 f31:=Tryz.func186.trans (congrArg some (by kernel_rfl))
 f32:=Tryz.func187.trans (congrArg some (by kernel_rfl))
 f33:=⟨Tryz.f228.name,by decide,Tryz.func228.trans (congrArg some (by kernel_rfl))⟩
 f34:=⟨Tryz.f229.name,by decide,Tryz.func229.trans (congrArg some (by kernel_rfl))⟩
 f35:=⟨Tryz.f230.name,by decide,Tryz.func230.trans (congrArg some (by kernel_rfl))⟩
 f40:=⟨Tryz.f231.name,by decide,Tryz.func231.trans (congrArg some (by kernel_rfl))⟩
 t0:=Tryz.underlying0
 a0:=Tryz.isAgg0
 z0:=Tryz.sizeOf0
 v0:=Tryz.zeroValue0
 t3:=Tryz.underlying3
 a3:=Tryz.isAgg3
 z3:=Tryz.sizeOf3
 v3:=Tryz.zeroValue3
 t4:=Tryz.underlying4
 a4:=Tryz.isAgg4
 z4:=Tryz.sizeOf4
 v4:=Tryz.zeroValue4
 t5:=Tryz.underlying5
 a5:=Tryz.isAgg5
 z5:=Tryz.sizeOf5
 v5:=Tryz.zeroValue5
 t9:=Tryz.underlying9
 a9:=Tryz.isAgg9
 z9:=Tryz.sizeOf9
 v9:=Tryz.zeroValue9
 t22:=Tryz.underlying183
 a22:=Tryz.isAgg183
 z22:=Tryz.sizeOf183
 v22:=Tryz.zeroValue183
 t23:=Tryz.underlying183
 a23:=Tryz.isAgg183
 z23:=Tryz.sizeOf183
 v23:=Tryz.zeroValue183
 t25:=Tryz.underlying3
 a25:=Tryz.isAgg3
 z25:=Tryz.sizeOf3
 v25:=Tryz.zeroValue3
 t32:=Tryz.underlying222
 a32:=Tryz.isAgg222
 z32:=Tryz.sizeOf222
 v32:=Tryz.zeroValue222
 t35:=Tryz.underlying271
 a35:=Tryz.isAgg271
 z35:=Tryz.sizeOf271
 v35:=Tryz.zeroValue271
 t36:=Tryz.underlying272
 a36:=Tryz.isAgg272
 z36:=Tryz.sizeOf272
 v36:=Tryz.zeroValue272
 t41:=Tryz.underlying268
 a41:=Tryz.isAgg268
 z41:=Tryz.sizeOf268
 v41:=Tryz.zeroValue268
 t44:=Tryz.underlying278
 a44:=Tryz.isAgg278
 z44:=Tryz.sizeOf278
 v44:=Tryz.zeroValue278
 t46:=Tryz.underlying280
 a46:=Tryz.isAgg280
 z46:=Tryz.sizeOf280
 v46:=Tryz.zeroValue280
 t53:=Tryz.underlying300
 a53:=Tryz.isAgg300
 z53:=Tryz.sizeOf300
 v53:=Tryz.zeroValue300
 t57:=Tryz.underlying304
 a57:=Tryz.isAgg304
 z57:=Tryz.sizeOf304
 v57:=Tryz.zeroValue304
 t63:=Tryz.underlying313
 a63:=Tryz.isAgg313
 z63:=Tryz.sizeOf313
 v63:=Tryz.zeroValue313
 t64:=Tryz.underlying314
 a64:=Tryz.isAgg314
 z64:=Tryz.sizeOf314
 v64:=Tryz.zeroValue314}
end
section
open Go.RowKit Go.Maps Go.ChangeMaps Go.MapKept Go.WideShapes
open Go.WideElems (Fit rd rg pl rd_key rd_val rg_of other_key rd_mk)
theorem Zf {w:World} {P:Program} {k:TypeId} {b n:Nat} {D:DataW Value} (h:w.ownsMap P k raw b n D) (K:Keyed P k) (hk:P.underlying k=some (.int .i64)):
    (intKeys D).Nodup/\(∀c,c∈intKeys D↔fK D (bW c)≠none)/\(intKeys D).length<=n/\Maps.size D<=n:=by
 obtain ⟨es,hD,hpw,_⟩:=h.entries K
 obtain ⟨es',hD',hko⟩:=h.keysOf
 obtain rfl:es=es':=by rw [hD] at hD';simpa using hD'
 have hint:∀p∈es,∃x,p.1=.int .i64 x:=fun p hp=>by obtain ⟨v,hv⟩:=hko p hp;obtain ⟨x,_,hx,_⟩:=Maps.keyOf_i64 hk hv;exact ⟨x,hx⟩
 have Oj:intKeys D=es.map fun p=>Go.intOf p.1:=by rw [hD];rfl
 have hlen:es.length<=n:=by
  obtain ⟨Ol,clock,hb,F,hs,uW⟩:=h
  rw [hD] at uW
  have e1:es=(Ol.toList.map (rg P k raw)).foldr DataW.insert []:=by injection uW
  rw [e1,length_sorted]
  simpa using hs
 rw [Oj]
 refine ⟨?_,fun c=>?_,by rw [List.length_map];exact hlen,by rw [hD];exact hlen⟩
 · refine List.pairwise_map.2 (hpw.imp_of_mem fun {p q} hp' hq' hne e=>hne ?_)
   obtain ⟨a,ha⟩:=hint p hp'
   obtain ⟨d,hd⟩:=hint q hq'
   rw [ha,hd] at e ⊢
   have e2:a=d:=e
   rw [e2]
 · constructor
   · intro hs
     obtain ⟨p,hp,rfl⟩:=zZ4.1 hs
     obtain ⟨a,ha⟩:=hint p hp
     have hhas:Maps.has D (bW (Go.intOf p.1))=true:=by
      rw [hD]
      refine zZ5.2 ⟨p,hp,?_⟩
      rw [ha];simp [bW,Go.intOf,Lit.sameKey]
     obtain ⟨Ol,clock,hb,F,_,uW⟩:=h
     rw [uW] at hhas
     obtain ⟨p2,hp2,hpk⟩:=zZ5.1 hhas
     obtain ⟨x,hx,rfl⟩:=zZ4.1 (mem_sorted.1 hp2)
     obtain ⟨y,hy⟩:=F.reads x hx
     obtain ⟨z,hz,hzd⟩:=rd_val hy
     have hkk:keyOf P k x.key=some (bW (Go.intOf p.1)):=by
      have:=WideAt.sameKey_eq hpk
      rw [rg_of hy] at this
      rw [<-this];exact rd_key hy
     unfold fK
     rw [uW,zZ1 hhas]
     have hat:=(atKey_sorted (Ol.toList.map (rg P k raw)) (Maps.fit_rising K F) _ (K.key hkk)).2 (rg P k raw x) (zZ4.2 ⟨x,hx,rfl⟩) (WideAt.sameKey_eq hpk)
     rw [hat,rg_of hy,hzd]
     cases hz
     simp
   · intro hs
     unfold fK at hs
     by_cases hh:Maps.has D (bW c)=true
     · rw [hD] at hh
       obtain ⟨p,hp,hpk⟩:=zZ5.1 hh
       refine zZ4.2 ⟨p,hp,?_⟩
       rw [WideAt.sameKey_eq hpk]
       rfl
     · rw [zZ0 hh] at hs;exact absurd rfl hs
end
section
open Go.RowKit Go.Maps Go.Sort Go.Shelf
attribute [local go_sem] Oper.semAt_some
theorem zr (m:Nat):AnyZI.SortsIn Tryz.prog Tryz.sortedCl_ren Fence.wide m:=
 ⟨fun blk off cap ss W hH hblk hsz=>callsIn_wide.2 (AnyM.slices_Sort_int Tryz.sortCl blk off cap ss W hH hblk hsz),
  fun p cap W=>callsIn_wide.2 (AnyM.slices_Sort_int_none Tryz.sortCl p cap W)⟩
theorem Zg (w:World) (mb n:Nat) (f:Lit->Option Value) (h:bL w Tryz.prog 3 mb n f) (hn:n<=1000000) (Bm:Nat) (hBm:w.cell? ⟨Bm,0,none⟩=some (.map (some mb))):
    CallsIn Fence.wide 5 Tryz.prog 181 #[.func (.func 197) #[] #[.pointer (some ⟨Bm,0,none⟩)]] w fun e w'=>∃(v:Value) (ks:List Int),e=.returned v/\(ks.Pairwise fun a b=>a<b)/\(∀c,c∈ks↔f (bW c)≠none)/\ks.length<=n/\w'.ownsRow w.heap.size 3 1 v ks.length (ks.map encZ)/\Below w.heap.size w w':=by
 obtain ⟨D,aD,hf⟩:=h
 obtain ⟨hnd,hmem,hlen,hsz⟩:=Zf aD ow Tryz.underlying3
 have hBlt:Bm<w.heap.size:=aN hBm
 have hseq:SeqGives Fence.wide 2 Tryz.prog 197 #[.pointer (some ⟨Bm,0,none⟩)] encZ (fun ss=>ss.Perm (intKeys D)) (Maps.size D) w:=
  AnyZI.keys_gives (ρ:=Tryz.keysCl_ren) {Tryz.keysCl with} Fence.wide _ trivial rfl (by omega) Bm mb n D w hBlt hBm aD
 have cS:=AnyZI.sorted_in Tryz.sortedCl Fence.wide 5 trivial trivial trivial trivial rfl (by omega) (zr _) (enters_of Tryz.func196 (by kernel_rfl) rfl) 197 #[.pointer (some ⟨Bm,0,none⟩)] trivial (enters_of Tryz.func197 (by kernel_rfl) rfl) _ _ (by unfold maxLen;omega) (by omega) _ hseq
 change CallsIn _ _ Tryz.prog 181 _ _ _ at cS
 refine cS.mono ?_
 rintro e w' ⟨v,ss,rfl,hp,aI,_,hb⟩
 have hm:(ss.mergeSort (fun x y=>decide (x<=y))).Perm ss:=List.mergeSort_perm _ _
 have Om:=hm.trans hp
 refine ⟨v,_,rfl,?_,fun c=>by rw [Om.mem_iff,hmem,hf],by rw [Om.length_eq];exact hlen,by rw [hm.length_eq];exact aI,hb⟩
 have tr:∀a b c:Int,decide (a<=b)=true->decide (b<=c)=true->decide (a<=c)=true:=fun a b c h1 h2=>by simp only [decide_eq_true_eq] at *;omega
 have tB:∀a b:Int,(decide (a<=b) || decide (b<=a))=true:=fun a b=>by simp only [Bool.or_eq_true,decide_eq_true_eq];omega
 have h1:=List.pairwise_mergeSort tr tB ss
 have h2:(ss.mergeSort (fun x y=>decide (x<=y))).Nodup:=Om.nodup_iff.2 hnd
 exact List.Pairwise.imp₂ (fun a b h3 h4=>by simp only [decide_eq_true_eq] at h3;omega) h1 h2
end
section
open Go.RowKit Go.Maps Go.Shelf
attribute [local go_sem] Oper.semAt_some
def js (S:Int->Option An):List (Int×An):=[1,2,3,4].filterMap fun c=>(S c).map fun a=>(c,a)
theorem LH {S:Int->Option An} {x:Int×An}:x∈js S↔(x.1=1\/x.1=2\/x.1=3\/x.1=4)/\S x.1=some x.2:=by
 unfold js
 rw [List.mem_filterMap]
 obtain ⟨c,a⟩:=x
 constructor
 · rintro ⟨d,hd,he⟩
   rw [zK9] at he
   obtain ⟨b,hb,he⟩:=he
   cases he
   exact ⟨by simpa using hd,hb⟩
 · rintro ⟨h1,h2⟩
   exact ⟨c,by simpa using h1,by dsimp only at h2;rw [h2];rfl⟩
theorem Zh (S:Int->Option An):((js S).map (·.1)).Pairwise fun a b=>a<b:=by
 unfold js
 rw [List.pairwise_map]
 refine List.Pairwise.filterMap (R:=fun a b:Int=>a<b) _ (fun a b hab x hx y hy=>?_) (by decide)
 rw [zK9] at hx hy
 obtain ⟨_,_,rfl⟩:=hx
 obtain ⟨_,_,rfl⟩:=hy
 exact hab
theorem TD (S:Int->Option An):(js S).length<=4:=by
 unfold js
 exact zQ0 (List.length_filterMap_le _ _) (by decide)
theorem zt {l l':List Int} (h:l.Pairwise fun a b=>a<b) (h':l'.Pairwise fun a b=>a<b) (hm:∀x,x∈l↔x∈l'):l=l':=by
 have nd:l.Nodup:=h.imp fun {a b} hab=>by omega
 have Zi:l'.Nodup:=h'.imp fun {a b} hab=>by omega
 exact List.Perm.eq_of_pairwise (le:=fun a b:Int=>a<b) (fun a b _ _ h1 h2=>by omega) h h' ((List.perm_ext_iff_of_nodup nd Zi).2 hm)
abbrev yw:={x:Int×An // 1<=x.1/\x.1<=4/\x.2.Ok}
def uX (x:yw):Array Value:=#[.int .i64 x.1.1,x.1.2.agg]
theorem Zj {S:Int->Option An} (hok:∀c a,S c=some a->1<=c/\c<=4/\a.Ok):∃xs:List yw,xs.map Subtype.val=js S:=by
 refine ⟨(js S).pmap Subtype.mk fun x hx=>hok _ _ (LH.1 hx).2,?_⟩
 rw [List.map_pmap]
 simp
end
section
open Go.RowKit Go.Maps
attribute [local go_sem] Oper.semAt_some
def bT (o:Option An):Int:=match o with | none=>0 | some a=>a.seq
def fQ (o:Option An):Int:=match o with | none=>0 | some a=>a.code
def pS (o:Option An):Int:=match o with | none=>0 | some a=>a.at_
structure cF (w:World) (rb:Nat) (S:Int->Option An):Prop where
 seq:∀c:Nat,c<5->w.cell? ⟨rb,c,none⟩=some (.int .i64 (bT (S c)))
 code:∀c:Nat,c<5->w.cell? ⟨rb,5+c*2,none⟩=some (.int .i64 (fQ (S c)))
 at_:∀c:Nat,c<5->w.cell? ⟨rb,6+c*2,none⟩=some (.int .i64 (pS (S c)))
 ic:∀o,o<15->w.frozen? ⟨rb,o,none⟩=false
 ok:∀c a,S c=some a->1<=c/\c<=4/\a.Ok
section
variable {w w':World} {T:Nat->Prop} {rb:Nat} {S:Int->Option An}
theorem cF.lt (h:cF w rb S):rb<w.heap.size:=aN (h.seq 0 (by decide))
theorem cF.kept (h:cF w rb S) (g:aj T w w') (hT:¬T rb):cF w' rb S where
 seq:=fun c hc=>(g.cell h.lt hT _).trans (h.seq c hc)
 code:=fun c hc=>(g.cell h.lt hT _).trans (h.code c hc)
 at_:=fun c hc=>(g.cell h.lt hT _).trans (h.at_ c hc)
 ic:=fun o ho=>(g.frozen h.lt hT _).trans (h.ic o ho)
 ok:=h.ok
theorem cF.ag (h:cF w rb S) (g:ae w w'):cF w' rb S:=h.kept (g.only fun _=>False) (fun h=>h)
theorem cF.new (w:World) (T:TypeId):cF (w.alloc (.cells #[.int .i64 0,.int .i64 0,.int .i64 0,.int .i64 0,.int .i64 0,.int .i64 0,.int .i64 0,.int .i64 0,.int .i64 0,.int .i64 0,.int .i64 0,.int .i64 0,.int .i64 0,.int .i64 0,.int .i64 0] T)) w.heap.size (fun _=>none):=by
 refine ⟨?_,?_,?_,?_,fun c a h=>by cases h⟩
 · intro c hc
   obtain rfl | rfl | rfl | rfl | rfl:c=0\/c=1\/c=2\/c=3\/c=4:=by omega
   all_goals simp [go_sem,bT]
 · intro c hc
   obtain rfl | rfl | rfl | rfl | rfl:c=0\/c=1\/c=2\/c=3\/c=4:=by omega
   all_goals simp [go_sem,fQ]
 · intro c hc
   obtain rfl | rfl | rfl | rfl | rfl:c=0\/c=1\/c=2\/c=3\/c=4:=by omega
   all_goals simp [go_sem,pS]
 · intro o ho
   simp [go_sem]
end
theorem z2g {w:World} {rb:Nat} {S:Int->Option An} (h:cF w rb S) (c:Int) (h1:1<=c) (h2:c<=4):
    Calls Tryz.prog 168 #[.pointer (some ⟨rb,0,none⟩),.int .i64 c] w fun e w'=>e=.returned (.int .i64 (bT (S c)))/\ae w w':=by
 obtain rfl | rfl | rfl | rfl:c=1\/c=2\/c=3\/c=4:=by omega
 · have c0:=h.seq 1 (by decide)
   have jG:=h.lt
   clear h
   generalize bT (S ((1:Nat):Int))=q at c0
   go_in
   go_wp2_with fail
   go_ret
   exact ⟨rfl,ae.rf w⟩
 · have c0:=h.seq 2 (by decide)
   have jG:=h.lt
   clear h
   generalize bT (S ((2:Nat):Int))=q at c0
   go_in
   go_wp2_with fail
   go_ret
   exact ⟨rfl,ae.rf w⟩
 · have c0:=h.seq 3 (by decide)
   have jG:=h.lt
   clear h
   generalize bT (S ((3:Nat):Int))=q at c0
   go_in
   go_wp2_with fail
   go_ret
   exact ⟨rfl,ae.rf w⟩
 · have c0:=h.seq 4 (by decide)
   have jG:=h.lt
   clear h
   generalize bT (S ((4:Nat):Int))=q at c0
   go_in
   go_wp2_with fail
   go_ret
   exact ⟨rfl,ae.rf w⟩
theorem z3n {w:World} {rb:Nat} {S:Int->Option An} (h:cF w rb S) (c seq:Int) (h1:1<=c) (h2:c<=4):
    Calls Tryz.prog 128 #[.pointer (some ⟨rb,0,none⟩),.int .i64 c,.int .i64 seq] w fun e w'=>e=.returned (.tuple #[gK (fp (S c) seq).1 (fp (S c) seq).2,.int .i64 (dF (S c) seq)])/\ae w w':=by
 have HL:=af (fun W (g:ae w W)=>z2g (h.ag g) c h1 h2)
 have jG:=h.lt
 have HC:Hid (∃k:Nat,c=k/\1<=k/\k<=4/\w.cell? ⟨rb,5+k*2,none⟩=some (.int .i64 (fQ (S c)))/\w.cell? ⟨rb,6+k*2,none⟩=some (.int .i64 (pS (S c)))):=by
  refine ⟨c.toNat,by omega,by omega,by omega,?_,?_⟩
  · have:=h.code c.toNat (by omega);rwa [show ((c.toNat:Nat):Int)=c by omega] at this
  · have:=h.at_ c.toNat (by omega);rwa [show ((c.toNat:Nat):Int)=c by omega] at this
 have hok:=h.ok c
 clear h
 unfold gK
 cases hS:S c with
 | none=>
  rw [hS] at HL HC
  clear hS hok HC
  unfold bT at HL
  go_in
  go_wp2_with fail
  refine (HL.out _ ((ae.rf w).alloc _)).mono ?_
  rintro e w1 ⟨rfl,aA⟩
  have HG:=af (show ae w w1 from ((ae.rf w).alloc _).trans aA)
  have f0:w1.frozen? ⟨w.heap.size,0,none⟩=false:=(aA.cells.2 _ _ (by simp)).trans (by simp [go_sem])
  have f1:w1.frozen? ⟨w.heap.size,1,none⟩=false:=(aA.cells.2 _ _ (by simp)).trans (by simp [go_sem])
  have d0:w1.cell? ⟨w.heap.size,0,none⟩=some (.int .i64 0):=(aA.cells.1 _ _ (by simp)).trans (by simp [go_sem])
  have d1:w1.cell? ⟨w.heap.size,1,none⟩=some (.int .i64 0):=(aA.cells.1 _ _ (by simp)).trans (by simp [go_sem])
  have hz:w.heap.size<w1.heap.size:=ltT (by simp) aA.size
  clear aA HL
  go_wp2_with fail
  refine bodyPost_ret (v:=.tuple #[.agg #[.int .i64 0,.int .i64 0],.int .i64 1]) (by simp [results,Tryz.results128,go_sem,d0,d1,f0,f1]) rfl ⟨rfl,?_⟩
  exact ((HG.out.setCell (show w.heap.size<=w.heap.size by omega) _).setCell (show w.heap.size<=w.heap.size by omega) _)
 | some a=>
  have hk:=hok a hS
  rw [hS] at HL HC
  clear hS hok
  obtain ⟨q,k,t⟩:=a
  have hq:=hk.2.2.s1
  dsimp only at hq
  unfold bT at HL
  unfold fQ pS at HC
  dsimp only at HL HC
  have hq0:¬q=0:=by omega
  have HN:Hid (dF (some ⟨q,k,t⟩) seq=if q<seq then 1 else if seq=q then 2 else 3):=rfl
  have HA:Hid (fp (some ⟨q,k,t⟩) seq=if q<seq then (0,0) else if seq=q then (k,t) else (0,0)):=rfl
  generalize dF (some ⟨q,k,t⟩) seq=rn at *
  generalize fp (some ⟨q,k,t⟩) seq=ra at *
  clear hk hq
  go_in
  go_wp2_with fail
  refine (HL.out _ ((ae.rf w).alloc _)).mono ?_
  rintro e w1 ⟨rfl,aA⟩
  have HG:=af (show ae w w1 from ((ae.rf w).alloc _).trans aA)
  have f0:w1.frozen? ⟨w.heap.size,0,none⟩=false:=(aA.cells.2 _ _ (by simp)).trans (by simp [go_sem])
  have f1:w1.frozen? ⟨w.heap.size,1,none⟩=false:=(aA.cells.2 _ _ (by simp)).trans (by simp [go_sem])
  have d0:w1.cell? ⟨w.heap.size,0,none⟩=some (.int .i64 0):=(aA.cells.1 _ _ (by simp)).trans (by simp [go_sem])
  have d1:w1.cell? ⟨w.heap.size,1,none⟩=some (.int .i64 0):=(aA.cells.1 _ _ (by simp)).trans (by simp [go_sem])
  have hz:w.heap.size<w1.heap.size:=ltT (by simp) aA.size
  clear aA HL
  by_cases h1:q<seq
  · obtain rfl:rn=1:=HN.out.trans (zZ1 h1)
    obtain rfl:ra=(0,0):=HA.out.trans (zZ1 h1)
    clear HN HA HC
    go_wp2_with fail
    refine bodyPost_ret (v:=.tuple #[.agg #[.int .i64 0,.int .i64 0],.int .i64 1]) (by simp [results,Tryz.results128,go_sem,d0,d1,f0,f1]) rfl ⟨rfl,?_⟩
    exact ((HG.out.setCell (show w.heap.size<=w.heap.size by omega) _).setCell (show w.heap.size<=w.heap.size by omega) _)
  · by_cases h2:seq=q
    · obtain rfl:rn=2:=HN.out.trans ((zZ0 h1).trans (zZ1 h2))
      obtain rfl:ra=(k,t):=HA.out.trans ((zZ0 h1).trans (zZ1 h2))
      subst h2
      obtain ⟨m,rfl,m1,m2,c0,c1⟩:=HC.out
      have c0:=(HG.out.cells.1 _ _ jG).trans c0
      have c1:=(HG.out.cells.1 _ _ jG).trans c1
      have hrw:=ltT jG HG.out.size
      clear HN HA HC h1
      obtain rfl | rfl | rfl | rfl:m=1\/m=2\/m=3\/m=4:=by omega
      all_goals
       simp only [Nat.reduceMul,Nat.reduceAdd] at c0 c1
       go_wp2_with fail
       refine bodyPost_ret (v:=.tuple #[.agg #[.int .i64 k,.int .i64 t],.int .i64 2]) (by simp [results,Tryz.results128,go_sem,d0,d1,f0,f1]) rfl ⟨rfl,?_⟩
       exact ((HG.out.setCell (show w.heap.size<=w.heap.size by omega) _).setCell (show w.heap.size<=w.heap.size by omega) _)
    · obtain rfl:rn=3:=HN.out.trans ((zZ0 h1).trans (zZ0 h2))
      obtain rfl:ra=(0,0):=HA.out.trans ((zZ0 h1).trans (zZ0 h2))
      have h3:(seq==q)=false:=by simpa using h2
      have h4:(q==0)=false:=by simpa using hq0
      clear HN HA HC
      go_wp2_with fail
      refine bodyPost_ret (v:=.tuple #[.agg #[.int .i64 0,.int .i64 0],.int .i64 3]) (by simp [results,Tryz.results128,go_sem,d0,d1,f0,f1]) rfl ⟨rfl,?_⟩
      exact ((HG.out.setCell (show w.heap.size<=w.heap.size by omega) _).setCell (show w.heap.size<=w.heap.size by omega) _)
theorem zO {w:World} {b o o':Nat} {v u:Value} (h:w.cell? ⟨b,o',none⟩=some u):(w.setCell ⟨b,o,none⟩ v).cell? ⟨b,o',none⟩=some (if o'=o then v else u):=by
 by_cases e:o'=o
 · subst e
   rw [zZ1 rfl]
   exact World.cell?_setCell_same' _ _ _ (by rw [h];rfl)
 · rw [zZ0 e,World.cell?_setCell_other _ _ _ _ (fun q=>e (by injection q with q1 q2;exact q2.symm))]
   exact h
theorem cF.note {w:World} {rb:Nat} {S:Int->Option An} (h:cF w rb S) (c:Nat) (a:An) (h1:1<=c) (h2:c<=4) (h3:a.Ok):
    cF (((w.setCell ⟨rb,c,none⟩ (.int .i64 a.seq)).setCell ⟨rb,5+c*2,none⟩ (.int .i64 a.code)).setCell ⟨rb,6+c*2,none⟩ (.int .i64 a.at_)) rb (dw S c a)/\aj (fun j=>j=rb) w (((w.setCell ⟨rb,c,none⟩ (.int .i64 a.seq)).setCell ⟨rb,5+c*2,none⟩ (.int .i64 a.code)).setCell ⟨rb,6+c*2,none⟩ (.int .i64 a.at_)):=by
 refine ⟨⟨fun j hj=>?_,fun j hj=>?_,fun j hj=>?_,fun o ho=>?_,fun d b hb=>?_⟩,((aj.setCell w ⟨rb,c,none⟩ _).then (aj.setCell _ ⟨rb,5+c*2,none⟩ _)).then (aj.setCell _ ⟨rb,6+c*2,none⟩ _)⟩
 · rw [zO (zO (zO (h.seq j hj))),zZ0 (by omega),zZ0 (by omega)]
   unfold dw
   by_cases e:j=c
   · subst e;rw [zZ1 rfl,zZ1 rfl];rfl
   · rw [zZ0 e,zZ0 (by omega)]
 · rw [zO (zO (zO (h.code j hj))),zZ0 (show ¬5+j*2=6+c*2 by omega)]
   unfold dw
   by_cases e:j=c
   · subst e;rw [zZ1 rfl,zZ1 rfl];rfl
   · rw [zZ0 (show ¬5+j*2=5+c*2 by omega),zZ0 (show ¬5+j*2=c by omega),zZ0 (show ¬(j:Int)=c by omega)]
 · rw [zO (zO (zO (h.at_ j hj)))]
   unfold dw
   by_cases e:j=c
   · subst e;rw [zZ1 rfl,zZ1 rfl];rfl
   · rw [zZ0 (show ¬6+j*2=6+c*2 by omega),zZ0 (show ¬6+j*2=5+c*2 by omega),zZ0 (show ¬6+j*2=c by omega),zZ0 (show ¬(j:Int)=c by omega)]
 · simp only [World.frozen?_setCell]
   exact h.ic o ho
 · unfold dw at hb
   by_cases e:d=c
   · rw [zZ1 e] at hb
     injection hb with hb
     subst hb
     exact ⟨by omega,by omega,h3⟩
   · rw [zZ0 e] at hb;exact h.ok d b hb
theorem Uq {w:World} {rb:Nat} {S:Int->Option An} (h:cF w rb S) (c:Int) (a:An) (h1:1<=c) (h2:c<=4) (h3:a.Ok) (hf:dF (S c) a.seq=1):
    Calls Tryz.prog 131 #[.pointer (some ⟨rb,0,none⟩),.int .i64 c,.int .i64 a.seq,gK a.code a.at_] w fun e w'=>e=.returned (.int .i64 0)/\aj (fun j=>j=rb) w w'/\cF w' rb (dw S c a):=by
 have aq:bT (S c)<a.seq:=by
  have:=h3.s1
  cases hS:S c with
  | none=>unfold bT;dsimp only;omega
  | some b=>
   rw [hS] at hf
   unfold dF at hf
   unfold bT
   dsimp only at hf ⊢
   by_cases q:b.seq<a.seq
   · exact q
   · rw [zZ0 q] at hf;split at hf<;> cases hf
 have jG:=h.lt
 have H:=af h
 have HK:=af h3
 have b1:=h3.s1
 have b2:=h3.s2
 have b3:=h3.c1
 have b4:=h3.a1
 have b5:=h3.a2
 obtain rfl | rfl | rfl | rfl:c=1\/c=2\/c=3\/c=4:=by omega
 · have c0:=h.seq 1 (by decide)
   have c7:=h.code 1 (by decide)
   have c8:=h.at_ 1 (by decide)
   have r0:=h.ic 1 (by decide)
   have r1:=h.ic 7 (by decide)
   have r2:=h.ic 8 (by decide)
   obtain ⟨q,k,t⟩:=a
   unfold gK
   dsimp only at *
   have z1:¬q<1:=by omega
   have z2:¬1073741824<q:=by omega
   have z3:¬k<1:=by omega
   have z4:¬2<k:=by omega
   have z5:¬t<0:=by omega
   have z6:¬4095<t:=by omega
   have z7:¬q<=bT (S ((1:Nat):Int)):=by have:bT (S 1)<q:=aq;exact Int.not_le.2 this
   generalize bT (S ((1:Nat):Int))=q0 at c0 z7
   generalize fQ (S ((1:Nat):Int))=q1 at c7
   generalize pS (S ((1:Nat):Int))=q2 at c8
   simp only [Nat.reduceMul,Nat.reduceAdd] at c7 c8
   clear h h3 hf aq b1 b2 b3 b4 b5
   go_in
   go_wp2_with fail
   go_region
   go_wp2_with fail
   go_ret
   obtain ⟨r1,r2⟩:=H.out.note 1 ⟨q,k,t⟩ (by decide) (by decide) HK.out
   exact ⟨rfl,(r2.alloc _).drew,r1.ag (((ae.rf _).alloc _).drew)⟩
 · have c0:=h.seq 2 (by decide)
   have c7:=h.code 2 (by decide)
   have c8:=h.at_ 2 (by decide)
   have r0:=h.ic 2 (by decide)
   have r1:=h.ic 9 (by decide)
   have r2:=h.ic 10 (by decide)
   obtain ⟨q,k,t⟩:=a
   unfold gK
   dsimp only at *
   have z1:¬q<1:=by omega
   have z2:¬1073741824<q:=by omega
   have z3:¬k<1:=by omega
   have z4:¬2<k:=by omega
   have z5:¬t<0:=by omega
   have z6:¬4095<t:=by omega
   have z7:¬q<=bT (S ((2:Nat):Int)):=by have:bT (S 2)<q:=aq;exact Int.not_le.2 this
   generalize bT (S ((2:Nat):Int))=q0 at c0 z7
   generalize fQ (S ((2:Nat):Int))=q1 at c7
   generalize pS (S ((2:Nat):Int))=q2 at c8
   simp only [Nat.reduceMul,Nat.reduceAdd] at c7 c8
   clear h h3 hf aq b1 b2 b3 b4 b5
   go_in
   go_wp2_with fail
   go_region
   go_wp2_with fail
   go_ret
   obtain ⟨r1,r2⟩:=H.out.note 2 ⟨q,k,t⟩ (by decide) (by decide) HK.out
   exact ⟨rfl,(r2.alloc _).drew,r1.ag (((ae.rf _).alloc _).drew)⟩
 · have c0:=h.seq 3 (by decide)
   have c7:=h.code 3 (by decide)
   have c8:=h.at_ 3 (by decide)
   have r0:=h.ic 3 (by decide)
   have r1:=h.ic 11 (by decide)
   have r2:=h.ic 12 (by decide)
   obtain ⟨q,k,t⟩:=a
   unfold gK
   dsimp only at *
   have z1:¬q<1:=by omega
   have z2:¬1073741824<q:=by omega
   have z3:¬k<1:=by omega
   have z4:¬2<k:=by omega
   have z5:¬t<0:=by omega
   have z6:¬4095<t:=by omega
   have z7:¬q<=bT (S ((3:Nat):Int)):=by have:bT (S 3)<q:=aq;exact Int.not_le.2 this
   generalize bT (S ((3:Nat):Int))=q0 at c0 z7
   generalize fQ (S ((3:Nat):Int))=q1 at c7
   generalize pS (S ((3:Nat):Int))=q2 at c8
   simp only [Nat.reduceMul,Nat.reduceAdd] at c7 c8
   clear h h3 hf aq b1 b2 b3 b4 b5
   go_in
   go_wp2_with fail
   go_region
   go_wp2_with fail
   go_ret
   obtain ⟨r1,r2⟩:=H.out.note 3 ⟨q,k,t⟩ (by decide) (by decide) HK.out
   exact ⟨rfl,(r2.alloc _).drew,r1.ag (((ae.rf _).alloc _).drew)⟩
 · have c0:=h.seq 4 (by decide)
   have c7:=h.code 4 (by decide)
   have c8:=h.at_ 4 (by decide)
   have r0:=h.ic 4 (by decide)
   have r1:=h.ic 13 (by decide)
   have r2:=h.ic 14 (by decide)
   obtain ⟨q,k,t⟩:=a
   unfold gK
   dsimp only at *
   have z1:¬q<1:=by omega
   have z2:¬1073741824<q:=by omega
   have z3:¬k<1:=by omega
   have z4:¬2<k:=by omega
   have z5:¬t<0:=by omega
   have z6:¬4095<t:=by omega
   have z7:¬q<=bT (S ((4:Nat):Int)):=by have:bT (S 4)<q:=aq;exact Int.not_le.2 this
   generalize bT (S ((4:Nat):Int))=q0 at c0 z7
   generalize fQ (S ((4:Nat):Int))=q1 at c7
   generalize pS (S ((4:Nat):Int))=q2 at c8
   simp only [Nat.reduceMul,Nat.reduceAdd] at c7 c8
   clear h h3 hf aq b1 b2 b3 b4 b5
   go_in
   go_wp2_with fail
   go_region
   go_wp2_with fail
   go_ret
   obtain ⟨r1,r2⟩:=H.out.note 4 ⟨q,k,t⟩ (by decide) (by decide) HK.out
   exact ⟨rfl,(r2.alloc _).drew,r1.ag (((ae.rf _).alloc _).drew)⟩
end
section
open Go.RowKit Go.Maps Go.ChangeMaps Go.MapKept Go.WideShapes
section
variable {w:World} {P:Program} {k e t:TypeId} {b n r cnt:Nat} {f:Lit->Option Value} {left:Lit->Bool}
end
end
section
open Go.RowKit Go.Maps
attribute [local go_sem] Oper.semAt_some aT
def dI (S T:Int->Option An) (n:Nat) (x:Int):Option An:=if 1<=x/\x<n/\bT (S x)<bT (T x) then T x else S x
theorem Wm (S T:Int->Option An):dI S T 1=S:=funext fun x=>by
 unfold dI
 rw [zZ0 (by omega)]
theorem Wn (S T:Int->Option An) (n:Nat):dI S T n (n:Int)=S n:=by
 unfold dI
 rw [zZ0 (by omega)]
theorem Wo (S T:Int->Option An) (n:Nat) (a:An) (h1:1<=n) (hT:T n=some a) (aq:bT (S n)<bT (T n)):dI S T (n+1)=dw (dI S T n) n a:=funext fun x=>by
 unfold dI dw
 by_cases e:x=(n:Int)
 · subst e
   rw [zZ1 ⟨by omega,by omega,aq⟩,zZ1 rfl,hT]
 · rw [zZ0 e]
   dsimp only
   by_cases q:1<=x/\x<n/\bT (S x)<bT (T x)
   · rw [zZ1 q,zZ1 ⟨q.1,by omega,q.2.2⟩]
   · rw [zZ0 q,zZ0 fun r=>q ⟨r.1,by omega,r.2.2⟩]
theorem Rf (S T:Int->Option An) (n:Nat) (aq:¬bT (S n)<bT (T n)):dI S T (n+1)=dI S T n:=funext fun x=>by
 unfold dI
 by_cases e:x=(n:Int)
 · subst e
   rw [zZ0 fun q=>aq q.2.2,zZ0 fun q=>aq q.2.2]
 · by_cases q:1<=x/\x<n/\bT (S x)<bT (T x)
   · rw [zZ1 q,zZ1 ⟨q.1,by omega,q.2.2⟩]
   · rw [zZ0 q,zZ0 fun r=>q ⟨r.1,by omega,r.2.2⟩]
structure JSq (wv:World) (R:World->Prop) (L:Nat->Bool) (f:Nat->Value) (x:World):Prop where
 pre:L 19=false->ae wv x
 post:L 19=true->R x
theorem y9z {w:World} {sb ob:Nat} {S T:Int->Option An} (h:cF w sb S) (k:cF w ob T) (hne:sb≠ob):
    Calls Tryz.prog 138 #[.pointer (some ⟨sb,0,none⟩),.pointer (some ⟨ob,0,none⟩)] w fun e w'=>e=.returned (.tuple #[])/\aj (fun j=>j=sb) w w'/\cF w' sb (dI S T 5):=by
 have ia:=h.lt
 have gL:=k.lt
 have H:=af h
 have K:=af k
 clear h k
 go_in
 go_wp2_with fail
 go_loopw [4] (fun i wr=>∃c:Nat,1<=c/\c<=5/\i=.int .i64 c/\Hid (cF wr sb (dI S T c)/\aj (fun j=>j=sb) w wr)) (fun i _=>5 - (intOf i).toNat)
 case atStart=>exact ⟨1,by omega,by omega,rfl,⟨by rw [Wm];exact H.out,(ae.rf w).only _⟩⟩
 case round=>
  obtain ⟨c,hc1,hc5,rfl,HM⟩:=hrel
  obtain ⟨wo,rfl⟩:∃wo:World,wo=wr:=⟨_,rfl⟩
  have ks:=af (K.out.kept HM.out.2 fun e=>hne e.symm)
  by_cases aq:c<5
  · have s0:=HM.out.1.seq c aq
    rw [Wn] at s0
    have o0:=ks.out.seq c aq
    have Rb:(c:Int)<5:=by omega
    generalize hq:bT (S (c:Int))=q1 at s0
    generalize hr:bT (T (c:Int))=q2 at o0
    have HQ:=af (And.intro hq hr)
    clear hq hr
    by_cases hgt:q2 > q1
    · obtain ⟨ta,C9⟩:∃ta,T (c:Int)=some ta:=by
       cases hT:T (c:Int) with
       | none=>
        have e2:=HQ.out.2
        rw [hT] at e2
        have e1:=HQ.out.1
        have h0:0<=bT (S (c:Int)):=by
         cases hS:S (c:Int) with
         | none=>exact Int.le_refl _
         | some b=>have:=(H.out.ok _ b hS).2.2.s1;show (0:Int)<=b.seq;omega
        have e3:(0:Int)=q2:=e2
        omega
       | some ta=>exact ⟨ta,rfl⟩
      have o7:=ks.out.code c aq
      have o8:=ks.out.at_ c aq
      have o8:wo.cell? ⟨ob,5+c*2+1,none⟩=some (.int .i64 (pS (T (c:Int)))):=by rw [show 5+c*2+1=6+c*2 from by omega];exact o8
      have s7:=HM.out.1.code c aq
      have s8:=HM.out.1.at_ c aq
      obtain ⟨v8,s8⟩:∃v,wo.cell? ⟨sb,5+c*2+1,none⟩=some v:=⟨_,by rw [show 5+c*2+1=6+c*2 from by omega];exact s8⟩
      have f0:=HM.out.1.ic c (by omega)
      have f7:=HM.out.1.ic (5+c*2) (by omega)
      have f8:=HM.out.1.ic (5+c*2+1) (by omega)
      have Ay:=af C9
      have hok:=(K.out.ok _ ta C9).2.2
      have FX:q2=ta.seq:=by have:=HQ.out.2;rw [C9] at this;exact this.symm
      have hjn:=Wo S T c ta hc1 C9 (by rw [HQ.out.1,HQ.out.2];exact hgt)
      have Ed:=af hjn
      rw [C9] at o7 o8
      have o7:wo.cell? ⟨ob,5+c*2,none⟩=some (.int .i64 ta.code):=o7
      have o8:wo.cell? ⟨ob,5+c*2+1,none⟩=some (.int .i64 ta.at_):=o8
      have mf:=af hok
      clear C9 hok hjn
      subst FX
      have xq:=ltT gL HM.out.2.size
      have o9:=ltT ia HM.out.2.size
      go_wp2_with fail
      go_region
      obtain ⟨wv,Rg⟩:∃wv,wv=wo.drew:=⟨_,rfl⟩
      have gv:ae wo wv:=by rw [Rg];exact (ae.rf wo).drew
      rw [<-Rg]
      clear Rg
      have o0:=(gv.cells.1 _ _ xq).trans o0
      have o7:=(gv.cells.1 _ _ xq).trans o7
      have o8:=(gv.cells.1 _ _ xq).trans o8
      have s0:=(gv.cells.1 _ _ o9).trans s0
      have s7:=(gv.cells.1 _ _ o9).trans s7
      have s8:=(gv.cells.1 _ _ o9).trans s8
      have f0:=(gv.cells.2 _ _ o9).trans f0
      have f7:=(gv.cells.2 _ _ o9).trans f7
      have f8:=(gv.cells.2 _ _ o9).trans f8
      have Wp:=af (And.intro (HM.out.1.ag gv) (HM.out.2.cm gv))
      have EF:=ltT xq gv.size
      have sJ:=ltT o9 gv.size
      clear gv xq o9 HM ks
      go_upto_region 4 with fail
      obtain ⟨I,hI⟩:∃I:World->Prop,I=fun x=>aj (fun j=>j=sb) wv x:=⟨_,rfl⟩
      have qx:∀x,I x->aj (fun j=>j=sb) wv x:=fun x h=>by rw [hI] at h;exact h
      have sH:∀x,aj (fun j=>j=sb) wv x->I x:=fun x h=>by rw [hI];exact h
      clear hI
      have C0:∀p:Wd I,p.w.cell? ⟨ob,c,none⟩=some (.int .i64 ta.seq):=fun p=>((qx p.w p.ok).cell EF (fun e=>hne e.symm) _).trans o0
      have C7:∀p:Wd I,p.w.cell? ⟨ob,5+c*2,none⟩=some (.int .i64 ta.code):=fun p=>((qx p.w p.ok).cell EF (fun e=>hne e.symm) _).trans o7
      have C8:∀p:Wd I,p.w.cell? ⟨ob,5+c*2+1,none⟩=some (.int .i64 ta.at_):=fun p=>((qx p.w p.ok).cell EF (fun e=>hne e.symm) _).trans o8
      have mL:Nonempty (Wd I):=⟨⟨wv,sH wv ((ae.rf wv).only _)⟩⟩
      have JU:=af sH
      clear qx sH
      refine kW 22 [19] I Eq (JSq wv (fun x=>∃y,ae wv y/\x=y.setCell ⟨sb,c,none⟩ (.int .i64 ta.seq))) (fun _ a=>a) (by kernel_rfl) (by kernel_rfl) (fun _ _=>rfl) ⟨fun _=>(ae.rf wv).drew,fun h=>(by cases h)⟩ (fun L0 f x h=>?_) (fun _=>rfl) (fun L0 f x x' h g=>g▸h) ?_
      · cases q:L0 19 with
        | false=>exact JU.out x ((h.pre q).only _)
        | true=>
         obtain ⟨y,hy,rfl⟩:=h.post q
         exact JU.out _ ((hy.only _).then (aj.setCell y ⟨sb,c,none⟩ _))
      repeat (first
       | refine kV ?_
       | (refine fF ?_;intro K hK;go_big_quiet_op;go_big_quiet_on)
       | (refine fE ?_;simp only [Act.put,sA,sB,sC]))
      refine iH (by rfl) ⟨⟨bH rfl (fun _ a=>a) (fun _ _=>rfl) (fun _=>rfl) ?_,trivial⟩,?_⟩
      · intro L0 f x hJ hL hd
        have hG:=hJ.pre hL
        have t0:=(hG.cells.1 _ _ sJ).trans s0
        have g0:=(hG.cells.2 _ _ sJ).trans f0
        have eo:=af hG
        clear hJ hL hd C0 C7 C8 hG
        go_simp
        exact ⟨fun h=>(by rw [yE] at h;cases h),fun _=>⟨x,eo.out,rfl⟩⟩
      intro f x hJ
      obtain ⟨y,hy,rfl⟩:=hJ.post rfl
      have t7:=(hy.cells.1 _ _ sJ).trans s7
      have t8:=(hy.cells.1 _ _ sJ).trans s8
      have g7:=(hy.cells.2 _ _ sJ).trans f7
      have g8:=(hy.cells.2 _ _ sJ).trans f8
      have Az:=af hy
      clear hJ C0 C7 C8 mL hy s0 s7 s8 f0 f7 f8 o0 o7 o8
      dsimp only [List.drop]
      go_wp2_with fail
      go_roundw
      case rel=>
       obtain ⟨r1,r2⟩:=(Wp.out.1.ag Az.out).note c ta hc1 (by omega) mf.out
       rw [show 6+c*2=5+c*2+1 from by omega] at r1 r2
       exact ⟨c+1,by omega,by omega,by go_num,⟨by rw [Ed.out];exact r1,(Wp.out.2.cm Az.out).then r2⟩⟩
      case measure=>simp [intOf];omega
    · go_wp2_with fail
      go_region
      go_wp2_with fail
      go_roundw
      case rel=>exact ⟨c+1,by omega,by omega,by go_num,⟨by rw [Rf S T c (by rw [HQ.out.1,HQ.out.2];omega)];exact HM.out.1.ag (ae.rf _).drew,HM.out.2.drew⟩⟩
      case measure=>simp [intOf];omega
  · obtain rfl:c=5:=by omega
    go_wp2_with fail
    go_end0
    exact ⟨rfl,HM.out.2,HM.out.1⟩
end
end Go.Proofs.YtbnofojapimfcaaGreatDoor
