/- Part 10. -/
import Derived.Test.YtgegogoanbamfaaGreatDoorFinAuditPlaysQ2
import Derived.Test.YtgegogoanbamfaaGreatDoorFinAuditPlaysQ7
import Derived.Maps.Keyed
import Derived.Shelf.SlIterI.Nil
import Derived.Shelf.SortM.Plain
import Derived.Shelf.SortM.SortNone
import Derived.Lib.SlKeysI
import Derived.RangeFuncNested
import Derived.RangeFuncBound
import Derived.RangeFuncCalls
import Derived.RangeFuncLeaves
import Derived.RangeFuncBox
import Derived.Shelf.Abstract
import Derived.Shelf.AbstractIn
import Derived.Shelf.RegionOpen
import Derived.TacticsInMore
import Derived.LoopNIn
import Derived.LoopIn
import Derived.Deep.Cut
set_option linter.unusedVariables false
set_option linter.unusedSectionVars false
set_option linter.unusedSimpArgs false
set_option maxRecDepth 100000
set_option maxHeartbeats 16000000
namespace Go.Proofs.YtgegogoanbamfaaGreatDoor
namespace Pl
end Pl
open Pl Go.Proofs.Tryz Go.RowKit Go.Maps
attribute [local go_sem] Oper.semAt_some
section
structure An where
 seq:Int
 cI:Int
 at_:Int
def An.agg (a:An):Value:=.agg #[.int .i64 a.seq,.int .i64 a.cI,.int .i64 a.at_]
def fQ (cI at_:Int):Value:=.agg #[.int .i64 cI,.int .i64 at_]
def bt (c:Int):Lit:=.int .i64 c
theorem qH {c:Int}(h1: -9223372036854775808<=c)(h2:c<9223372036854775808):(Lit.int .i64 c).wf=true:=by
 simp[Lit.wf,IntKind.min,IntKind.max,IntKind.bits,IntKind.signed];try omega
theorem ng:Keyed prog 3:=int_keyed underlying3
theorem Q0 (w:World):(zeroValue 179).run prog w=.ok (.agg #[.int .i64 0,.int .i64 0,.int .i64 0]) w:=by kernel_rfl
structure An.Ok (a:An):Prop where
 s1:1<=a.seq
 s2:a.seq<=1073741824
 c1:a.cI=1\/a.cI=2
 a1:0<=a.at_
 a2:a.at_<4096
structure qI (w:World)(F:Nat->Prop)(sb mb n:Nat)(f:Lit->Option Value)(S:Int->Option An):Prop where
 c0:w.cell? ⟨sb,0,none⟩=some (.map (some mb))
 lm:bU w prog 3 mb n f
 val:∀c,f (bt c)=(S c).map An.agg
 lit:∀l,f l≠none->∃c,l=bt c
 ok:∀c a,S c=some a->1<=c/\c<=4/\a.Ok
 bH:F sb
 aY:F mb
 ne:sb≠mb
 lt:∀j,F j->j<w.heap.size
def lh (w:World)(F:Nat->Prop)(sb n:Nat)(S:Int->Option An):Prop:=∃mb f,qI w F sb mb n f S
section
variable {w w':World}{F T:Nat->Prop}{sb mb n:Nat}{f:Lit->Option Value}{S:Int->Option An}
theorem qI.aC (h:qI w F sb mb n f S)(g:ar T w w')(hT:∀j,F j->¬T j):qI w' F sb mb n f S where
 c0:=(g.cell (bf h.c0) (hT _ h.bH) 0).trans h.c0
 lm:=h.lm.aC g (hT _ h.aY)
 val:=h.val
 lit:=h.lit
 ok:=h.ok
 bH:=h.bH
 aY:=h.aY
 ne:=h.ne
 lt:=fun j hj=>xA9 (h.lt j hj) g.size
theorem lh.aC (h:lh w F sb n S)(g:ar T w w')(hT:∀j,F j->¬T j):lh w' F sb n S:=by
 obtain⟨mb,f,h⟩:=h;exact⟨mb,f,h.aC g hT⟩
theorem lh.ah (h:lh w F sb n S)(g:ae w w'):lh w' F sb n S:=h.aC (g.only fun _=>False) (fun _ _ h=>h)
theorem lh.lt (h:lh w F sb n S):∀j,F j->j<w.heap.size:=by obtain⟨mb,f,h⟩:=h;exact h.lt
theorem qI.look (h:qI w F sb mb n f S)(g:ae w w')(c:Int)(h1: -9223372036854775808<=c)(h2:c<9223372036854775808):(Instr.lookup 169 (.map (some mb)) (.int .i64 c) true).run prog w'=.ok (.tuple #[((S c).map An.agg).getD (.agg #[.int .i64 0,.int .i64 0,.int .i64 0]),.bool (S c).isSome]) w':=by
 have:=(h.lm.ah g).pK ng underlying169 (Q0 w') (keyOf_int_mk underlying3 (qH h1 h2));rw[show(Lit.int .i64 c)=bt c from rfl,h.val]at this;rw[this];cases S c<;> rfl
end
def TU (w:World)(F:Nat->Prop)(sb n:Nat)(S:Int->Option An)(w':World):Prop:=ar F w w'/\lh w' F sb n S
theorem yL (w:World):Calls prog 50 #[] w fun e w'=>∃sb F,e=.returned (.pointer (some ⟨sb,0,none⟩))/\lh w' F sb 0 (fun _=>none)/\(∀j,F j->w.heap.size<=j)/\ae w w':=by
 have hM:=bU.made w prog 3;have g1:ae w (w.alloc (.map #[] 0)):=(ae.rf w).alloc _;have HF:Hid (∃F,lh ((w.alloc (.map #[] 0)).alloc (.cells #[.map (some w.heap.size)] 171)) F (w.heap.size+1) 0 (fun _=>none)/\(∀j,F j->w.heap.size<=j)/\ae w ((w.alloc (.map #[] 0)).alloc (.cells #[.map (some w.heap.size)] 171))):=by
  refine⟨fun j=>j=w.heap.size\/j=w.heap.size+1,⟨w.heap.size,_,⟨by simp[go_sem],hM.ah ((ae.rf _).alloc _),fun c=>rfl,(fun l h=>absurd rfl h),(fun c a h=>by cases h),.inr rfl,.inl rfl,by omega,fun j hj=>?_⟩⟩,fun j hj=>?_,g1.alloc _⟩
  . simp;rcases hj with hj | hj<;> omega
  . rcases hj with hj | hj<;> omega
 clear hM g1;have qJ:=@run_makeMap prog;go_in;go_wp2_with fail;go_ret;obtain⟨F,h1,h2,h3⟩:=HF.out;exact⟨_,F,rfl,h1,h2,h3⟩
def eX (o:Option An)(seq:Int):Int:=match o with | none=>1 | some a=>if a.seq<seq then 1 else if seq=a.seq then 2 else 3
def gS (o:Option An)(seq:Int):Int×Int:=match o with | none=>(0,0) | some a=>if a.seq<seq then(0,0)else if seq=a.seq then(a.cI,a.at_)else(0,0)
theorem TV {w:World}{F:Nat->Prop}{sb n:Nat}{S:Int->Option An}(h:lh w F sb n S)(c seq:Int)(h1: -9223372036854775808<=c)(h2:c<9223372036854775808):
    Calls prog 112 #[.pointer (some ⟨sb,0,none⟩),.int .i64 c,.int .i64 seq] w fun e w'=>e=.returned (.tuple #[fQ (gS (S c) seq).1 (gS (S c) seq).2,.int .i64 (eX (S c) seq)])/\ae w w':=by
 obtain⟨mb,f,h⟩:=h;have c0:=h.c0;have iA:sb<w.heap.size:=bf c0;have hlk:=h.look ((ae.rf w).alloc (.cells #[.int .i64 0,.int .i64 0] 50)) c h1 h2;clear h;have g2:ae w ((w.alloc (.cells #[.int .i64 0,.int .i64 0] 50)).alloc (.cells #[.int .i64 0,.int .i64 0,.int .i64 0] 179)):=((ae.rf w).alloc _).alloc _;have cA:=af g2;have fI:=af (fun(x y z:Int)=>show ae w ((w.alloc (.cells #[.int .i64 0,.int .i64 0] 50)).alloc (.cells #[.int .i64 x,.int .i64 y,.int .i64 z] 179))from((ae.rf w).alloc _).alloc _);have mm:=af (fun(u v x y z:Int)=>show ae w ((w.alloc (.cells #[.int .i64 u,.int .i64 v] 50)).alloc (.cells #[.int .i64 x,.int .i64 y,.int .i64 z] 179))from((ae.rf w).alloc _).alloc _);clear g2;cases hS:S c with
 | none=>
  rw[hS]at hlk;clear hS;go_in;go_wp2_with fail;exact wZ1 (v:=.tuple #[.agg #[.int .i64 0,.int .i64 0],.int .i64 1]) (by simp[results,results112,go_sem]) rfl ⟨rfl,cA⟩
 | some a=>
  rw[hS]at hlk;clear hS;obtain⟨q,k,t⟩:=a;have HN:Hid (eX (some ⟨q,k,t⟩) seq=if q<seq then 1 else if seq=q then 2 else 3):=rfl;have HA:Hid (gS (some ⟨q,k,t⟩) seq=if q<seq then(0,0)else if seq=q then(k,t)else(0,0)):=rfl;by_cases h1:q<seq
  . unfold An.agg at hlk;dsimp only[Option.map_some,Option.getD_some,Option.isSome_some]at hlk;have e1:eX (some ⟨q,k,t⟩) seq=1:=(by rw[HN.out,zZ1 h1]);have e2:gS (some ⟨q,k,t⟩) seq=(0,0):=(by rw[HA.out,zZ1 h1]);rw[e1,e2];clear e1 e2;go_in;go_wp2_with fail;exact wZ1 (v:=.tuple #[.agg #[.int .i64 0,.int .i64 0],.int .i64 1]) (by simp[results,results112,go_sem]) rfl ⟨rfl,fI _ _ _⟩
  . by_cases h2:seq=q
    . unfold An.agg at hlk;dsimp only[Option.map_some,Option.getD_some,Option.isSome_some]at hlk;have e1:eX (some ⟨q,k,t⟩) seq=2:=(by rw[HN.out,zZ0 h1,zZ1 h2]);have e2:gS (some ⟨q,k,t⟩) seq=(k,t):=(by rw[HA.out,zZ0 h1,zZ1 h2]);rw[e1,e2];subst h2;clear e1 e2;go_in;go_wp2_with fail;refine wZ1 (v:=.tuple #[.agg #[.int .i64 k,.int .i64 t],.int .i64 2]) (by simp[results,results112,go_sem]) rfl ⟨rfl,mm _ _ _ _ _⟩
    . unfold An.agg at hlk;dsimp only[Option.map_some,Option.getD_some,Option.isSome_some]at hlk;have e1:eX (some ⟨q,k,t⟩) seq=3:=(by rw[HN.out,zZ0 h1,zZ0 h2]);have e2:gS (some ⟨q,k,t⟩) seq=(0,0):=(by rw[HA.out,zZ0 h1,zZ0 h2]);rw[e1,e2];clear e1 e2;go_in;go_wp2_with fail;exact wZ1 (v:=.tuple #[.agg #[.int .i64 0,.int .i64 0],.int .i64 3]) (by simp[results,results112,go_sem]) rfl ⟨rfl,fI _ _ _⟩
theorem z3s (w:World)(c:Int)(a:An)(h1:1<=c)(h2:c<=4)(h3:a.Ok):Calls prog 136 #[.int .i64 c,.int .i64 a.seq,fQ a.cI a.at_] w fun e w'=>e=.returned (.bool true)/\ae w w':=by
 obtain⟨q,k,t⟩:=a;obtain⟨s1,s2,c1,a1,a2⟩:=h3;dsimp only at *;unfold fQ;have HG:=af ((ae.rf w).alloc (.cells #[.int .i64 k,.int .i64 t] 50));rcases c1 with rfl | rfl
 . go_in;go_wp2_with fail;go_ret;exact⟨rfl,HG⟩
 . go_in;go_wp2_with fail;go_ret;exact⟨rfl,HG⟩
def eJ (S:Int->Option An)(c:Int)(a:An)(d:Int):Option An:=if d=c then some a else S d
theorem qI.note {w w':World}{F:Nat->Prop}{sb mb n:Nat}{f:Lit->Option Value}{S:Int->Option An}(h:qI w F sb mb n f S)(c:Int)(a:An)(h1:1<=c)(h2:c<=4)(h3:a.Ok)(hn:n<=1000000)(g:ae w w'):
    ∃w2,(Instr.mapUpdate 169 (.map (some mb)) (.int .i64 c) a.agg).run prog w'=.ok () w2/\TU w F sb (n+1) (eJ S c a) w2:=by
 have hg:=h.aC (g.only fun _=>False) (fun _ _ h=>h);obtain⟨w2,hrun,r1,r2⟩:=hg.lm.store (val:=a.agg) ng underlying169 (by unfold maxLen;omega) (keyOf_int_mk underlying3 (qH (c:=c) (by omega) (by omega)));have hO:ar (fun j=>j=mb) w' w2:=ar.eh r2;refine⟨w2,hrun,(g.only F).then (hO.mono fun j hj=> .inl (by rw[hj];exact h.aY)),mb,_,⟨(hO.cell (bf hg.c0) (fun e=>h.ne e) 0).trans hg.c0,r1,fun d=>?_,fun l hl=>?_,fun d b hb=>?_,h.bH,h.aY,h.ne,fun j hj=>xA9 (h.lt j hj) (zZ6 g.size hO.size)⟩⟩
 . unfold fB eJ bt;by_cases hd:d=c
   . subst hd;simp
   . rw[zZ0 hd,zZ0 (fun e=>hd (by injection e)),<-h.val];rfl
 . unfold fB at hl;by_cases hd:l=.int .i64 c
   . exact⟨c,hd⟩
   . rw[zZ0 hd]at hl;exact h.lit l hl
 . unfold eJ at hb;by_cases hd:d=c
   . rw[zZ1 hd]at hb;cases hb;subst hd;exact⟨h1,h2,h3⟩
   . rw[zZ0 hd]at hb;exact h.ok d b hb
theorem z4p {w:World}{F:Nat->Prop}{sb n:Nat}{S:Int->Option An}(h:lh w F sb n S)(c:Int)(a:An)(h1:1<=c)(h2:c<=4)(h3:a.Ok)(hn:n<=1000000)(hf:eX (S c) a.seq=1):
    Calls prog 114 #[.pointer (some ⟨sb,0,none⟩),.int .i64 c,.int .i64 a.seq,fQ a.cI a.at_] w fun e w'=>e=.returned .nilIface/\TU w F sb (n+1) (eJ S c a) w':=by
 have HR:=af (fun W=>z3s W c a h1 h2 h3);have HA:=af (fun W (g:ae w W)=>TV (h.ah g) c a.seq (by omega) (by omega));obtain⟨mb,f,h⟩:=h;have c0:=h.c0;have iA:sb<w.heap.size:=bf c0;have HST:=af (fun W (g:ae w W)=>h.note c a h1 h2 h3 hn g);rw[hf]at HA;clear h hf;obtain⟨q,k,t⟩:=a;unfold fQ An.agg at *;dsimp only at *;generalize gS (S c) q=aa at *;go_in;go_wp2_with fail;refine(HR _).mono ?_;rintro e w1 ⟨rfl,aR⟩;have gh:=((ae.rf w).alloc (.cells #[.int .i64 k,.int .i64 t] 50)).trans aR;have hz:w.heap.size<w1.heap.size:=xA9 (by simp) aR.size;have d0:w1.cell? ⟨w.heap.size,0,none⟩=some (.int .i64 k):=(aR.cells.1 _ _ (by simp)).trans (by simp[go_sem]);have d1:w1.cell? ⟨w.heap.size,1,none⟩=some (.int .i64 t):=(aR.cells.1 _ _ (by simp)).trans (by simp[go_sem]);have ct:=af gh;have HD:=af (And.intro hz (And.intro d0 d1));clear aR gh hz d0 d1;go_wp2_with fail;refine(HA _ ct).mono ?_;rintro e w2 ⟨rfl,aP⟩;obtain⟨hz,d0,d1⟩:=HD.out;have bW:=ct.trans aP;have e0:=(aP.cells.1 _ 0 hz).trans d0;have e1:=(aP.cells.1 _ 1 hz).trans d1;have hz2:=xA9 hz aP.size;have cA:=af bW;have HE:=af (And.intro hz2 (And.intro e0 e1));clear aP bW hz d0 d1 e0 e1 hz2;go_wp2_with fail;obtain⟨Y,hY⟩:∃Y,Y=w2.alloc (.cells #[.int .i64 aa.1,.int .i64 aa.2] 50):=⟨_,rfl⟩
 have FE:ae w2 Y:=by rw[hY];exact(ae.rf w2).alloc _
 have dg:=af (cA.trans FE);have C0:=bj ((dg.cells.1 _ 0 iA).trans c0);obtain⟨hz2,e0,e1⟩:=HE.out;have D0:=bj ((FE.cells.1 _ 0 hz2).trans e0);have D1:=bj ((FE.cells.1 _ 1 hz2).trans e1);rw[<-hY];clear hY FE hz2 e0 e1 c0;refine pO 8 ?_;repeat (first|(refine gg ?_;intros;go_big_quiet_op;go_big_quiet_on)|(refine fZ ?_;simp only[Act.put,xB9,xC9,xD9]))
 refine jB (by rfl) ?_;intro x hG;obtain⟨w3,hrun,hT⟩:=HST x (dg.trans hG);have eH:=af hrun;have HT:=af hT;clear hrun hT C0 D0 D1 hG;dsimp only[List.drop];go_wp2_with (at_mapUpdate;refine H3 rfl _ _ _ rfl rfl rfl rfl eH.out ?_);go_wp2_with fail;go_ret;exact⟨rfl,HT⟩
end
theorem y8Q {w:World}{mb:Nat}{es:Array MapEntry}{clock:Nat}(h:w.heap[mb]? =some (.map es clock)):(callFunc 55 #[.iface 169 (.map (some mb))]).run prog w=.ok (.value (.iface 169 (.map (some w.heap.size)))) (w.alloc (.map es clock)):=by
 rw[run_callFunc_extern (P:=prog) (e:=Extern.MapsClone.clone) func55 (by kernel_rfl) (by kernel_rfl) (by kernel_rfl) (by kernel_rfl)];have h2:(Extern.MapsClone.clone #[.iface 169 (.map (some mb))]).run prog w=.ok (.iface 169 (.map (some w.heap.size))) (w.alloc (.map es clock)):=by
  have e:Extern.MapsClone.clone #[.iface 169 (.map (some mb))]=(getObj mb >>=fun o=>match o with
   | .map es c=>newObj (.map es c) >>=fun r=>pure (.iface 169 (.map (some r)))
   | _=>stuck "maps.clone: a map expected"):=rfl
  rw[e];rw[Sem.run_bind,Go.run_getObj_map w mb es clock h];rfl
 rw[h2];rfl
theorem bU.again {w:World}{P:Program}{k:TypeId}{mb n:Nat}{f:Lit->Option Value}(h:bU w P k mb n f):∃es clock,w.heap[mb]? =some (.map es clock)/\bU (w.alloc (.map es clock)) P k w.heap.size n f:=by
 obtain⟨D,⟨es,clock,hb,hF,hn,hD⟩,hl⟩:=h;exact⟨es,clock,hb,D,⟨es,clock,wZ0 w _,hF,hn,hD⟩,hl⟩
theorem z4y {w:World}{mb n:Nat}{f:Lit->Option Value}(h:bU w prog 3 mb n f):
    Calls prog 96 #[.map (some mb)] w fun e w'=>e=.returned (.map (some w.heap.size))/\bU w' prog 3 w.heap.size n f/\ae w w'/\w.heap.size<w'.heap.size:=by
 obtain⟨es,clock,hb,hL⟩:=h.again;have fP:=y8Q hb;have heq:(binOp .eql 169 (.map (some mb)) (.map none)).run prog w=.ok (.bool false) w:=by kernel_rfl
 have FH:∀(x:Nat) (W:World),(Instr.typeAssert (.iface 169 (.map (some x))) 20 169 false).run prog W=.ok (.map (some x)) W:=fun x W=>by kernel_rfl
 have hF:=af (And.intro hL (And.intro ((ae.rf w).alloc (.map es clock)) (show w.heap.size<(w.alloc (.map es clock)).heap.size by simp)));clear hL h;go_in;go_wp2_with fail;go_ret;exact⟨rfl,hF.out⟩
theorem Zi {w:World}{F:Nat->Prop}{sb n:Nat}{S:Int->Option An}(h:lh w F sb n S):
    Calls prog 57 #[.pointer (some ⟨sb,0,none⟩)] w fun e w'=>∃cb G,e=.returned (.pointer (some ⟨cb,0,none⟩))/\lh w' G cb n S/\(∀j,G j->w.heap.size<=j)/\ae w w':=by
 obtain⟨mb,f,h⟩:=h;have c0:=h.c0;have iA:sb<w.heap.size:=bf c0;have HC:=af (z4y h.lm);have HV:=af (And.intro h.val (And.intro h.lit h.ok));clear h;go_in;go_wp2_with fail;refine HC.mono ?_;rintro e w1 ⟨rfl,hL,hg,hz⟩;have HF:Hid (∃G,lh (w1.alloc (.cells #[.map (some w.heap.size)] 171)) G w1.heap.size n S/\(∀j,G j->w.heap.size<=j)/\ae w (w1.alloc (.cells #[.map (some w.heap.size)] 171))):=by
  refine⟨fun j=>j=w.heap.size\/j=w1.heap.size,⟨w.heap.size,f,⟨by simp[go_sem],hL.ah ((ae.rf _).alloc _),HV.1,HV.2.1,HV.2.2,.inr rfl,.inl rfl,by omega,fun j hj=>?_⟩⟩,fun j hj=>?_,hg.alloc _⟩
  . simp;rcases hj with hj | hj<;> omega
  . have:=hg.size;rcases hj with hj | hj<;> omega
 clear hL hg hz;go_wp2_with fail;go_ret;obtain⟨G,h1,h2,h3⟩:=HF.out;exact⟨_,G,rfl,h1,h2,h3⟩
section
def cM (o:Option An):Int:=match o with | none=>0 | some a=>a.seq
def ia (o:Option An):Int:=match o with | none=>0 | some a=>a.cI
def sI (o:Option An):Int:=match o with | none=>0 | some a=>a.at_
structure dy (w:World)(rb:Nat)(S:Int->Option An):Prop where
 seq:∀c:Nat,c<5->w.cell? ⟨rb,c,none⟩=some (.int .i64 (cM (S c)))
 cI:∀c:Nat,c<5->w.cell? ⟨rb,5+c*2,none⟩=some (.int .i64 (ia (S c)))
 at_:∀c:Nat,c<5->w.cell? ⟨rb,6+c*2,none⟩=some (.int .i64 (sI (S c)))
 jt:∀o,o<15->w.frozen? ⟨rb,o,none⟩=false
 ok:∀c a,S c=some a->1<=c/\c<=4/\a.Ok
section
variable {w w':World}{T:Nat->Prop}{rb:Nat}{S:Int->Option An}
theorem dy.lt (h:dy w rb S):rb<w.heap.size:=bf (h.seq 0 (by decide))
theorem dy.aC (h:dy w rb S)(g:ar T w w')(hT:¬T rb):dy w' rb S where
 seq:=fun c hc=>(g.cell h.lt hT _).trans (h.seq c hc)
 cI:=fun c hc=>(g.cell h.lt hT _).trans (h.cI c hc)
 at_:=fun c hc=>(g.cell h.lt hT _).trans (h.at_ c hc)
 jt:=fun o ho=>(g.frozen h.lt hT _).trans (h.jt o ho)
 ok:=h.ok
theorem dy.ah (h:dy w rb S)(g:ae w w'):dy w' rb S:=h.aC (g.only fun _=>False) (fun h=>h)
theorem dy.new (w:World)(T:TypeId):dy (w.alloc (.cells #[.int .i64 0,.int .i64 0,.int .i64 0,.int .i64 0,.int .i64 0,.int .i64 0,.int .i64 0,.int .i64 0,.int .i64 0,.int .i64 0,.int .i64 0,.int .i64 0,.int .i64 0,.int .i64 0,.int .i64 0] T)) w.heap.size (fun _=>none):=by
 refine⟨?_,?_,?_,?_,fun c a h=>by cases h⟩
 . intro c hc;obtain rfl | rfl | rfl | rfl | rfl:c=0\/c=1\/c=2\/c=3\/c=4:=(by omega);all_goals simp[go_sem,cM]
 . intro c hc;obtain rfl | rfl | rfl | rfl | rfl:c=0\/c=1\/c=2\/c=3\/c=4:=(by omega);all_goals simp[go_sem,ia]
 . intro c hc;obtain rfl | rfl | rfl | rfl | rfl:c=0\/c=1\/c=2\/c=3\/c=4:=(by omega);all_goals simp[go_sem,sI]
 . intro o ho;simp[go_sem]
end
theorem z3q {w:World}{rb:Nat}{S:Int->Option An}(h:dy w rb S)(c:Int)(h1:1<=c)(h2:c<=4):
    Calls prog 131 #[.pointer (some ⟨rb,0,none⟩),.int .i64 c] w fun e w'=>e=.returned (.int .i64 (cM (S c)))/\ae w w':=by
 obtain rfl | rfl | rfl | rfl:c=1\/c=2\/c=3\/c=4:=by omega
 . have c0:=h.seq 1 (by decide);have kd:=h.lt;clear h;generalize cM (S ((1:Nat):Int))=q at c0;go_in;go_wp2_with fail;go_ret;exact⟨rfl,ae.rf w⟩
 . have c0:=h.seq 2 (by decide);have kd:=h.lt;clear h;generalize cM (S ((2:Nat):Int))=q at c0;go_in;go_wp2_with fail;go_ret;exact⟨rfl,ae.rf w⟩
 . have c0:=h.seq 3 (by decide);have kd:=h.lt;clear h;generalize cM (S ((3:Nat):Int))=q at c0;go_in;go_wp2_with fail;go_ret;exact⟨rfl,ae.rf w⟩
 . have c0:=h.seq 4 (by decide);have kd:=h.lt;clear h;generalize cM (S ((4:Nat):Int))=q at c0;go_in;go_wp2_with fail;go_ret;exact⟨rfl,ae.rf w⟩
theorem z5N {w:World}{rb:Nat}{S:Int->Option An}(h:dy w rb S)(c seq:Int)(h1:1<=c)(h2:c<=4):
    Calls prog 97 #[.pointer (some ⟨rb,0,none⟩),.int .i64 c,.int .i64 seq] w fun e w'=>e=.returned (.tuple #[fQ (gS (S c) seq).1 (gS (S c) seq).2,.int .i64 (eX (S c) seq)])/\ae w w':=by
 have HL:=af (fun W (g:ae w W)=>z3q (h.ah g) c h1 h2);have kd:=h.lt;have HC:Hid (∃k:Nat,c=k/\1<=k/\k<=4/\w.cell? ⟨rb,5+k*2,none⟩=some (.int .i64 (ia (S c)))/\w.cell? ⟨rb,6+k*2,none⟩=some (.int .i64 (sI (S c)))):=by
  refine⟨c.toNat,by omega,by omega,by omega,?_,?_⟩
  . have:=h.cI c.toNat (by omega);rwa[show((c.toNat:Nat):Int)=c by omega]at this
  . have:=h.at_ c.toNat (by omega);rwa[show((c.toNat:Nat):Int)=c by omega]at this
 have eK:=h.ok c;clear h;unfold fQ;cases hS:S c with
 | none=>
  rw[hS]at HL HC;clear hS eK HC;unfold cM at HL;go_in;go_wp2_with fail;refine(HL _ ((ae.rf w).alloc _)).mono ?_;rintro e w1 ⟨rfl,aR⟩;have HG:=af (show ae w w1 from((ae.rf w).alloc _).trans aR);have f0:w1.frozen? ⟨w.heap.size,0,none⟩=false:=(aR.cells.2 _ _ (by simp)).trans (by simp[go_sem]);have f1:w1.frozen? ⟨w.heap.size,1,none⟩=false:=(aR.cells.2 _ _ (by simp)).trans (by simp[go_sem]);have d0:w1.cell? ⟨w.heap.size,0,none⟩=some (.int .i64 0):=(aR.cells.1 _ _ (by simp)).trans (by simp[go_sem]);have d1:w1.cell? ⟨w.heap.size,1,none⟩=some (.int .i64 0):=(aR.cells.1 _ _ (by simp)).trans (by simp[go_sem]);have hz:w.heap.size<w1.heap.size:=xA9 (by simp) aR.size;clear aR HL;go_wp2_with fail;refine wZ1 (v:=.tuple #[.agg #[.int .i64 0,.int .i64 0],.int .i64 1]) (by simp[results,results97,go_sem,d0,d1,f0,f1]) rfl ⟨rfl,?_⟩;exact((HG.setCell (show w.heap.size<=w.heap.size by omega) _).setCell (show w.heap.size<=w.heap.size by omega) _)
 | some a=>
  have hk:=eK a hS;rw[hS]at HL HC;clear hS eK;obtain⟨q,k,t⟩:=a;have hq:=hk.2.2.s1;dsimp only at hq;unfold cM at HL;unfold ia sI at HC;dsimp only at HL HC;have IU:¬q=0:=by omega
  have HN:Hid (eX (some ⟨q,k,t⟩) seq=if q<seq then 1 else if seq=q then 2 else 3):=rfl;have HA:Hid (gS (some ⟨q,k,t⟩) seq=if q<seq then(0,0)else if seq=q then(k,t)else(0,0)):=rfl;generalize eX (some ⟨q,k,t⟩) seq=rn at *;generalize gS (some ⟨q,k,t⟩) seq=ra at *;clear hk hq;go_in;go_wp2_with fail;refine(HL _ ((ae.rf w).alloc _)).mono ?_;rintro e w1 ⟨rfl,aR⟩;have HG:=af (show ae w w1 from((ae.rf w).alloc _).trans aR);have f0:w1.frozen? ⟨w.heap.size,0,none⟩=false:=(aR.cells.2 _ _ (by simp)).trans (by simp[go_sem]);have f1:w1.frozen? ⟨w.heap.size,1,none⟩=false:=(aR.cells.2 _ _ (by simp)).trans (by simp[go_sem]);have d0:w1.cell? ⟨w.heap.size,0,none⟩=some (.int .i64 0):=(aR.cells.1 _ _ (by simp)).trans (by simp[go_sem]);have d1:w1.cell? ⟨w.heap.size,1,none⟩=some (.int .i64 0):=(aR.cells.1 _ _ (by simp)).trans (by simp[go_sem]);have hz:w.heap.size<w1.heap.size:=xA9 (by simp) aR.size;clear aR HL;by_cases h1:q<seq
  . obtain rfl:rn=1:=HN.trans (zZ1 h1);obtain rfl:ra=(0,0):=HA.trans (zZ1 h1);clear HN HA HC;go_wp2_with fail;refine wZ1 (v:=.tuple #[.agg #[.int .i64 0,.int .i64 0],.int .i64 1]) (by simp[results,results97,go_sem,d0,d1,f0,f1]) rfl ⟨rfl,?_⟩;exact((HG.setCell (show w.heap.size<=w.heap.size by omega) _).setCell (show w.heap.size<=w.heap.size by omega) _)
  . by_cases h2:seq=q
    . obtain rfl:rn=2:=HN.trans ((zZ0 h1).trans (zZ1 h2));obtain rfl:ra=(k,t):=HA.trans ((zZ0 h1).trans (zZ1 h2));subst h2;obtain⟨m,rfl,m1,m2,c0,c1⟩:=HC.out;have c0:=(HG.cells.1 _ _ kd).trans c0;have c1:=(HG.cells.1 _ _ kd).trans c1;have hrw:=xA9 kd HG.size;clear HN HA HC h1;obtain rfl | rfl | rfl | rfl:m=1\/m=2\/m=3\/m=4:=(by omega);all_goals
       simp only[Nat.reduceMul,Nat.reduceAdd]at c0 c1
       go_wp2_with fail
       refine wZ1 (v:=.tuple #[.agg #[.int .i64 k,.int .i64 t],.int .i64 2]) (by simp[results,results97,go_sem,d0,d1,f0,f1]) rfl ⟨rfl,?_⟩
       exact((HG.setCell (show w.heap.size<=w.heap.size by omega) _).setCell (show w.heap.size<=w.heap.size by omega) _)
    . obtain rfl:rn=3:=HN.trans ((zZ0 h1).trans (zZ0 h2));obtain rfl:ra=(0,0):=HA.trans ((zZ0 h1).trans (zZ0 h2));have h3:(seq==q)=false:=(by simpa using h2);have h4:(q==0)=false:=(by simpa using IU);clear HN HA HC;go_wp2_with fail;refine wZ1 (v:=.tuple #[.agg #[.int .i64 0,.int .i64 0],.int .i64 3]) (by simp[results,results97,go_sem,d0,d1,f0,f1]) rfl ⟨rfl,?_⟩;exact((HG.setCell (show w.heap.size<=w.heap.size by omega) _).setCell (show w.heap.size<=w.heap.size by omega) _)
theorem DD {w:World}{b o o':Nat}{v u:Value}(h:w.cell? ⟨b,o',none⟩=some u):(w.setCell ⟨b,o,none⟩ v).cell? ⟨b,o',none⟩=some (if o'=o then v else u):=by
 by_cases e:o'=o
 . subst e;rw[zZ1 rfl];exact World.cell?_setCell_same' _ _ _ (by rw[h];rfl)
 . rw[zZ0 e,World.cell?_setCell_other _ _ _ _ (fun q=>e (by injection q with q1 q2;exact q2.symm))];exact h
theorem dy.note {w:World}{rb:Nat}{S:Int->Option An}(h:dy w rb S)(c:Nat)(a:An)(h1:1<=c)(h2:c<=4)(h3:a.Ok):
    dy (((w.setCell ⟨rb,c,none⟩ (.int .i64 a.seq)).setCell ⟨rb,5+c*2,none⟩ (.int .i64 a.cI)).setCell ⟨rb,6+c*2,none⟩ (.int .i64 a.at_)) rb (eJ S c a)/\ar (fun j=>j=rb) w (((w.setCell ⟨rb,c,none⟩ (.int .i64 a.seq)).setCell ⟨rb,5+c*2,none⟩ (.int .i64 a.cI)).setCell ⟨rb,6+c*2,none⟩ (.int .i64 a.at_)):=by
 refine⟨⟨fun j hj=>?_,fun j hj=>?_,fun j hj=>?_,fun o ho=>?_,fun d b hb=>?_⟩,((ar.setCell w ⟨rb,c,none⟩ _).then (ar.setCell _ ⟨rb,5+c*2,none⟩ _)).then (ar.setCell _ ⟨rb,6+c*2,none⟩ _)⟩
 . rw[DD (DD (DD (h.seq j hj))),zZ0 (by omega),zZ0 (by omega)];unfold eJ;by_cases e:j=c
   . subst e;rw[zZ1 rfl,zZ1 rfl];rfl
   . rw[zZ0 e,zZ0 (by omega)]
 . rw[DD (DD (DD (h.cI j hj))),zZ0 (show ¬5+j*2=6+c*2 by omega)];unfold eJ;by_cases e:j=c
   . subst e;rw[zZ1 rfl,zZ1 rfl];rfl
   . rw[zZ0 (show ¬5+j*2=5+c*2 by omega),zZ0 (show ¬5+j*2=c by omega),zZ0 (show ¬(j:Int)=c by omega)]
 . rw[DD (DD (DD (h.at_ j hj)))];unfold eJ;by_cases e:j=c
   . subst e;rw[zZ1 rfl,zZ1 rfl];rfl
   . rw[zZ0 (show ¬6+j*2=6+c*2 by omega),zZ0 (show ¬6+j*2=5+c*2 by omega),zZ0 (show ¬6+j*2=c by omega),zZ0 (show ¬(j:Int)=c by omega)]
 . simp only[World.frozen?_setCell];exact h.jt o ho
 . unfold eJ at hb;by_cases e:d=c
   . rw[zZ1 e]at hb;injection hb with hb;subst hb;exact⟨by omega,by omega,h3⟩
   . rw[zZ0 e]at hb;exact h.ok d b hb
theorem y7U {w:World}{rb:Nat}{S:Int->Option An}(h:dy w rb S)(c:Int)(a:An)(h1:1<=c)(h2:c<=4)(h3:a.Ok)(hf:eX (S c) a.seq=1):
    Calls prog 101 #[.pointer (some ⟨rb,0,none⟩),.int .i64 c,.int .i64 a.seq,fQ a.cI a.at_] w fun e w'=>e=.returned (.int .i64 0)/\ar (fun j=>j=rb) w w'/\dy w' rb (eJ S c a):=by
 have az:cM (S c)<a.seq:=by
  have:=h3.s1;cases hS:S c with
  | none=>unfold cM;dsimp only;omega
  | some b=>
   rw[hS]at hf;unfold eX at hf;unfold cM;dsimp only at hf ⊢;by_cases q:b.seq<a.seq
   . exact q
   . rw[zZ0 q]at hf;split at hf<;> cases hf
 have kd:=h.lt;have H:=af h;have HK:=af h3;have b1:=h3.s1;have b2:=h3.s2;have b3:=h3.c1;have b4:=h3.a1;have b5:=h3.a2;obtain rfl | rfl | rfl | rfl:c=1\/c=2\/c=3\/c=4:=by omega
 . have c0:=h.seq 1 (by decide);have c7:=h.cI 1 (by decide);have c8:=h.at_ 1 (by decide);have r0:=h.jt 1 (by decide);have r1:=h.jt 7 (by decide);have r2:=h.jt 8 (by decide);obtain⟨q,k,t⟩:=a;unfold fQ;dsimp only at *;have z1:¬q<1:=(by omega);have z2:¬1073741824<q:=(by omega);have z3:¬k<1:=(by omega);have z4:¬2<k:=(by omega);have z5:¬t<0:=(by omega);have z6:¬4095<t:=(by omega);have z7:¬q<=cM (S ((1:Nat):Int)):=(by have:cM (S 1)<q:=az;exact Int.not_le.2 this);generalize cM (S ((1:Nat):Int))=q0 at c0 z7;generalize ia (S ((1:Nat):Int))=q1 at c7;generalize sI (S ((1:Nat):Int))=q2 at c8;simp only[Nat.reduceMul,Nat.reduceAdd]at c7 c8;clear h h3 hf az b1 b2 b3 b4 b5;go_in;go_wp2_with fail;go_region;go_wp2_with fail;go_ret;obtain⟨r1,r2⟩:=H.note 1 ⟨q,k,t⟩ (by decide) (by decide) HK;exact⟨rfl,(r2.alloc _).drew,r1.ah (((ae.rf _).alloc _).drew)⟩
 . have c0:=h.seq 2 (by decide);have c7:=h.cI 2 (by decide);have c8:=h.at_ 2 (by decide);have r0:=h.jt 2 (by decide);have r1:=h.jt 9 (by decide);have r2:=h.jt 10 (by decide);obtain⟨q,k,t⟩:=a;unfold fQ;dsimp only at *;have z1:¬q<1:=(by omega);have z2:¬1073741824<q:=(by omega);have z3:¬k<1:=(by omega);have z4:¬2<k:=(by omega);have z5:¬t<0:=(by omega);have z6:¬4095<t:=(by omega);have z7:¬q<=cM (S ((2:Nat):Int)):=(by have:cM (S 2)<q:=az;exact Int.not_le.2 this);generalize cM (S ((2:Nat):Int))=q0 at c0 z7;generalize ia (S ((2:Nat):Int))=q1 at c7;generalize sI (S ((2:Nat):Int))=q2 at c8;simp only[Nat.reduceMul,Nat.reduceAdd]at c7 c8;clear h h3 hf az b1 b2 b3 b4 b5;go_in;go_wp2_with fail;go_region;go_wp2_with fail;go_ret;obtain⟨r1,r2⟩:=H.note 2 ⟨q,k,t⟩ (by decide) (by decide) HK;exact⟨rfl,(r2.alloc _).drew,r1.ah (((ae.rf _).alloc _).drew)⟩
 . have c0:=h.seq 3 (by decide);have c7:=h.cI 3 (by decide);have c8:=h.at_ 3 (by decide);have r0:=h.jt 3 (by decide);have r1:=h.jt 11 (by decide);have r2:=h.jt 12 (by decide);obtain⟨q,k,t⟩:=a;unfold fQ;dsimp only at *;have z1:¬q<1:=(by omega);have z2:¬1073741824<q:=(by omega);have z3:¬k<1:=(by omega);have z4:¬2<k:=(by omega);have z5:¬t<0:=(by omega);have z6:¬4095<t:=(by omega);have z7:¬q<=cM (S ((3:Nat):Int)):=(by have:cM (S 3)<q:=az;exact Int.not_le.2 this);generalize cM (S ((3:Nat):Int))=q0 at c0 z7;generalize ia (S ((3:Nat):Int))=q1 at c7;generalize sI (S ((3:Nat):Int))=q2 at c8;simp only[Nat.reduceMul,Nat.reduceAdd]at c7 c8;clear h h3 hf az b1 b2 b3 b4 b5;go_in;go_wp2_with fail;go_region;go_wp2_with fail;go_ret;obtain⟨r1,r2⟩:=H.note 3 ⟨q,k,t⟩ (by decide) (by decide) HK;exact⟨rfl,(r2.alloc _).drew,r1.ah (((ae.rf _).alloc _).drew)⟩
 . have c0:=h.seq 4 (by decide);have c7:=h.cI 4 (by decide);have c8:=h.at_ 4 (by decide);have r0:=h.jt 4 (by decide);have r1:=h.jt 13 (by decide);have r2:=h.jt 14 (by decide);obtain⟨q,k,t⟩:=a;unfold fQ;dsimp only at *;have z1:¬q<1:=(by omega);have z2:¬1073741824<q:=(by omega);have z3:¬k<1:=(by omega);have z4:¬2<k:=(by omega);have z5:¬t<0:=(by omega);have z6:¬4095<t:=(by omega);have z7:¬q<=cM (S ((4:Nat):Int)):=(by have:cM (S 4)<q:=az;exact Int.not_le.2 this);generalize cM (S ((4:Nat):Int))=q0 at c0 z7;generalize ia (S ((4:Nat):Int))=q1 at c7;generalize sI (S ((4:Nat):Int))=q2 at c8;simp only[Nat.reduceMul,Nat.reduceAdd]at c7 c8;clear h h3 hf az b1 b2 b3 b4 b5;go_in;go_wp2_with fail;go_region;go_wp2_with fail;go_ret;obtain⟨r1,r2⟩:=H.note 4 ⟨q,k,t⟩ (by decide) (by decide) HK;exact⟨rfl,(r2.alloc _).drew,r1.ah (((ae.rf _).alloc _).drew)⟩
end
section
open Go.Shelf
def Tryz.keysCl_ren:Go.Shelf.Ren:=⟨fun | 7=>147 | 10=>162 | n=>n,fun | 23=>169 | 26=>3 | 3=>179 | 28=>252 | 0=>0 | 27=>251 | 33=>267 | 4=>4 | n=>n,fun | n=>n⟩
theorem Tryz.keysCl:Go.Proofs.SlLaysZI.n7 prog Tryz.keysCl_ren:={
 mixed:=by kernel_rfl
 f7:=⟨Tryz.f147.name,by decide,func147.trans (wZ7 some (by kernel_rfl))⟩
 f10:=⟨Tryz.f162.name,by decide,func162.trans (wZ7 some (by kernel_rfl))⟩
 t0:=underlying0
 a0:=isAgg0
 z0:=sizeOf0
 v0:=zeroValue0
 t4:=underlying4
 a4:=isAgg4
 z4:=sizeOf4
 v4:=zeroValue4
 t23:=underlying169
 a23:=isAgg169
 z23:=sizeOf169
 v23:=zeroValue169
 t26:=underlying3
 a26:=isAgg3
 z26:=sizeOf3
 v26:=zeroValue3
 t27:=underlying251
 a27:=isAgg251
 z27:=sizeOf251
 v27:=zeroValue251
 t28:=underlying252
 a28:=isAgg252
 z28:=sizeOf252
 v28:=zeroValue252
 t33:=underlying267
 a33:=isAgg267
 z33:=sizeOf267
 v33:=zeroValue267}
def Tryz.sortedCl_ren:Go.Shelf.Ren:=⟨fun | 6=>146 | 8=>160 | 9=>161 | 11=>177 | 13=>159 | 12=>178 | 23=>175 | 24=>176 | 14=>185 | 15=>186 | 16=>187 | 17=>188 | 18=>189 | 19=>190 | 20=>191 | 21=>192 | 22=>193 | 25=>196 | 26=>181 | 27=>182 | 28=>197 | 29=>198 | 30=>199 | 31=>200 | n=>n,fun | 26=>3 | 28=>252 | 24=>153 | 0=>0 | 3=>3 | 37=>224 | 48=>279 | 50=>281 | 4=>4 | 40=>273 | 39=>272 | 45=>231 | 5=>5 | 9=>9 | 51=>284 | 55=>288 | 57=>296 | 58=>297 | 33=>267 | n=>n,fun | n=>n⟩
theorem Tryz.sortedCl:Go.Proofs.SlLaysZI.n6 prog Tryz.sortedCl_ren:={
 mixed:=by kernel_rfl
 f6:=⟨Tryz.f146.name,by decide,func146.trans (wZ7 some (by kernel_rfl))⟩
 f8:=⟨Tryz.f160.name,by decide,func160.trans (wZ7 some (by kernel_rfl))⟩
 f11:=⟨Tryz.f177.name,by decide,func177.trans (wZ7 some (by kernel_rfl))⟩
 t0:=underlying0
 a0:=isAgg0
 z0:=sizeOf0
 v0:=zeroValue0
 t24:=underlying153
 a24:=isAgg153
 z24:=sizeOf153
 v24:=zeroValue153
 t26:=underlying3
 a26:=isAgg3
 z26:=sizeOf3
 v26:=zeroValue3
 t28:=underlying252
 a28:=isAgg252
 z28:=sizeOf252
 v28:=zeroValue252
 i26:=by kernel_rfl}
def Tryz.sortCl_ren:Go.Shelf.Ren:=⟨fun | 5=>161 | 8=>159 | 7=>178 | 19=>175 | 20=>176 | 10=>185 | 11=>186 | 12=>187 | 13=>188 | 14=>189 | 15=>190 | 16=>191 | 17=>192 | 18=>193 | 30=>196 | 31=>181 | 32=>182 | 33=>197 | 34=>198 | 35=>199 | 40=>200 | n=>n,fun | 23=>153 | 25=>3 | 3=>3 | 32=>224 | 22=>153 | 0=>0 | 44=>279 | 46=>281 | 4=>4 | 36=>273 | 35=>272 | 41=>231 | 5=>5 | 9=>9 | 53=>284 | 57=>288 | 63=>296 | 64=>297 | n=>n,fun | n=>n⟩
theorem Tryz.sortCl:Go.Proofs.SlLaysM.n5 prog Tryz.sortCl_ren:={
 mixed:=by kernel_rfl
 f5:=⟨Tryz.f161.name,by decide,func161.trans (wZ7 some (by kernel_rfl))⟩
 f7:=⟨Tryz.f178.name,by decide,func178.trans (wZ7 some (by kernel_rfl))⟩
 f8:=func159.trans (wZ7 some (by kernel_rfl))
 f10:=⟨Tryz.f185.name,by decide,func185.trans (wZ7 some (by kernel_rfl))⟩
 f11:=⟨Tryz.f186.name,by decide,func186.trans (wZ7 some (by kernel_rfl))⟩
 f12:=⟨Tryz.f187.name,by decide,func187.trans (wZ7 some (by kernel_rfl))⟩
 f13:=⟨Tryz.f188.name,by decide,func188.trans (wZ7 some (by kernel_rfl))⟩
 f14:=⟨Tryz.f189.name,by decide,func189.trans (wZ7 some (by kernel_rfl))⟩
 f15:=⟨Tryz.f190.name,by decide,func190.trans (wZ7 some (by kernel_rfl))⟩
 f16:=⟨Tryz.f191.name,by decide,func191.trans (wZ7 some (by kernel_rfl))⟩
 f17:=⟨Tryz.f192.name,by decide,func192.trans (wZ7 some (by kernel_rfl))⟩
 f18:=⟨Tryz.f193.name,by decide,func193.trans (wZ7 some (by kernel_rfl))⟩
 f19:=func175.trans (wZ7 some (by kernel_rfl))
 f20:=func176.trans (wZ7 some (by kernel_rfl))
 f30:=⟨Tryz.f196.name,by decide,func196.trans (wZ7 some (by kernel_rfl))⟩
 f31:=func181.trans (wZ7 some (by kernel_rfl))
 f32:=func182.trans (wZ7 some (by kernel_rfl))
 f33:=⟨Tryz.f197.name,by decide,func197.trans (wZ7 some (by kernel_rfl))⟩
 f34:=⟨Tryz.f198.name,by decide,func198.trans (wZ7 some (by kernel_rfl))⟩
 f35:=⟨Tryz.f199.name,by decide,func199.trans (wZ7 some (by kernel_rfl))⟩
 f40:=⟨Tryz.f200.name,by decide,func200.trans (wZ7 some (by kernel_rfl))⟩
 t0:=underlying0
 a0:=isAgg0
 z0:=sizeOf0
 v0:=zeroValue0
 t3:=underlying3
 a3:=isAgg3
 z3:=sizeOf3
 v3:=zeroValue3
 t4:=underlying4
 a4:=isAgg4
 z4:=sizeOf4
 v4:=zeroValue4
 t5:=underlying5
 a5:=isAgg5
 z5:=sizeOf5
 v5:=zeroValue5
 t9:=underlying9
 a9:=isAgg9
 z9:=sizeOf9
 v9:=zeroValue9
 t22:=underlying153
 a22:=isAgg153
 z22:=sizeOf153
 v22:=zeroValue153
 t23:=underlying153
 a23:=isAgg153
 z23:=sizeOf153
 v23:=zeroValue153
 t25:=underlying3
 a25:=isAgg3
 z25:=sizeOf3
 v25:=zeroValue3
 t32:=underlying224
 a32:=isAgg224
 z32:=sizeOf224
 v32:=zeroValue224
 t35:=underlying272
 a35:=isAgg272
 z35:=sizeOf272
 v35:=zeroValue272
 t36:=underlying273
 a36:=isAgg273
 z36:=sizeOf273
 v36:=zeroValue273
 t41:=underlying231
 a41:=isAgg231
 z41:=sizeOf231
 v41:=zeroValue231
 t44:=underlying279
 a44:=isAgg279
 z44:=sizeOf279
 v44:=zeroValue279
 t46:=underlying281
 a46:=isAgg281
 z46:=sizeOf281
 v46:=zeroValue281
 t53:=underlying284
 a53:=isAgg284
 z53:=sizeOf284
 v53:=zeroValue284
 t57:=underlying288
 a57:=isAgg288
 z57:=sizeOf288
 v57:=zeroValue288
 t63:=underlying296
 a63:=isAgg296
 z63:=sizeOf296
 v63:=zeroValue296
 t64:=underlying297
 a64:=isAgg297
 z64:=sizeOf297
 v64:=zeroValue297}
end
section
open Go.ChangeMaps Go.MapKept Go.WideShapes
open Go.WideElems (Fit rd rg pl rd_key rd_val rg_of other_key rd_mk)
theorem Zj {w:World}{P:Program}{k:TypeId}{b n:Nat}{D:DataW Value}(h:w.ownsMap P k raw b n D)(K:Keyed P k)(hk:P.underlying k=some (.int .i64)):
    (intKeys D).Nodup/\(∀c,c∈intKeys D↔gD D (bt c)≠none)/\(intKeys D).length<=n/\Maps.size D<=n:=by
 obtain⟨es,hD,hpw,_⟩:=h.entries K;obtain⟨es',Zk,BO⟩:=h.keysOf;obtain rfl:es=es':=by rw[hD]at Zk;simpa using Zk
 have hint:∀p∈es,∃x,p.1=.int .i64 x:=fun p hp=>by obtain⟨v,hv⟩:=BO p hp;obtain⟨x,_,hx,_⟩:=Maps.keyOf_i64 hk hv;exact⟨x,hx⟩
 have TW:intKeys D=es.map fun p=>Go.intOf p.1:=by rw[hD];rfl
 have bK:es.length<=n:=by
  obtain⟨TX,clock,hb,F,hs,FI⟩:=h;rw[hD]at FI;have e1:es=(TX.toList.map (rg P k raw)).foldr DataW.insert []:=by injection FI
  rw[e1,length_sorted];simpa using hs
 rw[TW];refine⟨?_,fun c=>?_,by rw[zX6];exact bK,by rw[hD];exact bK⟩
 . refine List.pairwise_map.2 (hpw.imp_of_mem fun {p q} Zl hq' hne e=>hne ?_);obtain⟨a,ha⟩:=hint p Zl;obtain⟨d,hd⟩:=hint q hq';rw[ha,hd]at e ⊢;have e2:a=d:=e;rw[e2]
 . constructor
   . intro hs;obtain⟨p,hp,rfl⟩:=zX3.1 hs;obtain⟨a,ha⟩:=hint p hp;have H4:Maps.has D (bt (Go.intOf p.1))=true:=by
      rw[hD];refine zK9.2 ⟨p,hp,?_⟩;rw[ha];simp[bt,Go.intOf,Lit.sameKey]
     obtain⟨TX,clock,hb,F,_,FI⟩:=h;rw[FI]at H4;obtain⟨p2,QM,H7⟩:=zK9.1 H4;obtain⟨x,hx,rfl⟩:=zX3.1 (mem_sorted.1 QM);obtain⟨y,hy⟩:=F.reads x hx;obtain⟨z,hz,hzd⟩:=rd_val hy;have jC:keyOf P k x.key=some (bt (Go.intOf p.1)):=by
      have:=WideAt.sameKey_eq H7;rw[rg_of hy]at this;rw[<-this];exact rd_key hy
     unfold gD;rw[FI,zZ1 H4];have hat:=(atKey_sorted (TX.toList.map (rg P k raw)) (Maps.fit_rising K F) _ (K.key jC)).2 (rg P k raw x) (zX3.2 ⟨x,hx,rfl⟩) (WideAt.sameKey_eq H7);rw[hat,rg_of hy,hzd];cases hz;simp
   . intro hs;unfold gD at hs;by_cases hh:Maps.has D (bt c)=true
     . rw[hD]at hh;obtain⟨p,hp,H7⟩:=zK9.1 hh;refine zX3.2 ⟨p,hp,?_⟩;rw[WideAt.sameKey_eq H7];rfl
     . rw[zZ0 hh]at hs;exact absurd rfl hs
end
section
open Go.Sort Go.Shelf
theorem CK (m:Nat):AnyZI.SortsIn prog Tryz.sortedCl_ren Fence.wide m:=
 ⟨fun blk off cap ss W hH hblk hsz=>callsIn_wide.2 (AnyM.slices_Sort_int Tryz.sortCl blk off cap ss W hH hblk hsz),
  fun p cap W=>callsIn_wide.2 (AnyM.slices_Sort_int_none Tryz.sortCl p cap W)⟩
theorem Zm (w:World)(mb n:Nat)(f:Lit->Option Value)(h:bU w prog 3 mb n f)(hn:n<=1000000)(Bm:Nat)(hBm:w.cell? ⟨Bm,0,none⟩=some (.map (some mb))):
    CallsIn Fence.wide 5 prog 146 #[.func (.func 162) #[] #[.pointer (some ⟨Bm,0,none⟩)]] w fun e w'=>∃(v:Value) (ks:List Int),e=.returned v/\(ks.Pairwise fun a b=>a<b)/\(∀c,c∈ks↔f (bt c)≠none)/\ks.length<=n/\w'.ownsRow w.heap.size 3 1 v ks.length (ks.map encZ)/\Below w.heap.size w w':=by
 obtain⟨D,aH,hf⟩:=h;obtain⟨qD,fD,bK,hsz⟩:=Zj aH ng underlying3;have hBlt:Bm<w.heap.size:=bf hBm;have hseq:SeqGives Fence.wide 2 prog 162 #[.pointer (some ⟨Bm,0,none⟩)] encZ (fun ss=>ss.Perm (intKeys D)) (Maps.size D) w:=
  AnyZI.keys_gives (ρ:=Tryz.keysCl_ren) {Tryz.keysCl with} Fence.wide _ trivial rfl (by omega) Bm mb n D w hBlt hBm aH
 have cS:=AnyZI.sorted_in Tryz.sortedCl Fence.wide 5 trivial trivial trivial trivial rfl (by omega) (CK _) (enters_of func161 (by kernel_rfl) rfl) 162 #[.pointer (some ⟨Bm,0,none⟩)] trivial (enters_of func162 (by kernel_rfl) rfl) _ _ (by unfold maxLen;omega) (by omega) _ hseq;change CallsIn _ _ prog 146 _ _ _ at cS;refine cS.mono ?_;rintro e w' ⟨v,ss,rfl,hp,aJ,_,hb⟩;have hm:(ss.mergeSort (fun x y=>decide (x<=y))).Perm ss:=List.mergeSort_perm _ _;have TY:=hm.trans hp;refine⟨v,_,rfl,?_,fun c=>by rw[TY.mem_iff,fD,hf],by rw[TY.length_eq];exact bK,by rw[hm.length_eq];exact aJ,hb⟩;have tr:∀a b c:Int,decide (a<=b)=true->decide (b<=c)=true->decide (a<=c)=true:=fun a b c h1 h2=>by simp only[wZ2]at *;omega
 have tot:∀a b:Int,(decide (a<=b) || decide (b<=a))=true:=fun a b=>by simp only[yZ0,wZ2];omega
 have h1:=List.pairwise_mergeSort tr tot ss;have h2:(ss.mergeSort (fun x y=>decide (x<=y))).Nodup:=TY.nodup_iff.2 qD;exact List.Pairwise.imp₂ (fun a b h3 h4=>by simp only[wZ2]at h3;omega) h1 h2
end
section
open Go.Shelf
def iB (S:Int->Option An):List (Int×An):=[1,2,3,4].filterMap fun c=>(S c).map fun a=>(c,a)
theorem CL {S:Int->Option An}{x:Int×An}:x∈iB S↔(x.1=1\/x.1=2\/x.1=3\/x.1=4)/\S x.1=some x.2:=by
 unfold iB;rw[List.mem_filterMap];obtain⟨c,a⟩:=x;constructor
 . rintro ⟨d,hd,he⟩;rw[zJ6]at he;obtain⟨b,hb,he⟩:=he;cases he;exact⟨by simpa using hd,hb⟩
 . rintro ⟨h1,h2⟩;exact⟨c,by simpa using h1,by dsimp only at h2;rw[h2];rfl⟩
theorem TZ (S:Int->Option An):((iB S).map (·.1)).Pairwise fun a b=>a<b:=by
 unfold iB;rw[List.pairwise_map];refine List.Pairwise.filterMap (R:=fun a b:Int=>a<b) _ (fun a b hab x hx y hy=>?_) (by decide);rw[zJ6]at hx hy;obtain⟨_,_,rfl⟩:=hx;obtain⟨_,_,rfl⟩:=hy;exact hab
theorem H8 (S:Int->Option An):(iB S).length<=4:=by
 unfold iB;exact zZ6 (List.length_filterMap_le _ _) (by decide)
theorem Zn {l l':List Int}(h:l.Pairwise fun a b=>a<b)(h':l'.Pairwise fun a b=>a<b)(hm:∀x,x∈l↔x∈l'):l=l':=by
 have nd:l.Nodup:=h.imp fun {a b} hab=>by omega
 have nd':l'.Nodup:=h'.imp fun {a b} hab=>by omega
 exact List.Perm.eq_of_pairwise (le:=fun a b:Int=>a<b) (fun a b _ _ h1 h2=>by omega) h h' ((xX3 nd nd').2 hm)
abbrev qK:={x:Int×An // 1<=x.1/\x.1<=4/\x.2.Ok}
def pP (x:qK):Array Value:=#[.int .i64 x.1.1,x.1.2.agg]
theorem Zo {S:Int->Option An}(eK:∀c a,S c=some a->1<=c/\c<=4/\a.Ok):∃xs:List qK,xs.map Subtype.val=iB S:=by
 refine⟨(iB S).pmap Subtype.mk fun x hx=>eK _ _ (CL.1 hx).2,?_⟩;rw[List.map_pmap];simp
theorem bU.below {w w':World}{P:Program}{k:TypeId}{b n n₀:Nat}{f:Lit->Option Value}(h:bU w P k b n f)(g:Below n₀ w w')(hb:b<n₀):bU w' P k b n f:=by
 obtain⟨D,⟨es,clock,h1,h2⟩,hf⟩:=h;exact⟨D,⟨es,clock,(g.block b hb).trans h1,h2⟩,hf⟩
theorem z0j (n:Nat)(hn:7<=n)(Kp:World->World->Prop)(n₀:Nat){w:World}{F:Nat->Prop}{Bs sb mb nn:Nat}{f:Lit->Option Value}{S:Int->Option An}(h:qI w F sb mb nn f S)(FJ:nn<=1000000)(wV:w.cell? ⟨Bs,0,none⟩=some (.pointer (some ⟨sb,0,none⟩)))(h2:sb<n₀)(h3:mb<n₀)(Zp:n₀<=w.heap.size)
    (T3:∀{A B C:World},Kp A B->Kp B C->Kp A C) (Q1:∀A B,Kp A B->Below n₀ A B)
    (T4:∀W1 W2,Below w.heap.size w W1->Kp W1 W2->W2.cell? ⟨Bs,0,none⟩=some (.pointer (some ⟨sb,0,none⟩)))
    (T5:∀W W1 W2,Below w.heap.size w W->Below W.heap.size W W1->Kp W1 W2->∀(b:Nat) (o:Obj),W.heap.size<=b->W1.heap[b]? =some o->o.isCells=true->W2.heap[b]? =some o):
    SeqStopsK Fence.wide n prog 145 #[.pointer (some ⟨Bs,0,none⟩)] pP Kp (fun xs=>xs.map Subtype.val=iB S) (fun _=>True) 4 w:=by
 intro l J Jx W hW T6 T7 hY h0;have hG:ae w W:=hW;have vR:qI W F sb mb nn f S:=h.aC (hG.only fun _=>False) (fun _ _ h=>h);have yM:=(hG.cells.1 _ 0 (bf wV)).trans wV;have hc0:=vR.c0;have kU:=af vR;have uK:=af (fun mb W=>(callsIn_wide (n:=n - 1)).2 ((callsIn_wide (n:=5)).1 (AnyZI.keys_in Tryz.keysCl Fence.wide 5 trivial rfl mb W)));change Hid (∀(Ms:Option Nat) (W:World),CallsIn Fence.wide (n - 1) prog 147 #[.map Ms] W fun e w'=>e=.returned (.func (.func 162) #[] #[.pointer (some ⟨W.heap.size,0,none⟩)])/\w'=W.alloc (.cells #[.map Ms] 169))at uK;have gA:ae W (W.alloc (.cells #[.map (some mb)] 169)):=(ae.rf W).alloc _;have FK:=af ((callsIn_wide (n:=n - 1)).2 ((callsIn_wide (n:=5)).1 (Zm (W.alloc (.cells #[.map (some mb)] 169)) mb nn f (vR.lm.ah gA) FJ W.heap.size (by simp[go_sem]))));have eK:=h.ok;obtain⟨xs,iN⟩:=Zo eK;have hval:=h.val;have FL:=af iN;have yN:=af (fun(ks:List Int) (hr:ks.Pairwise fun a b=>a<b) (hm:∀c,c∈ks↔f (bt c)≠none)=>show ks=xs.map (fun x=>x.1.1)by
  have e:xs.map (fun x=>x.1.1)=(iB S).map (·.1):=by rw[<-iN,List.map_map];rfl
  rw[e];refine Zn hr (TZ S) fun c=>?_;rw[hm,hval,zX3];constructor
  . intro hc;cases hS:S c with
    | none=>rw[hS]at hc;exact absurd rfl hc
    | some a=>exact⟨(c,a),CL.2 ⟨by have:=eK c a hS;omega,hS⟩,rfl⟩
  . rintro ⟨⟨d,a⟩,hd,rfl⟩;rw[(CL.1 hd).2];simp)
 have vS:xs.length<=4:=by have:=wZ7 List.length iN;rw[zX6]at this;have:=H8 S;omega
 have mh:=af (fun(x:qK) (hx:x∈xs)=>show S x.1.1=some x.1.2 by
  have:x.1∈iB S:=by rw[<-iN];exact zX3.2 ⟨x,hx,rfl⟩
  exact(CL.1 this).2)
 have hfK:Fence.wide.fn 147:=trivial;have hfS:Fence.wide.fn 146:=trivial;clear vR hG iN hval eK gA;refine callsIn_of_wp func145 rfl trivial ?_ rfl;simp only[ntmps145,xQ4,zQ6,zJ0,Nat.reduceAdd,Nat.reduceSub,xQ5,xQ6,xQ7,yJ1,zK8,yZ8];gi_wp2;refine⟨fun _=>by omega,(uK _ _).mono ?_⟩;rintro e w' ⟨rfl,rfl⟩;gi_wp2;refine⟨fun _=>by omega,FK.mono ?_⟩;rintro e W1 ⟨v,ks,rfl,hr,hm,hl,aJ,hb⟩;have oK:=yN ks hr hm;subst oK;have tF:Below W.heap.size W W1:=(((ae.rf W).alloc (.cells #[.map (some mb)] 169)).trans hb:ae W W1)
 have yO:=af tF;have Mt:J [] W1:=T6 [] W W1 none h0 ⟨tF.os,tF.tape,tF.output,tF.size,fun k hk _=>tF.block k hk⟩ (fun r e=>by cases e);rw[zX6]at aJ;obtain⟨m,yA⟩:∃m,m=xs.length:=⟨_,rfl⟩
 have nM:=af yA;have cF:∃ao cap,v=.slice ao m cap:=by
  rw[yA];rcases aJ.2 with⟨h1,h2⟩ | ⟨b,c,cur,h1,_⟩
  . exact⟨none,0,by rw[h1,h2]⟩
  . exact⟨_,_,h1⟩
 obtain⟨ao,cap,rfl⟩:=cF;have gI:=af aJ;have lS:=af Mt;have Mu:m<=4:=by omega
 clear aJ hm hr hl hb Mt yA yN tF h0 uK FK;gi_wp2;gi_loopw [4,12] (fun u i wr=>∃k:Nat,k<=m/\i=.int .i64 k/\Hid (J (xs.take k) wr)/\Hid (wr=W1\/Kp W1 wr)) (fun _ i _=>m - (intOf i).toNat);exact⟨0,zZ5 _,rfl,by unfold Hid;simpa using lS.out,.inl rfl⟩;obtain⟨k,hk,rfl,HJ,HC⟩:=hrel;have hBl:Below n₀ W wr:=by
  rcases HC.out with rfl | nN
  . exact yO.mono (zZ6 Zp hW.size)
  . exact(yO.mono (zZ6 Zp hW.size)).trans (Q1 _ _ nN)
 have d0:wr.cell? ⟨Bs,0,none⟩=some (.pointer (some ⟨sb,0,none⟩)):=by
  rcases HC.out with rfl | nN
  . exact(yO.cell (p:=⟨Bs,0,none⟩) (bf yM)).trans yM
  . exact T4 W1 wr (hW.trans (yO.mono hW.size)) nN
 have d1:=(hBl.cell (p:=⟨sb,0,none⟩) h2).trans hc0;have BU:=af (kU.lm.below hBl h3);by_cases az:k<m
 . obtain⟨x,hx⟩:∃x,x=xs[k]'(by rw[<-nM.out];exact az):=⟨_,rfl⟩
   have Mv:x∈xs:=(by rw[hx];exact zQ4 _);have aJ:=gI.out;rw[<-nM.out]at aJ;obtain⟨zb,T8,cur,e1,hzb,lj,hz1,hz2,hz3,CM⟩:=Fp aJ (by omega);have Mw:W.heap.size<=zb:=zZ6 (by simp) hzb;have kK:wr.heap[zb]? =some (.cells cur.toArray 3 (0,0)):=by
    rcases HC.out with rfl | nN
    . exact lj
    . exact T5 W W1 wr hW yO nN zb _ Mw lj rfl
   have hcell:wr.cell? ⟨zb,k,none⟩=some (.int .i64 x.1.1):=by
    have h5:cur[k]? =some (.int .i64 x.1.1):=by
     have h6:(cur.take (m*1))[k]? =cur[k]? :=(by rw[zX5,zZ1 (by omega)]);rw[<-h6,CM,List.map_map,yZ3,zQ5 (by rw[<-nM.out];exact az),<-hx];rfl
    rw[gw kK k,h5]
   cases e1;have T9:zb<wr.heap.size:=(zZ2.1 kK).1;have hlk:(Instr.lookup 169 (.map (some mb)) (.int .i64 x.1.1) false).run prog wr=.ok x.1.2.agg wr:=by
    have h7:=BU.lookup ng underlying169 (Q0 wr) (keyOf_int_mk underlying3 (qH (c:=x.1.1) (by have:=x.2.1;omega) (by have:=x.2.2.1;omega)));rw[show(Lit.int .i64 x.1.1)=bt x.1.1 from rfl,kU.out.val,mh.out x Mv]at h7;exact h7
   have ry:xs.take (k+1)=xs.take k++[x]:=(by rw[zX1 (by rw[<-nM.out];exact az),hx]);have pj:=af ry;obtain⟨fn,tmps,assign,body,hy,hR⟩:=hY (xs.take k) x wr HJ (by rw[zZ9];omega);unfold pP at hy;have Ua:=af (fun W3 (hk3:Kp wr W3)=>show wr=W1/\Kp W1 W3\/Kp W1 W3 by
    rcases HC.out with rfl | nN
    . exact .inl ⟨rfl,hk3⟩
    . exact .inr (T3 nN hk3))
   clear aJ lj kK hz1 hz2 hz3 CM hzb Mw hx Mv ry hBl;gi_wp2;refine⟨fun _=>by omega,hR.mono ?_⟩;rintro e W3 (⟨rfl,hJ3,hk3⟩ | ⟨rfl,H9⟩)
   . have Ub:=af hJ3;have Hg:=af (Ua W3 hk3);clear hJ3 hk3;gi_wp2;go_roundw;case rel=>exact⟨k+1,by omega,by go_num,by unfold Hid;rw[pj.out];exact Ub,by rcases Hg.out with⟨_,h⟩ | h<;> exact .inr h⟩
     case measure=>simp[intOf];omega
   . gi_wp2;refine wZ1 (results_none rfl _ _ _) rfl ?_;exact⟨⟨_,rfl⟩,.inr ⟨_,trivial,H9⟩⟩
 . have vT:k=m:=(by omega);subst vT;have Mx:J xs wr:=(by have:=HJ.out;rwa[nM.out,zQ1]at this);have Uc:=af Mx;clear Mx hBl;gi_wp2;go_end0;exact⟨⟨_,rfl⟩,.inl ⟨xs,FL,Uc⟩⟩
end
section
open Go.ChangeMaps Go.MapKept Go.WideShapes
theorem y5w {P:Program}{k:TypeId}(hk:P.underlying k=some (.int .i64)){v:Value}{l:Lit}(h:keyOf P k v=some l):∃c:Int,v=.int .i64 c/\l=bt c/\(Lit.int .i64 c).wf=true:=by
 cases v<;> simp[keyOf,hk,mapKey]at h
 obtain⟨⟨rfl,hw⟩,rfl⟩:=h;exact⟨_,rfl,rfl,hw⟩
section
variable {w:World}{P:Program}{k e t:TypeId}{b n r cnt:Nat}{f:Lit->Option Value}{left:Lit->Bool}
theorem y7A {ops:Array Oper}{rest:List Oper}{o:Oper}{a:Act}{Q:Exit->Act->World->Prop}(hg:o.guard=none)(it:Operand)(hop:o.op=Op.next it false)(hk:P.underlying k=some (.int .i64))(K:Keyed P k)(r:Nat)(left:Lit->Bool)(cnt:Nat)
    (hit:a.eval it=.pointer (some ⟨r,0,none⟩)) (h:qW w P k b r n f left cnt)
    (hDone:(∀l,left l=false)->wpList P ops Q rest (a.put o.dst (.tuple #[.bool false])) w)
    (hMore:∀(c:Int) (v:Value) (w':World) (cnt':Nat),(Lit.int .i64 c).wf=true->left (bt c)=true->f (bt c)=some v->qW w' P k b r n f (fun z=>left z && !z.sameKey (bt c)) cnt'->cnt'<cnt->ar (fun j=>j=r) w w'->w'.heap.size=w.heap.size->(Instr.entry (.pointer (some ⟨r,0,none⟩))).run P w'=.ok (.tuple #[.int .i64 c,v]) w'->wpList P ops Q rest (a.put o.dst (.tuple #[.bool true,.int .i64 c,v])) w'):
    wpList P ops Q (o::rest) a w:=by
 obtain⟨D,h,hf⟩:=h;refine wpList_next_ranges w hg it hop k K raw (Value.int .i64) (fun v:Value=>v) (fun key kl bX=>by
  obtain⟨c,rfl,rfl,_⟩:=y5w hk bX;exact⟨_,rfl⟩) (fun v y _=>⟨v,rfl⟩) b r n D left cnt hit h (fun _ h0=>hDone h0) ?_
 intro c v kl y w' cnt' bX hl hv hat hrg az hgr hsz hen;obtain⟨c',e,rfl,JI⟩:=y5w hk bX;cases e;cases hv;have Ou:f (bt c)=some v:=by
  rw[<-hf];unfold gD;rw[zZ1 (has_true_of_atKey hat),hat]
 exact hMore c v w' cnt' JI hl Ou ⟨D,hrg,hf⟩ az ((ar.ay hgr).mono fun j hj=> .inl (Option.some.inj hj)) hsz hen
end
theorem z5I (a b:Int):(bt a).sameKey (bt b)=decide (a=b):=by
 by_cases h:a=b
 . subst h;rw[wZ5 rfl];simp[bt,Lit.sameKey]
 . rw[wZ6 h];refine Maps.sameKey_ne (fun e=>h ?_);unfold bt at e;injection e
end
section
attribute [local go_sem] bl
def fc (S T:Int->Option An)(n:Nat)(x:Int):Option An:=if 1<=x/\x<n/\cM (S x)<cM (T x)then T x else S x
theorem y6W (S T:Int->Option An):fc S T 1=S:=funext fun x=>by
 unfold fc;rw[zZ0 (by omega)]
theorem z2x (S T:Int->Option An)(n:Nat):fc S T n (n:Int)=S n:=by
 unfold fc;rw[zZ0 (by omega)]
theorem z0b (S T:Int->Option An)(n:Nat)(a:An)(h1:1<=n)(hT:T n=some a)(az:cM (S n)<cM (T n)):fc S T (n+1)=eJ (fc S T n) n a:=funext fun x=>by
 unfold fc eJ;by_cases e:x=(n:Int)
 . subst e;rw[zZ1 ⟨by omega,by omega,az⟩,zZ1 rfl,hT]
 . rw[zZ0 e];dsimp only;by_cases q:1<=x/\x<n/\cM (S x)<cM (T x)
   . rw[zZ1 q,zZ1 ⟨q.1,by omega,q.2.2⟩]
   . rw[zZ0 q,zZ0 fun r=>q ⟨r.1,by omega,r.2.2⟩]
theorem Xq (S T:Int->Option An)(n:Nat)(az:¬cM (S n)<cM (T n)):fc S T (n+1)=fc S T n:=funext fun x=>by
 unfold fc;by_cases e:x=(n:Int)
 . subst e;rw[zZ0 fun q=>az q.2.2,zZ0 fun q=>az q.2.2]
 . by_cases q:1<=x/\x<n/\cM (S x)<cM (T x)
   . rw[zZ1 q,zZ1 ⟨q.1,by omega,q.2.2⟩]
   . rw[zZ0 q,zZ0 fun r=>q ⟨r.1,by omega,r.2.2⟩]
structure JSq (wv:World)(R:World->Prop)(L:Nat->Bool)(f:Nat->Value)(x:World):Prop where
 pre:L 19=false->ae wv x
 post:L 19=true->R x
theorem y9y {w:World}{sb ob:Nat}{S T:Int->Option An}(h:dy w sb S)(k:dy w ob T)(hne:sb≠ob):
    Calls prog 108 #[.pointer (some ⟨sb,0,none⟩),.pointer (some ⟨ob,0,none⟩)] w fun e w'=>e=.returned (.tuple #[])/\ar (fun j=>j=sb) w w'/\dy w' sb (fc S T 5):=by
 have iA:=h.lt;have dS:=k.lt;have H:=af h;have K:=af k;clear h k;go_in;go_wp2_with fail;go_loopw [4] (fun i wr=>∃c:Nat,1<=c/\c<=5/\i=.int .i64 c/\Hid (dy wr sb (fc S T c)/\ar (fun j=>j=sb) w wr)) (fun i _=>5 - (intOf i).toNat);exact⟨1,by omega,by omega,rfl,⟨by rw[y6W];exact H,(ae.rf w).only _⟩⟩;obtain⟨c,hc1,GL,rfl,HM⟩:=hrel;obtain⟨wo,rfl⟩:∃wo:World,wo=wr:=⟨_,rfl⟩
 have ks:=af (K.out.aC HM.2 fun e=>hne e.symm);by_cases az:c<5
 . have s0:=HM.1.seq c az;rw[z2x]at s0;have o0:=ks.out.seq c az;have hcI:(c:Int)<5:=(by omega);generalize hq:cM (S (c:Int))=q1 at s0;generalize hr:cM (T (c:Int))=q2 at o0;have HQ:=af (And.intro hq hr);clear hq hr;by_cases Ro:q2 > q1
   . obtain⟨ta,FH⟩:∃ta,T (c:Int)=some ta:=by
      cases hT:T (c:Int)with
      | none=>
       have e2:=HQ.2;rw[hT]at e2;have e1:=HQ.1;have h0:0<=cM (S (c:Int)):=by
        cases hS:S (c:Int)with
        | none=>exact Int.le_refl _
        | some b=>have:=(H.ok _ b hS).2.2.s1;show(0:Int)<=b.seq;omega
       have e3:(0:Int)=q2:=e2;omega
      | some ta=>exact⟨ta,rfl⟩
     have o7:=ks.out.cI c az;have o8:=ks.out.at_ c az;have o8:wo.cell? ⟨ob,5+c*2+1,none⟩=some (.int .i64 (sI (T (c:Int)))):=(by rw[show 5+c*2+1=6+c*2 by omega];exact o8);have s7:=HM.1.cI c az;have s8:=HM.1.at_ c az;obtain⟨v8,s8⟩:∃v,wo.cell? ⟨sb,5+c*2+1,none⟩=some v:=⟨_,by rw[show 5+c*2+1=6+c*2 by omega];exact s8⟩
     have f0:=HM.1.jt c (by omega);have f7:=HM.1.jt (5+c*2) (by omega);have f8:=HM.1.jt (5+c*2+1) (by omega);have HTA:=af FH;have eK:=(K.out.ok _ ta FH).2.2;have Lb:q2=ta.seq:=(by have:=HQ.2;rw[FH]at this;exact this.symm);have kR:=z0b S T c ta hc1 FH (by rw[HQ.out.1,HQ.out.2];exact Ro);have Jl:=af kR;rw[FH]at o7 o8;have o7:wo.cell? ⟨ob,5+c*2,none⟩=some (.int .i64 ta.cI):=o7;have o8:wo.cell? ⟨ob,5+c*2+1,none⟩=some (.int .i64 ta.at_):=o8;have mL:=af eK;clear FH eK kR;subst Lb;have Bf:=xA9 dS HM.2.size;have rZ:=xA9 iA HM.2.size;go_wp2_with fail;go_region;obtain⟨wv,Xr⟩:∃wv,wv=wo.drew:=⟨_,rfl⟩
     have gv:ae wo wv:=(by rw[Xr];exact(ae.rf wo).drew);rw[<-Xr];clear Xr;have o0:=(gv.cells.1 _ _ Bf).trans o0;have o7:=(gv.cells.1 _ _ Bf).trans o7;have o8:=(gv.cells.1 _ _ Bf).trans o8;have s0:=(gv.cells.1 _ _ rZ).trans s0;have s7:=(gv.cells.1 _ _ rZ).trans s7;have s8:=(gv.cells.1 _ _ rZ).trans s8;have f0:=(gv.cells.2 _ _ rZ).trans f0;have f7:=(gv.cells.2 _ _ rZ).trans f7;have f8:=(gv.cells.2 _ _ rZ).trans f8;have HMV:=af (And.intro (HM.1.ah gv) (HM.2.dG gv));have Kf:=xA9 Bf gv.size;have wI:=xA9 rZ gv.size;clear gv Bf rZ HM ks;go_upto_region 4 with fail;obtain⟨I,hI⟩:∃I:World->Prop,I=fun x=>ar (fun j=>j=sb) wv x:=⟨_,rfl⟩
     have Cn:∀x,I x->ar (fun j=>j=sb) wv x:=fun x h=>by rw[hI]at h;exact h
     have EC:∀x,ar (fun j=>j=sb) wv x->I x:=fun x h=>by rw[hI];exact h
     clear hI;have C0:∀p:Wd I,p.w.cell? ⟨ob,c,none⟩=some (.int .i64 ta.seq):=fun p=>((Cn p.w p.ok).cell Kf (fun e=>hne e.symm) _).trans o0;have C7:∀p:Wd I,p.w.cell? ⟨ob,5+c*2,none⟩=some (.int .i64 ta.cI):=fun p=>((Cn p.w p.ok).cell Kf (fun e=>hne e.symm) _).trans o7;have C8:∀p:Wd I,p.w.cell? ⟨ob,5+c*2+1,none⟩=some (.int .i64 ta.at_):=fun p=>((Cn p.w p.ok).cell Kf (fun e=>hne e.symm) _).trans o8;have pq:Nonempty (Wd I):=⟨⟨wv,EC wv ((ae.rf wv).only _)⟩⟩
     have HIW:=af EC;clear Cn EC;refine kh 22 [19] I Eq (JSq wv (fun x=>∃y,ae wv y/\x=y.setCell ⟨sb,c,none⟩ (.int .i64 ta.seq))) (fun _ a=>a) ⟨fun _=>(ae.rf wv).drew,fun h=>(by cases h)⟩ (fun L0 f x h=>?_) (fun _=>rfl) (fun L0 f x x' h g=>g▸h) ?_
     . cases q:L0 19 with
       | false=>exact HIW x ((h.pre q).only _)
       | true=>
        obtain⟨y,hy,rfl⟩:=h.post q;exact HIW _ ((hy.only _).then (ar.setCell y ⟨sb,c,none⟩ _))
     repeat (first|refine kg ?_|(refine gg ?_;intros;go_big_quiet_op;go_big_quiet_on)|(refine fZ ?_;simp only[Act.put,xB9,xC9,xD9]))
     refine jB (by rfl) ⟨⟨bL rfl (fun _ a=>a) ?_,trivial⟩,?_⟩
     . intro L0 f x hJ hL hd;have hG:=hJ.pre hL;have t0:=(hG.cells.1 _ _ wI).trans s0;have g0:=(hG.cells.2 _ _ wI).trans f0;have ke:=af hG;clear hJ hL hd C0 C7 C8 hG;go_simp;exact⟨fun h=>(by rw[xh]at h;cases h),fun _=>⟨x,ke,rfl⟩⟩
     intro f x hJ;obtain⟨y,hy,rfl⟩:=hJ.post rfl;have t7:=(hy.cells.1 _ _ wI).trans s7;have t8:=(hy.cells.1 _ _ wI).trans s8;have g7:=(hy.cells.2 _ _ wI).trans f7;have g8:=(hy.cells.2 _ _ wI).trans f8;have ED:=af hy;clear hJ C0 C7 C8 pq hy s0 s7 s8 f0 f7 f8 o0 o7 o8;dsimp only[List.drop];go_wp2_with fail;go_roundw;case rel=>
      obtain⟨r1,r2⟩:=(HMV.1.ah ED).note c ta hc1 (by omega) mL;rw[show 6+c*2=5+c*2+1 by omega]at r1 r2;exact⟨c+1,by omega,by omega,by go_num,⟨by rw[Jl.out];exact r1,(HMV.2.dG ED).then r2⟩⟩
     case measure=>simp[intOf];omega
   . go_wp2_with fail;go_region;go_wp2_with fail;go_roundw;case rel=>exact⟨c+1,by omega,by omega,by go_num,⟨by rw[Xq S T c (by rw[HQ.out.1,HQ.out.2];omega)];exact HM.1.ah (ae.rf _).drew,HM.2.drew⟩⟩
     case measure=>simp[intOf];omega
 . obtain rfl:c=5:=(by omega);go_wp2_with fail;go_end0;exact⟨rfl,HM.2,HM.1⟩
end
end Go.Proofs.YtgegogoanbamfaaGreatDoor
