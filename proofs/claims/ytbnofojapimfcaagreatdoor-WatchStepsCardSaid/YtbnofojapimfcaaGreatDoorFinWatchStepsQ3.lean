/- Part 3 of the proof. -/
import Derived.Test.YtbnofojapimfcaaGreatDoorFinWatchStepsQ1
import Derived.LaidEql
import Derived.Stop.Asserts
import Derived.RowKitTokens
import Derived.Stop.LaidErr
set_option linter.unusedVariables false
set_option linter.unusedSectionVars false
set_option linter.unusedSimpArgs false
set_option maxRecDepth 100000
set_option maxHeartbeats 16000000
namespace Go.Proofs.YtbnofojapimfcaaGreatDoor
section
open Go.RowKit Go.Extern.Stop Go.Stop Go.Extern
theorem tZ (v:Value) (w:World):(Extern.ReflectliteType.typeOf #[.iface 337 v]).run Tryz.prog w=.ok (.iface 200 (.agg #[.pointer (some ⟨19,337,none⟩)])) w:=by kernel_rfl
theorem XM (w:World):((Extern.ReflectliteType.method fun t=>do Extern.Rtype.noPackHeld "Comparable" t;pure (.bool (<-typeInfo t).comparable)) #[.agg #[.pointer (some ⟨19,337,none⟩)]]).run Tryz.prog w=.ok (.bool true) w:=by kernel_rfl
theorem SB (v:Value) (w:World):(Go.method 477 200 v "Comparable").run Tryz.prog w=.ok (251,v) w:=by kernel_rfl
theorem ua:(Tryz.prog.info? 337).map (·.comparable)=some true:=by kernel_rfl
theorem ub:(Tryz.prog.info? 366).map (·.size)=some 1:=by kernel_rfl
theorem GN (v:Value) (xT:TypeId) (w:World):(Instr.typeAssert (.iface 337 v) xT 202 true).run Tryz.prog w=.ok (.tuple #[.nilIface,.bool false]) w:=run_typeAssert_lacksB Tryz.underlying202 (by kernel_rfl) (by kernel_rfl) v xT w
theorem XN (v:Value) (xT:TypeId) (w:World):(Instr.typeAssert (.iface 337 v) xT 205 true).run Tryz.prog w=.ok (.tuple #[.nilIface,.bool false]) w:=run_typeAssert_lacksB Tryz.underlying205 (by kernel_rfl) (by kernel_rfl) v xT w
theorem XO (v:Value) (xT:TypeId) (w:World):(Instr.typeAssert (.iface 337 v) xT 207 true).run Tryz.prog w=.ok (.tuple #[.nilIface,.bool false]) w:=run_typeAssert_lacksB Tryz.underlying207 (by kernel_rfl) (by kernel_rfl) v xT w
theorem XP (args:Array Value) (w:World):(callFunc 67 args).run Tryz.prog w=((Extern.ReflectliteType.typeOf args).run Tryz.prog w).andThen fun v w'=> .ok (.value v) w':=
 @run_callFunc_extern Tryz.prog 67 _ Extern.ReflectliteType.typeOf Tryz.func67 (by kernel_rfl) (by kernel_rfl) (by kernel_rfl) (by kernel_rfl) args w
theorem XQ (args:Array Value) (w:World):(callFunc 251 args).run Tryz.prog w=((Extern.ReflectliteType.method (fun t=>do Extern.Rtype.noPackHeld "Comparable" t;pure (.bool (<-typeInfo t).comparable)) args).run Tryz.prog w).andThen fun v w'=> .ok (.value v) w':=
 @run_callFunc_extern Tryz.prog 251 _ (Extern.ReflectliteType.method fun t=>do Extern.Rtype.noPackHeld "Comparable" t;pure (.bool (<-typeInfo t).comparable)) Tryz.func251 (by kernel_rfl) (by kernel_rfl) (by kernel_rfl) (by kernel_rfl) args w
theorem SC (v:Value) (w:World):(callFunc 67 #[.iface 337 v]).run Tryz.prog w=.ok (.value (.iface 200 (.agg #[.pointer (some ⟨19,337,none⟩)]))) w:=by
 rw [XP,tZ];rfl
theorem SD (w:World):(callFunc 251 #[.agg #[.pointer (some ⟨19,337,none⟩)]]).run Tryz.prog w=.ok (.value (.bool true)) w:=by
 rw [XQ,XM];rfl
theorem yT (a:Addr) (w:World):
    Calls Tryz.prog 33 #[.iface 337 (.pointer (some a)),.iface 337 (.pointer (some a))] w fun e w'=>e=.returned (.bool true)/\w'=w:=by
 obtain ⟨i,hi,Cs⟩:=zK9.1 ua
 obtain ⟨j,hj,hjs⟩:=zK9.1 ub
 have h8:=SC
 have XR:=SD
 have mR:=SB
 have heq:=run_eql_iface_ptr_same (P:=Tryz.prog) w a Tryz.underlying29 Tryz.underlying337 hi Cs hj
 go_in
 go_wp2
 refine wp_loop_rounds 1 ?_
 rw [rounds_succ]
 go_wp2
 go_ret
 exact ⟨rfl,rfl⟩
theorem ud (a b:Addr) (ca cb:Array Value) (ta tb:TypeId) (w:World) (hne:a≠b) (ha:w.heap[a.block]? =some (.cells ca ta (0,0))) (hb:w.heap[b.block]? =some (.cells cb tb (0,0))):
    Calls Tryz.prog 33 #[.iface 337 (.pointer (some a)),.iface 337 (.pointer (some b))] w fun e w'=>e=.returned (.bool false)/\w'=w:=by
 obtain ⟨i,hi,Cs⟩:=zK9.1 ua
 obtain ⟨j,hj,hjs⟩:=zK9.1 ub
 have h8:=SC
 have XR:=SD
 have mR:=SB
 have nE:=GN
 have uE:=XN
 have vE:=XO
 have heq:=run_eql_iface_ptr_other (P:=Tryz.prog) w Tryz.underlying29 Tryz.underlying337 hi Cs hj (by rw [hjs];decide) hne ha hb
 go_in
 go_wp2
 refine wp_loop_rounds 1 ?_
 rw [rounds_succ]
 go_wp2
 go_ret
 exact ⟨rfl,rfl⟩
end
section
open Go.RowKit
def pG:Nat->Nat
 | 1=>1 | 2=>2 | 3=>3 | 4=>0 | 5=>4
 | 6=>5 | 7=>6 | 8=>7 | 9=>8 | 10=>9
 | 11=>10 | 12=>11 | 13=>12 | 14=>13 | 15=>14
 | 16=>15 | 17=>16 | 18=>17 | 19=>18 | _=>0
def aX (E:Nat->Addr) (k:Nat):Value:=if k=0 then .nilIface else .iface 337 (.pointer (some (E k)))
theorem ue (E:Nat->Addr):aX E 0=.nilIface:=rfl
theorem sX (E:Nat->Addr) (k:Nat) (h:k≠0):aX E k=.iface 337 (.pointer (some (E k))):=by unfold aX;rw [zZ0 h]
structure aY (S:Nat->Bool) (E:Nat->Addr) (w:World):Prop where
 pos:S 0=false
 cell:∀k,S k=true->w.cell? ⟨pG k,0,none⟩=some (.iface 337 (.pointer (some (E k))))
 row:∀k,S k=true->∃cs t,w.heap[(E k).block]? =some (.cells cs t (0,0))
 ne:∀j k,S j=true->S k=true->j≠k->E j≠E k
theorem aN {w:World} {a:Addr} {v:Value} (h:w.cell? a=some v):a.block<w.heap.size:=World.block_lt_of_cell? w a h
theorem aY.ag {S:Nat->Bool} {E:Nat->Addr} {w w':World} (h:aY S E w) (g:ae w w'):aY S E w' where
 pos:=h.pos
 cell k hk:=by
  have:=h.cell k hk
  rw [<-this]
  exact g.below.cell (p:=⟨pG k,0,none⟩) (aN this)
 row k hk:=by
  obtain ⟨cs,t,hr⟩:=h.row k hk
  exact ⟨cs,t,(g.below.block _ (zZ2.1 hr).1).trans hr⟩
 ne:=h.ne
theorem num_nil (w:World):Calls Tryz.prog 9 #[.nilIface] w fun e w'=>e=.returned (.int .i64 0)/\w=w':=by
 go_in
 go_wp2
 go_ret
 exact ⟨rfl,rfl⟩
def Nq (E:Nat->Addr):Array Value:=#[.iface 337 (.pointer (some (E 1))),.iface 337 (.pointer (some (E 2))),.iface 337 (.pointer (some (E 3))),.iface 337 (.pointer (some (E 4))),.iface 337 (.pointer (some (E 5))),.iface 337 (.pointer (some (E 6))),.iface 337 (.pointer (some (E 7))),.iface 337 (.pointer (some (E 8))),.iface 337 (.pointer (some (E 9))),.iface 337 (.pointer (some (E 10))),.iface 337 (.pointer (some (E 11))),.iface 337 (.pointer (some (E 12))),.iface 337 (.pointer (some (E 13))),.iface 337 (.pointer (some (E 14))),.iface 337 (.pointer (some (E 15))),.iface 337 (.pointer (some (E 16))),.iface 337 (.pointer (some (E 17))),.iface 337 (.pointer (some (E 18))),.iface 337 (.pointer (some (E 19)))]
theorem XT (E:Nat->Addr) (i:Nat) (h:i<19):(Nq E)[i]? =some (.iface 337 (.pointer (some (E (i+1))))):=by
 match i,h with
 | 0,_=>rfl
 | 1,_=>rfl
 | 2,_=>rfl
 | 3,_=>rfl
 | 4,_=>rfl
 | 5,_=>rfl
 | 6,_=>rfl
 | 7,_=>rfl
 | 8,_=>rfl
 | 9,_=>rfl
 | 10,_=>rfl
 | 11,_=>rfl
 | 12,_=>rfl
 | 13,_=>rfl
 | 14,_=>rfl
 | 15,_=>rfl
 | 16,_=>rfl
 | 17,_=>rfl
 | 18,_=>rfl
 | n+19,h=>omega
def kd (k:Nat):Bool:=decide (1<=k) && decide (k<=19)
theorem yU (E:Nat->Addr) (k:Nat) (hk1:1<=k) (hk2:k<=19) (w:World) (hE:aY kd E w):
    Calls Tryz.prog 9 #[.iface 337 (.pointer (some (E k)))] w fun e w'=>e=.returned (.int .i64 k)/\ae w w':=by
 have c1:w.cell? ⟨1,0,none⟩=some (.iface 337 (.pointer (some (E 1)))):=hE.cell 1 (by decide)
 have c2:w.cell? ⟨2,0,none⟩=some (.iface 337 (.pointer (some (E 2)))):=hE.cell 2 (by decide)
 have c3:w.cell? ⟨3,0,none⟩=some (.iface 337 (.pointer (some (E 3)))):=hE.cell 3 (by decide)
 have c4:w.cell? ⟨0,0,none⟩=some (.iface 337 (.pointer (some (E 4)))):=hE.cell 4 (by decide)
 have c5:w.cell? ⟨4,0,none⟩=some (.iface 337 (.pointer (some (E 5)))):=hE.cell 5 (by decide)
 have c6:w.cell? ⟨5,0,none⟩=some (.iface 337 (.pointer (some (E 6)))):=hE.cell 6 (by decide)
 have c7:w.cell? ⟨6,0,none⟩=some (.iface 337 (.pointer (some (E 7)))):=hE.cell 7 (by decide)
 have c8:w.cell? ⟨7,0,none⟩=some (.iface 337 (.pointer (some (E 8)))):=hE.cell 8 (by decide)
 have c9:w.cell? ⟨8,0,none⟩=some (.iface 337 (.pointer (some (E 9)))):=hE.cell 9 (by decide)
 have c10:w.cell? ⟨9,0,none⟩=some (.iface 337 (.pointer (some (E 10)))):=hE.cell 10 (by decide)
 have c11:w.cell? ⟨10,0,none⟩=some (.iface 337 (.pointer (some (E 11)))):=hE.cell 11 (by decide)
 have c12:w.cell? ⟨11,0,none⟩=some (.iface 337 (.pointer (some (E 12)))):=hE.cell 12 (by decide)
 have c13:w.cell? ⟨12,0,none⟩=some (.iface 337 (.pointer (some (E 13)))):=hE.cell 13 (by decide)
 have c14:w.cell? ⟨13,0,none⟩=some (.iface 337 (.pointer (some (E 14)))):=hE.cell 14 (by decide)
 have c15:w.cell? ⟨14,0,none⟩=some (.iface 337 (.pointer (some (E 15)))):=hE.cell 15 (by decide)
 have c16:w.cell? ⟨15,0,none⟩=some (.iface 337 (.pointer (some (E 16)))):=hE.cell 16 (by decide)
 have c17:w.cell? ⟨16,0,none⟩=some (.iface 337 (.pointer (some (E 17)))):=hE.cell 17 (by decide)
 have c18:w.cell? ⟨17,0,none⟩=some (.iface 337 (.pointer (some (E 18)))):=hE.cell 18 (by decide)
 have c19:w.cell? ⟨18,0,none⟩=some (.iface 337 (.pointer (some (E 19)))):=hE.cell 19 (by decide)
 go_in
 go_wp2
 obtain ⟨W1,hW1⟩:∃W1,W1=w.alloc (.cells (Nq E) 29):=⟨_,rfl⟩
 have hcell:∀n,n<19->W1.cell? ⟨w.heap.size,n,none⟩=some (.iface 337 (.pointer (some (E (n+1))))):=fun n hn=>by
  rw [hW1,cell_of_row _ w.heap.size n (Nq E) 29 (0,0) (heap_alloc_new w _),XT E n hn]
 have hG:ae w W1:=by rw [hW1];exact (ae.rf w).alloc _
 have Fv:aY kd E W1:=hE.ag hG
 have SE:w.alloc (Obj.cells #[.iface 337 (.pointer (some (E 1))),.iface 337 (.pointer (some (E 2))),.iface 337 (.pointer (some (E 3))),.iface 337 (.pointer (some (E 4))),.iface 337 (.pointer (some (E 5))),.iface 337 (.pointer (some (E 6))),.iface 337 (.pointer (some (E 7))),.iface 337 (.pointer (some (E 8))),.iface 337 (.pointer (some (E 9))),.iface 337 (.pointer (some (E 10))),.iface 337 (.pointer (some (E 11))),.iface 337 (.pointer (some (E 12))),.iface 337 (.pointer (some (E 13))),.iface 337 (.pointer (some (E 14))),.iface 337 (.pointer (some (E 15))),.iface 337 (.pointer (some (E 16))),.iface 337 (.pointer (some (E 17))),.iface 337 (.pointer (some (E 18))),.iface 337 (.pointer (some (E 19)))] 29)=W1:=hW1.symm
 rw [SE]
 clear SE hW1 c1 c2 c3 c4 c5 c6 c7 c8 c9 c10 c11 c12 c13 c14 c15 c16 c17 c18 c19
 have HC:=af hcell
 clear hcell
 go_loop [4,5,30] (fun _ _ i=>∃n:Nat,i=.int .i64 n/\n<k) (fun _ _ i=>19 - (intOf i).toNat)
 case atStart=>exact ⟨0,rfl,by omega⟩
 case round=>
  obtain ⟨n,rfl,hn⟩:=hrel
  have hc:=HC.out n (by omega)
  by_cases he:n+1=k
  · subst he
    go_wp2_with (go_at_call 33;refine (yT _ _).mono ?_;rintro e w' ⟨rfl,rfl⟩)
    go_ret
    exact ⟨fV (by omega),hG⟩
  · obtain ⟨ca,ta,SG⟩:=Fv.row k (by simp [kd];omega)
    obtain ⟨cb,tb,jG⟩:=Fv.row (n+1) (by simp [kd];omega)
    have hne:=Fv.ne k (n+1) (by simp [kd];omega) (by simp [kd];omega) (by omega)
    have hcon:=af (ud (E k) (E (n+1)) ca cb ta tb W1 hne SG jG)
    clear SG jG hne
    go_wp2_with (go_at_call 33;refine hcon.out.mono ?_;rintro e w' ⟨rfl,rfl⟩)
    go_round
    case rel=>exact ⟨n+1,by go_num,by omega⟩
    case measure=>simp [intOf];omega
end
section
def jK (k:Nat):Bool:=decide (k=1) || decide (k=2) || decide (k=3) || decide (k=4) || decide (k=6) || decide (k=7) || decide (k=19)
theorem aY.less {S T:Nat->Bool} {E:Nat->Addr} {w:World} (h:aY S E w) (hT:∀k,T k=true->S k=true):aY T E w:=
 ⟨(by cases hh:T 0 with | false=>rfl | true=>(have:=hT 0 hh;rw [h.pos] at this;cases this)),fun k hk=>h.cell k (hT k hk),fun k hk=>h.row k (hT k hk),fun j k hj hk=>h.ne j k (hT j hj) (hT k hk)⟩
end
section
open Go.RowKit
theorem z2m {P:Program} {W:World} {nm:String} {ti tp te ts:TypeId} {ms:Array (String×TypeId)} {f:Field}
    (hi:P.underlying ti=some (.interface ms)) (aI:∀u,P.typeName? 3 u=some nm->u=tp)
    (hp:P.underlying tp=some (.pointer te)) (he:P.underlying te=some (.struct #[f])) (hft:f.type=ts) (hfo:f.offset=0) (hs:P.underlying ts=some .string) (hc:P.cellsOf te=1) (hcs:P.cellsOf ts=1):
    ∀(L:List (String×DataW Unit)) (gs:List Nat) (ps:List MemPlace),(∀x∈L,∃text,x.2=.iface nm (.ptr (.agg [.lit (.string text)])))->L.map (fun x=>P.globalNamed x.1)=gs.map some->
     (∀g∈gs,(P.globals[g]?).map (·.type)=some ti)->DataW.LaidVars P W L ps->ps.Nodup->
     (∀b off,MemPlace.cell b off∈ps->(∃c t,W.heap[b]? =some (.cells c t (0,0)))/\∀u v,W.cell? ⟨b,off,none⟩=some (.iface u v)->Value.okWide P W .any 0 u v)->
     ∃rK:List Addr,rK.length=gs.length/\(∀(i g:Nat) (a:Addr),gs[i]? =some g->rK[i]? =some a->W.cell? ⟨g,0,none⟩=some (.iface tp (.pointer (some a)))/\∃c t,W.heap[a.block]? =some (.cells c t (0,0)))/\
      (∀a∈rK,MemPlace.cell a.block a.off∈ps)/\rK.Nodup:=by
 intro L
 induction L with
 | nil=>
  intro gs ps _ hg _ _ _ _
  cases gs with
  | nil=>exact ⟨[],rfl,by simp,by simp,List.nodup_nil⟩
  | cons g r=>simp at hg
 | cons x L ih=>
  intro gs ps hsh hg ht hL hnd hrows
  obtain ⟨n,d⟩:=x
  cases gs with
  | nil=>simp at hg
  | cons g gs=>
   simp only [zJ8,List.cons.injEq] at hg
   obtain ⟨hg0,aA⟩:=hg
   obtain ⟨g0,t0,cs0,f0,p0,q0,hg0',ht0',hv0,hd0,hrest,rfl⟩:=hL
   obtain rfl:=Option.some.inj (hg0.symm.trans hg0')
   obtain rfl:=Option.some.inj ((ht g (by simp)).symm.trans ht0')
   obtain ⟨text,htext⟩:=hsh (n,d) (by simp)
   simp only at htext
   subst htext
   obtain ⟨l0⟩:=cs0
   have ok0:∀u v,l0=[.iface u v]->Value.okWide P W .any 0 u v:=fun u v e=>by
    subst e
    exact (hrows g 0 (by simp [MemPlace.row])).2 u v (by simpa using World.var?_cell hg0' hv0 0)
   obtain ⟨a0,s0,rfl,hc0,hs0,hz0,rfl⟩:=errorString_of_trod hi aI hp he hft hfo hs hc hcs hd0 ok0
   have Su:q0.Nodup:=List.Nodup.sublist (List.sublist_append_right _ _) hnd
   obtain ⟨rK,h1,h2,h3,h4⟩:=ih gs q0 (fun x hx=>hsh x (List.mem_cons_of_mem _ hx)) aA (fun g' hg'=>ht g' (List.mem_cons_of_mem _ hg')) hrest Su
    (fun b off hm=>hrows b off (List.mem_append_right _ hm))
   refine ⟨a0::rK,by simp [h1],?_,?_,?_⟩
   · intro i g' a sV hai
     cases i with
     | zero=>
      simp at sV hai
      subst sV hai
      exact ⟨by simpa using World.var?_cell hg0' hv0 0,(hrows a0.block a0.off (by simp [MemPlace.row])).1⟩
     | succ i=>exact h2 i g' a (by simpa using sV) (by simpa using hai)
   · intro a ha
     rcases List.mem_cons.1 ha with rfl | ha
     · simp [MemPlace.row]
     · exact List.mem_append_right _ (h3 a ha)
   · refine List.nodup_cons.2 ⟨fun hm=>?_,h4⟩
     have hd:=(List.nodup_append.1 hnd).2.2 (MemPlace.cell a0.block a0.off) (by simp [MemPlace.row]) (MemPlace.cell a0.block a0.off) (h3 a0 hm)
     exact hd rfl
theorem XB: "*" ++ "errors.errorString" = "*errors.errorString" :=by decide+kernel
theorem z4k (u:TypeId) (h:Tryz.prog.typeName? 3 u=some "*errors.errorString"):u=337:=
 typeName_ptr_named (nm:= "errors.errorString") (by rw [XB];kernel_rfl) (by kernel_rfl) (by decide) u (by rw [XB];exact h)
theorem y5j:Tryz.prog.cellsOf 366=1:=by kernel_rfl
theorem y9y:Tryz.prog.cellsOf 9=1:=by kernel_rfl
theorem y8x (L:List (String×DataW Unit)) (ks:List Nat) (S:Nat->Bool) (hS:∀k,S k=true->k∈ks) (h0:S 0=false) {W:World}
    (hsh:∀x∈L,∃text,x.2=.iface "*errors.errorString" (.ptr (.agg [.lit (.string text)]))) (hg:L.map (fun x=>Tryz.prog.globalNamed x.1)=(ks.map pG).map some)
    (ht:∀g∈ks.map pG,(Tryz.prog.globals[g]?).map (·.type)=some 29) (h:laidMet Tryz.prog L W):∃E,aY S E W:=by
 obtain ⟨ps,hL,hnd,hrows⟩:=h
 obtain ⟨rK,h1,h2,_,h4⟩:=z2m (P:=Tryz.prog) (W:=W) Tryz.underlying29 z4k Tryz.underlying337 Tryz.underlying366 rfl rfl Tryz.underlying9 y5j y9y L (ks.map pG) ps hsh hg ht hL hnd hrows
 have get:∀k,k∈ks->∃a,rK[ks.idxOf k]? =some a/\(ks.map pG)[ks.idxOf k]? =some (pG k)/\rK.getD (ks.idxOf k) default=a:=by
  intro k hk
  have aq:ks.idxOf k<ks.length:=List.idxOf_lt_length_iff.2 hk
  have hl:ks.idxOf k<rK.length:=by rw [h1];simpa using aq
  refine ⟨rK[ks.idxOf k],List.getElem?_eq_getElem hl,?_,?_⟩
  · rw [List.getElem?_map,List.getElem?_eq_getElem aq,List.getElem_idxOf aq];rfl
  · rw [zJ0,List.getElem?_eq_getElem hl];rfl
 refine ⟨fun k=>rK.getD (ks.idxOf k) default,h0,?_,?_,?_⟩
 · intro k hk
   obtain ⟨a,ha,Sv,e⟩:=get k (hS k hk)
   rw [e]
   exact (h2 _ _ _ Sv ha).1
 · intro k hk
   obtain ⟨a,ha,Sv,e⟩:=get k (hS k hk)
   rw [e]
   exact (h2 _ _ _ Sv ha).2
 · intro j k hj hk hne
   obtain ⟨a,ha,_,e⟩:=get j (hS j hj)
   obtain ⟨b,hb,_,e'⟩:=get k (hS k hk)
   show rK.getD (ks.idxOf j) default≠rK.getD (ks.idxOf k) default
   rw [e,e']
   rintro rfl
   obtain ⟨hl1,g1⟩:=zQ9.1 ha
   obtain ⟨hl2,g2⟩:=zQ9.1 hb
   have hi:=zX0.1 h4
   have hij:ks.idxOf j=ks.idxOf k:=by
    refine zZ7 fun hn=>?_
    rcases Nat.lt_or_gt_of_ne hn with hlt2 | hlt2
    · exact hi _ _ hl1 hl2 hlt2 (g1.trans g2.symm)
    · exact hi _ _ hl2 hl1 hlt2 (g2.trans g1.symm)
   have hj':ks.idxOf j<ks.length:=List.idxOf_lt_length_iff.2 (hS j hj)
   have hk':ks.idxOf k<ks.length:=List.idxOf_lt_length_iff.2 (hS k hk)
   have e1:=List.getElem_idxOf hj'
   have e2:=List.getElem_idxOf hk'
   simp only [hij] at e1
   exact hne (e1.symm.trans e2)
end
end Go.Proofs.YtbnofojapimfcaaGreatDoor
