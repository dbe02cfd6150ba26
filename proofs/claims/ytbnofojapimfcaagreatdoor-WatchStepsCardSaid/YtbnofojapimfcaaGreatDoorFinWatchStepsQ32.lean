/- Part 32 of the proof. -/
import Derived.Test.YtbnofojapimfcaaGreatDoorFinWatchStepsQ30
set_option linter.unusedVariables false
set_option linter.unusedSectionVars false
set_option linter.unusedSimpArgs false
set_option maxRecDepth 100000
set_option maxHeartbeats 16000000
namespace Go.Proofs.YtbnofojapimfcaaGreatDoor
section
open Go.RowKit Go.Maps
attribute [local go_sem] Oper.semAt_some aT
structure VM (w:World) (xs:List Sh) (ne:Nat) (evs:List Value) (L:Nat->Bool) (f:Nat->Value) (x:World):Prop where
 g:ae w x
 k4:L 4=true->∃g c,f 4=.slice (some ⟨g,0,none⟩) xs.length c/\x.ownsRow w.heap.size 128 5 (.slice (some ⟨g,0,none⟩) xs.length c) xs.length (dC xs)
 k13:L 13=true->x.ownsRow w.heap.size 159 13 (f 13) ne evs/\(ne=0->f 13=.slice none 0 0)
 kne:L 4=true->L 13=true->∀g,(f 13).ownBlock=some g->(f 4).ownBlock≠some g
section
variable {w:World} {F:Nat->Prop} {sb:Nat} {s:df} (h:gm w F sb s)
include h
end
end
section
open Go.RowKit Go.Maps
attribute [local go_sem] Oper.semAt_some aT
structure j0o (W wr:World) (L:Nat->Nat) (k' ob QB Jw MF mb r n:Nat) (f:Lit->Option Value) (A:bc) (MG:Nat->Nat) (fo:Lit->Option Value) (q:Nat) (left:Lit->Bool) (cnt:Nat) (Lr:Nat->Nat):Prop where
 ag:ae W wr
 rng:Eu wr Tryz.prog 3 mb r n f left cnt
 j0p:q+cnt<=n
 c0:wr.cell? ⟨ob,0,none⟩=some (.int .i64 A.at_)
 c1:wr.cell? ⟨ob,1,none⟩=some (.pointer (some ⟨QB,0,none⟩))
 c2:wr.cell? ⟨ob,2,none⟩=some (.map (some Jw))
 c3:wr.cell? ⟨ob,3,none⟩=some (.map (some MF))
 fz:∀i,wr.frozen? ⟨ob,i,none⟩=false
 lm:bL wr Tryz.prog 3 Jw q fo
 val:∀i:Nat,fo (bW i)=if left (bW i)=true then none else (A.st i).map fun _=> .pointer (some ⟨MG i,0,none⟩)
 lit:∀l,fo l≠none->∃i:Nat,l=bW i
 la:∃fa m,m<=n/\bL wr Tryz.prog 3 MF m fa
 sh:∃F,gm wr F QB A.sh/\∀j,F j->Lr j=k'+3
 j0q:∀j,j<W.heap.size->Lr j=L j
 j0r:∀j,W.heap.size<=j->br k' (Lr j)
 lob:Lr ob=k'
 oQ:Lr Jw=k'+1
 jU:Lr MF=k'+2
 lr:Lr r=k'+90
 nr:W.heap.size<=r
 VH:W.heap.size<=Jw
 states:∀i P S,A.st i=some (P,S)->left (bW i)=false->i<=12/\∃c∈A.sh.xs,c.id=(i:Int)/\∃Ft Fs m,m<=n/\cY wr Ft Fs (MG i) m c.lo c.hi P S/\∀j,eZ Ft Fs (MG i) j->Lr j=k'+20+i
section
variable {W wr w':World} {L:Nat->Nat} {k' ob QB Jw MF mb r n:Nat} {f:Lit->Option Value} {A:bc} {MG j0s:Nat->Nat} {fo fo':Lit->Option Value} {q q':Nat} {left left':Lit->Bool} {cnt cnt':Nat} {Lr Lr':Nat->Nat}
end
end
end Go.Proofs.YtbnofojapimfcaaGreatDoor
