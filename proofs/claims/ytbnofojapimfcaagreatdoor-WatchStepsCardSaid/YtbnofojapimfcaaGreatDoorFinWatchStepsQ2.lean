/- Part 2 of the proof. -/
import Derived.Test.YtbnofojapimfcaaGreatDoorFinWatchStepsQ1
import Derived.Lib.DecodeN
import GoSem.Op.String
set_option linter.unusedVariables false
set_option linter.unusedSectionVars false
set_option linter.unusedSimpArgs false
set_option maxRecDepth 100000
set_option maxHeartbeats 16000000
namespace Go.Proofs.YtbnofojapimfcaaGreatDoor.Pl
def bp (l:List UInt8):Option (Nat×Nat):=
 if (Lib.decodeN l.length (l.getD 0 0).toNat (l.getD 1 0).toNat (l.getD 2 0).toNat (l.getD 3 0).toNat)=(65533,1) then none
 else some (Lib.decodeN l.length (l.getD 0 0).toNat (l.getD 1 0).toNat (l.getD 2 0).toNat (l.getD 3 0).toNat)
def enc (c:Nat):List UInt8:=
 if c<128 then [UInt8.ofNat c]
 else if c<2048 then [UInt8.ofNat (192+c / 64),UInt8.ofNat (128+c % 64)]
 else if c<65536 then [UInt8.ofNat (224+c / 4096),UInt8.ofNat (128+c / 64 % 64),UInt8.ofNat (128+c % 64)]
 else [UInt8.ofNat (240+c / 262144),UInt8.ofNat (128+c / 4096 % 64),UInt8.ofNat (128+c / 64 % 64),UInt8.ofNat (128+c % 64)]
def good (c:Nat):Prop:=c<55296\/(57344<=c/\c<=1114111)
theorem XD (n b0 b1 b2 b3 c w:Nat) (h0:b0<256) (h1:b1<256) (h2:b2<256) (h3:b3<256) (hn:0<n)
    (h:Lib.decodeN n b0 b1 b2 b3=(c,w)) (hne:(c,w)≠(65533,1)):
    good c/\w<=n/\((c<128/\w=1/\b0=c)\/(128<=c/\c<2048/\w=2/\b0=192+c / 64/\b1=128+c % 64)\/
     (2048<=c/\c<65536/\w=3/\b0=224+c / 4096/\b1=128+c / 64 % 64/\b2=128+c % 64)\/
     (65536<=c/\w=4/\b0=240+c / 262144/\b1=128+c / 4096 % 64/\b2=128+c / 64 % 64/\b3=128+c % 64)):=by
 unfold Lib.decodeN at h
 unfold good
 split at h
 · simp only [Prod.mk.injEq] at h
   omega
 · split at h
   · split at h
     · simp only [Prod.mk.injEq] at h
       omega
     · exact absurd h.symm hne
   · split at h
     · split at h
       · simp only [Prod.mk.injEq] at h
         omega
       · exact absurd h.symm hne
     · split at h
       · split at h
         · simp only [Prod.mk.injEq] at h
           omega
         · exact absurd h.symm hne
       · exact absurd h.symm hne
theorem Cn (l:List UInt8) (hl:l≠[]) (c w:Nat) (h:bp l=some (c,w)):l=enc c++l.drop w/\w=(enc c).length/\good c:=by
 unfold bp at h
 split at h
 · cases h
 · next hne=>
   have hp:0<l.length:=List.length_pos_iff.2 hl
   simp only [Option.some.injEq] at h
   rw [h] at hne
   obtain ⟨hg,hw,hc⟩:=XD _ _ _ _ _ c w (zK6 _) (zK6 _) (zK6 _) (zK6 _) hp h hne
   refine ⟨?_,?_,hg⟩
   · rcases hc with ⟨h1,rfl,e0⟩ | ⟨h1,h2,rfl,e0,e1⟩ | ⟨h1,h2,rfl,e0,e1,e2⟩ | ⟨h1,rfl,e0,e1,e2,e3⟩
     · match l,hw with
       | a::t,_=>
        simp at e0
        rw [enc,zZ1 h1,<-e0];simp
     · match l,hw with
       | a::b::t,_=>
        simp at e0 e1
        rw [enc,zZ0 (by omega),zZ1 h2,<-e0,<-e1];simp
     · match l,hw with
       | a::b::d::t,_=>
        simp at e0 e1 e2
        rw [enc,zZ0 (by omega),zZ0 (by omega),zZ1 h2,<-e0,<-e1,<-e2];simp
     · match l,hw with
       | a::b::d::e::t,_=>
        simp at e0 e1 e2 e3
        rw [enc,zZ0 (by omega),zZ0 (by omega),zZ0 (by omega),<-e0,<-e1,<-e2,<-e3];simp
   · unfold enc
     rcases hc with ⟨h1,rfl,e0⟩ | ⟨h1,h2,rfl,e0,e1⟩ | ⟨h1,h2,rfl,e0,e1,e2⟩ | ⟨h1,rfl,e0,e1,e2,e3⟩
     · rw [zZ1 h1];rfl
     · rw [zZ0 (by omega),zZ1 h2];rfl
     · rw [zZ0 (by omega),zZ0 (by omega),zZ1 h2];rfl
     · rw [zZ0 (by omega),zZ0 (by omega),zZ0 (by omega)];rfl
theorem lt_iff (a b:Nat) (ha:a<256) (hb:b<256):(UInt8.ofNat a<UInt8.ofNat b)=(a<b):=by
 rw [UInt8.lt_iff_toNat_lt];simp;rw [Nat.mod_eq_of_lt ha,Nat.mod_eq_of_lt hb]
theorem eq_iff (a b:Nat) (ha:a<256) (hb:b<256):(UInt8.ofNat a=UInt8.ofNat b)=(a=b):=by
 apply propext
 rw [<-UInt8.toNat_inj];simp;rw [Nat.mod_eq_of_lt ha,Nat.mod_eq_of_lt hb]
theorem tW (a b:Nat) (ha:a<256) (hb:b<256) (x y:List UInt8):
    Op.bytesLess (UInt8.ofNat a::x) (UInt8.ofNat b::y)=if a<b then true else if a=b then Op.bytesLess x y else false:=by
 simp only [Op.bytesLess]
 by_cases h1:a<b
 · simp [h1,lt_iff a b ha hb]
 · by_cases h2:a=b
   · subst h2;simp
   · have e1:decide (UInt8.ofNat a<UInt8.ofNat b)=false:=by rw [decide_eq_false_iff_not,lt_iff a b ha hb];exact h1
     have e2:(UInt8.ofNat a==UInt8.ofNat b)=false:=by rw [beq_eq_false_iff_ne,Ne,eq_iff a b ha hb];exact h2
     rw [e1,e2,zZ0 h1,zZ0 h2];rfl
theorem Co (c d:Nat) (hc:good c) (hd:good d) (x y:List UInt8):
    Op.bytesLess (enc c++x) (enc d++y)=if c<d then true else if c=d then Op.bytesLess x y else false:=by
 unfold good at hc hd
 by_cases lD:c=d
 · subst lD
   unfold enc
   split
   · simp only [zK7,List.nil_append]
     rw [tW _ _ (by omega) (by omega)];simp
   · split
     · simp only [zK7,List.nil_append]
       rw [tW _ _ (by omega) (by omega),tW _ _ (by omega) (by omega)];simp
     · split
       · simp only [zK7,List.nil_append]
         rw [tW _ _ (by omega) (by omega),tW _ _ (by omega) (by omega),tW _ _ (by omega) (by omega)];simp
       · simp only [zK7,List.nil_append]
         rw [tW _ _ (by omega) (by omega),tW _ _ (by omega) (by omega),tW _ _ (by omega) (by omega),tW _ _ (by omega) (by omega)];simp
 · unfold enc
   by_cases c1:c<128
   all_goals by_cases d1:d<128
   all_goals by_cases c2:c<2048
   all_goals by_cases d2:d<2048
   all_goals by_cases c3:c<65536
   all_goals by_cases d3:d<65536
   all_goals first
    | (exfalso;omega)
    | (simp only [c1,d1,c2,d2,c3,d3,if_true,if_false,zK7,List.nil_append,lD]
       repeat (rw [tW _ _ (by omega) (by omega)])
       repeat' split
       all_goals first | rfl | (exfalso;omega))
def AV:Nat->List UInt8->Option (List Nat)
 | 0,_=>some []
 | n+1,l=>if l=[] then some [] else (bp l).bind fun p=>(AV n (l.drop p.2)).map (p.1::·)
def runes (l:List UInt8):Option (List Nat):=AV l.length l
theorem Fq (l:List UInt8) (hl:l≠[]) (c w:Nat) (h:bp l=some (c,w)):0<w/\w<=l.length:=by
 obtain ⟨h1,h2,_⟩:=Cn l hl c w h
 have e:0<(enc c).length:=by
  unfold enc
  repeat' split
  all_goals simp
 have:=congrArg List.length h1
 simp at this
 have hp:0<l.length:=List.length_pos_iff.2 hl
 omega
theorem XE:∀(n m:Nat) (l:List UInt8),l.length<=n->l.length<=m->AV n l=AV m l:=by
 intro n
 induction n with
 | zero=>
  intro m l hn _
  have:l=[]:=zX1 (by omega)
  subst this
  cases m<;> simp [AV]
 | succ n ih=>
  intro m l hn hm
  cases m with
  | zero=>
   have:l=[]:=zX1 (by omega)
   subst this
   simp [AV]
  | succ m=>
   unfold AV
   by_cases hl:l=[]
   · simp [hl]
   · simp only [hl,if_false]
     cases h:bp l with
     | none=>rfl
     | some p=>
      obtain ⟨c,w⟩:=p
      have hp:=Fq l hl c w h
      simp only [zK8]
      rw [ih m (l.drop w) (by simp;omega) (by simp;omega)]
theorem tX:runes []=some []:=rfl
theorem rM (l:List UInt8) (hl:l≠[]):runes l=(bp l).bind fun p=>(runes (l.drop p.2)).map (p.1::·):=by
 have hp:0<l.length:=List.length_pos_iff.2 hl
 unfold runes
 obtain ⟨n,hn⟩:∃n,l.length=n+1:=⟨l.length - 1,by omega⟩
 rw [hn,AV,zZ0 hl]
 cases h:bp l with
 | none=>rfl
 | some p=>
  obtain ⟨c,w⟩:=p
  have hp:=Fq l hl c w h
  simp only [zK8]
  rw [XE n (l.drop w).length (l.drop w) (by simp;omega) (zZ3 _)]
def AW:List Nat->List Nat->Bool
 | _,[]=>false
 | [],_::_=>true
 | a::x,b::y=>if a<b then true else if a=b then AW x y else false
theorem XF:∀(n:Nat) (a b:List UInt8) (x y:List Nat),a.length<=n->runes a=some x->runes b=some y->Op.bytesLess a b=AW x y:=by
 intro n
 induction n with
 | zero=>
  intro a b x y hn ha hb
  have:a=[]:=zX1 (by omega)
  subst this
  rw [tX] at ha
  cases ha
  cases b with
  | nil=>rw [tX] at hb;cases hb;rfl
  | cons u t=>
   rw [rM _ (by simp)] at hb
   cases h:bp (u::t) with
   | none=>rw [h] at hb;cases hb
   | some p=>
    rw [h] at hb
    simp only [zK8,zK9] at hb
    obtain ⟨z,_,rfl⟩:=hb
    rfl
 | succ n ih=>
  intro a b x y hn ha hb
  by_cases ea:a=[]
  · subst ea
    rw [tX] at ha
    cases ha
    cases b with
    | nil=>rw [tX] at hb;cases hb;rfl
    | cons u t=>
     rw [rM _ (by simp)] at hb
     cases h:bp (u::t) with
     | none=>rw [h] at hb;cases hb
     | some p=>
      rw [h] at hb
      simp only [zK8,zK9] at hb
      obtain ⟨z,_,rfl⟩:=hb
      rfl
  · rw [rM _ ea] at ha
    cases h:bp a with
    | none=>rw [h] at ha;cases ha
    | some p=>
     obtain ⟨c,w⟩:=p
     rw [h] at ha
     simp only [zK8,zK9] at ha
     obtain ⟨z,hz,rfl⟩:=ha
     obtain ⟨e1,e2,e3⟩:=Cn a ea c w h
     have hp:=Fq a ea c w h
     by_cases eb:b=[]
     · subst eb
       rw [tX] at hb
       cases hb
       cases a<;> rfl
     · rw [rM _ eb] at hb
       cases h':bp b with
       | none=>rw [h'] at hb;cases hb
       | some p'=>
        obtain ⟨c',w'⟩:=p'
        rw [h'] at hb
        simp only [zK8,zK9] at hb
        obtain ⟨z',hz',rfl⟩:=hb
        obtain ⟨e1',e2',e3'⟩:=Cn b eb c' w' h'
        rw [e1,e1',Co c c' e3 e3']
        unfold AW
        rw [ih (a.drop w) (b.drop w') z z' (by simp;omega) hz hz']
theorem XG:∀(n:Nat) (a b:List UInt8) (x:List Nat),a.length<=n->runes a=some x->runes b=some x->a=b:=by
 intro n
 induction n with
 | zero=>
  intro a b x hn ha hb
  have:a=[]:=zX1 (by omega)
  subst this
  rw [tX] at ha
  cases ha
  cases b with
  | nil=>rfl
  | cons u t=>
   rw [rM _ (by simp)] at hb
   cases h:bp (u::t) with
   | none=>rw [h] at hb;cases hb
   | some p=>
    rw [h] at hb
    simp at hb
 | succ n ih=>
  intro a b x hn ha hb
  by_cases ea:a=[]
  · subst ea
    rw [tX] at ha
    cases ha
    cases b with
    | nil=>rfl
    | cons u t=>
     rw [rM _ (by simp)] at hb
     cases h:bp (u::t) with
     | none=>rw [h] at hb;cases hb
     | some p=>
      rw [h] at hb
      simp at hb
  · rw [rM _ ea] at ha
    cases h:bp a with
    | none=>rw [h] at ha;cases ha
    | some p=>
     obtain ⟨c,w⟩:=p
     rw [h] at ha
     simp only [zK8,zK9] at ha
     obtain ⟨z,hz,rfl⟩:=ha
     obtain ⟨e1,e2,e3⟩:=Cn a ea c w h
     have hp:=Fq a ea c w h
     by_cases eb:b=[]
     · subst eb
       rw [tX] at hb
       cases hb
     · rw [rM _ eb] at hb
       cases h':bp b with
       | none=>rw [h'] at hb;cases hb
       | some p'=>
        obtain ⟨c',w'⟩:=p'
        rw [h'] at hb
        simp only [zK8,zK9] at hb
        obtain ⟨z',hz',hzz⟩:=hb
        simp only [List.cons.injEq] at hzz
        obtain ⟨rfl,rfl⟩:=hzz
        obtain ⟨e1',e2',e3'⟩:=Cn b eb c' w' h'
        rw [e1,e1',ih (a.drop w) (b.drop w') z' (by simp;omega) hz hz']
end Go.Proofs.YtbnofojapimfcaaGreatDoor.Pl
namespace Go.Proofs.YtbnofojapimfcaaGreatDoor.Pl
def dE (c:Nat):Option (Nat×Nat×Nat):=
 if c<128 then some (1,0,c) else if 192<=c/\c<224 then some (2,128,c - 192) else if 224<=c/\c<240 then some (3,2048,c - 224) else if 240<=c/\c<248 then some (4,65536,c - 240) else none
def im (least c:Nat):Bool:=!(decide (c<least) || decide (1114111<c) || (decide (55296<=c) && decide (c<=57343)))
def ba (d:Nat):Bool:=decide (128<=d) && decide (d<=191)
def j6 (n b0 b1 b2 b3:Nat):Option (Nat×Nat):=
 (dE b0).bind fun p=>
  if n<p.1 then none else
  if p.1=1 then (if im p.2.1 p.2.2 then some (p.2.2,1) else none) else
  if !ba b1 then none else
  if p.1=2 then (if im p.2.1 (p.2.2*64+b1 - 128) then some (p.2.2*64+b1 - 128,2) else none) else
  if !ba b2 then none else
  if p.1=3 then (if im p.2.1 ((p.2.2*64+b1 - 128)*64+b2 - 128) then some ((p.2.2*64+b1 - 128)*64+b2 - 128,3) else none) else
  if !ba b3 then none else
  (if im p.2.1 (((p.2.2*64+b1 - 128)*64+b2 - 128)*64+b3 - 128) then some (((p.2.2*64+b1 - 128)*64+b2 - 128)*64+b3 - 128,4) else none)
theorem kL (P:Nat×Nat) (Q:Option (Nat×Nat)) {D:Nat×Nat} (h:D=P) (h2:Q=if P=(65533,1) then none else some P):Q=if D=(65533,1) then none else some D:=by
 rw [h];exact h2
theorem tY (c w:Nat) (hw:w≠1):(some (c,w):Option (Nat×Nat))=if (c,w)=(65533,1) then none else some (c,w):=by
 rw [zZ0 (by intro h;simp only [Prod.mk.injEq] at h;exact hw h.2)]
theorem kM:(none:Option (Nat×Nat))=if ((65533,1):Nat×Nat)=(65533,1) then none else some (65533,1):=by
 rw [zZ1 rfl]
theorem yl (l c:Nat):im l c=decide (l<=c/\(c<55296\/(57344<=c/\c<=1114111))):=by
 unfold im
 rw [zX5];simp;omega
theorem Nl (d:Nat) (h:d<256):ba d=decide (d / 64=2):=by
 unfold ba
 rw [zX5];simp;omega
theorem yS (n b0 b1 b2 b3:Nat) (hn:0<n) (h0:b0<256) (h1:b1<256) (h2:b2<256) (h3:b3<256):
    j6 n b0 b1 b2 b3=if Lib.decodeN n b0 b1 b2 b3=(65533,1) then none else some (Lib.decodeN n b0 b1 b2 b3):=by
 unfold j6 dE
 simp only [yl,Nl b1 h1,Nl b2 h2,Nl b3 h3]
 by_cases c0:b0<128
 · refine kL (b0,1) _ (by unfold Lib.decodeN;rw [zZ1 c0]) ?_
   rw [zZ1 c0]
   simp only [zK8]
   rw [zZ0 (show ¬n<1 by omega),zZ1 trivial,zZ1 (by simp;omega),zZ0 (by intro h;simp only [Prod.mk.injEq] at h;omega)]
 · by_cases c1:192<=b0/\b0<224
   · rw [zZ0 c0,zZ1 c1]
     simp only [zK8]
     by_cases m1:1<n/\b1 / 64=2
     · rw [zZ0 (show ¬n<2 by omega),zZ0 (show ¬(2=1) by omega),show decide (b1 / 64=2)=true by simp [m1.2]]
       have e:(b0 - 192)*64+b1 - 128=b0 % 32*64+b1 % 64:=by omega
       rw [e]
       by_cases f:b0 % 32*64+b1 % 64≥128
       · refine kL (b0 % 32*64+b1 % 64,2) _ (by unfold Lib.decodeN;rw [zZ0 c0,zZ1 (by omega),zZ1 f]) ?_
         rw [<-tY _ _ (by omega)]
         simp;omega
       · refine kL (65533,1) _ (by unfold Lib.decodeN;rw [zZ0 c0,zZ1 (by omega),zZ0 f]) ?_
         rw [<-kM]
         simp;omega
     · refine kL (65533,1) _ (by unfold Lib.decodeN;rw [zZ0 c0,zZ0 (by omega),zZ0 (by omega),zZ0 (by omega)]) ?_
       rw [<-kM]
       by_cases fW:n<2
       · rw [zZ1 fW]
       · rw [zZ0 fW,zZ0 (show ¬(2=1) by omega),show decide (b1 / 64=2)=false by simp;omega];rfl
   · by_cases c2:224<=b0/\b0<240
     · rw [zZ0 c0,zZ0 c1,zZ1 c2]
       simp only [zK8]
       by_cases m1:(1<n/\b1 / 64=2)/\(2<n/\b2 / 64=2)
       · rw [zZ0 (show ¬n<3 by omega),zZ0 (show ¬(3=1) by omega),show decide (b1 / 64=2)=true by simp [m1.1.2],zZ0 (show ¬(3=2) by omega),show decide (b2 / 64=2)=true by simp [m1.2.2]]
         have e:((b0 - 224)*64+b1 - 128)*64+b2 - 128=b0 % 16*4096+b1 % 64*64+b2 % 64:=by omega
         rw [e]
         by_cases f:b0 % 16*4096+b1 % 64*64+b2 % 64≥2048/\(b0 % 16*4096+b1 % 64*64+b2 % 64<55296\/(57344<=b0 % 16*4096+b1 % 64*64+b2 % 64/\b0 % 16*4096+b1 % 64*64+b2 % 64<=1114111))
         · refine kL (b0 % 16*4096+b1 % 64*64+b2 % 64,3) _ (by unfold Lib.decodeN;rw [zZ0 c0,zZ0 (by omega),zZ1 (by omega),zZ1 f]) ?_
           rw [<-tY _ _ (by omega),decide_eq_true (show 2048<=_/\_ from f)]
           rfl
         · refine kL (65533,1) _ (by unfold Lib.decodeN;rw [zZ0 c0,zZ0 (by omega),zZ1 (by omega),zZ0 f]) ?_
           rw [<-kM,decide_eq_false (show ¬(2048<=_/\_) from f)]
           rfl
       · refine kL (65533,1) _ (by unfold Lib.decodeN;rw [zZ0 c0,zZ0 (by omega),zZ0 (by omega),zZ0 (by omega)]) ?_
         rw [<-kM]
         by_cases fW:n<3
         · rw [zZ1 fW]
         · rw [zZ0 fW,zZ0 (show ¬(3=1) by omega)]
           by_cases q1:b1 / 64=2
           · rw [decide_eq_true q1,decide_eq_false (show ¬b2 / 64=2 by omega)];simp
           · rw [decide_eq_false q1];rfl
     · by_cases c3:240<=b0/\b0<248
       · rw [zZ0 c0,zZ0 c1,zZ0 c2,zZ1 c3]
         simp only [zK8]
         by_cases m1:(1<n/\b1 / 64=2)/\(2<n/\b2 / 64=2)/\(3<n/\b3 / 64=2)
         · rw [zZ0 (show ¬n<4 by omega),zZ0 (show ¬(4=1) by omega),show decide (b1 / 64=2)=true by simp [m1.1.2],zZ0 (show ¬(4=2) by omega),show decide (b2 / 64=2)=true by simp [m1.2.1.2],zZ0 (show ¬(4=3) by omega),show decide (b3 / 64=2)=true by simp [m1.2.2.2]]
           have e:(((b0 - 240)*64+b1 - 128)*64+b2 - 128)*64+b3 - 128=b0 % 8*262144+b1 % 64*4096+b2 % 64*64+b3 % 64:=by omega
           rw [e]
           by_cases f:b0 % 8*262144+b1 % 64*4096+b2 % 64*64+b3 % 64≥65536/\(b0 % 8*262144+b1 % 64*4096+b2 % 64*64+b3 % 64<55296\/(57344<=b0 % 8*262144+b1 % 64*4096+b2 % 64*64+b3 % 64/\b0 % 8*262144+b1 % 64*4096+b2 % 64*64+b3 % 64<=1114111))
           · refine kL (b0 % 8*262144+b1 % 64*4096+b2 % 64*64+b3 % 64,4) _ (by unfold Lib.decodeN;rw [zZ0 c0,zZ0 (by omega),zZ0 (by omega),zZ1 (by omega),zZ1 f]) ?_
             rw [<-tY _ _ (by omega),decide_eq_true (show 65536<=_/\_ from f)]
             rfl
           · refine kL (65533,1) _ (by unfold Lib.decodeN;rw [zZ0 c0,zZ0 (by omega),zZ0 (by omega),zZ1 (by omega),zZ0 f]) ?_
             rw [<-kM,decide_eq_false (show ¬(65536<=_/\_) from f)]
             rfl
         · refine kL (65533,1) _ (by unfold Lib.decodeN;rw [zZ0 c0,zZ0 (by omega),zZ0 (by omega),zZ0 (by omega)]) ?_
           rw [<-kM]
           by_cases fW:n<4
           · rw [zZ1 fW]
           · rw [zZ0 fW,zZ0 (show ¬(4=1) by omega)]
             by_cases q1:b1 / 64=2
             · by_cases q2:b2 / 64=2
               · rw [decide_eq_true q1,decide_eq_true q2,decide_eq_false (show ¬b3 / 64=2 by omega)];simp
               · rw [decide_eq_true q1,decide_eq_false q2];simp
             · rw [decide_eq_false q1];rfl
       · refine kL (65533,1) _ (by unfold Lib.decodeN;rw [zZ0 c0,zZ0 (by omega),zZ0 (by omega),zZ0 (by omega)]) ?_
         rw [<-kM,zZ0 c0,zZ0 c1,zZ0 c2,zZ0 c3]
         rfl
end Go.Proofs.YtbnofojapimfcaaGreatDoor.Pl
namespace Go.Proofs.YtbnofojapimfcaaGreatDoor.Pl
def fB (s:ByteArray) (p:Nat):List UInt8:=s.data.toList.drop p
def kC (s:ByteArray) (p:Nat):Option (List Nat):=runes (fB s p)
theorem Cq (s:ByteArray) (p:Nat):(fB s p).length=s.size - p:=by
 simp [fB]
theorem GK (s:ByteArray) (p k:Nat):(fB s p).getD k 0=s.get! (p+k):=by
 unfold fB
 rw [zJ0,List.getElem?_drop]
 by_cases h:p+k<s.size
 · have h':p+k<s.data.toList.length:=by simpa using h
   rw [List.getElem?_eq_getElem h']
   simp [ByteArray.get!]
   rw [getElem!_pos s.data (p+k) (by simpa using h)]
 · have h':¬p+k<s.data.toList.length:=by simpa using h
   rw [zJ1 (by omega)]
   simp [ByteArray.get!]
   rw [getElem!_neg s.data (p+k) (by simpa using h)]
   rfl
theorem Fu (s:ByteArray) (p:Nat):bp (fB s p)=if Utf8.decode s p=(65533,1) then none else some (Utf8.decode s p):=by
 have e:Lib.decodeN (fB s p).length ((fB s p).getD 0 0).toNat ((fB s p).getD 1 0).toNat ((fB s p).getD 2 0).toNat ((fB s p).getD 3 0).toNat=Utf8.decode s p:=by
  rw [Lib.decode_at,Cq,GK,GK,GK,GK]
  rfl
 unfold bp
 rw [e]
theorem XH (l:List UInt8) (hl:l≠[]) (d:Nat×Nat) (h:bp l=some d):l=enc d.1++l.drop d.2/\d.2=(enc d.1).length/\good d.1:=by
 obtain ⟨c,w⟩:=d
 exact Cn l hl c w h
theorem GL (l:List UInt8) (hl:l≠[]) (d:Nat×Nat) (h:bp l=some d):0<d.2/\d.2<=l.length:=by
 obtain ⟨c,w⟩:=d
 exact Fq l hl c w h
theorem Sw (s:ByteArray) (p k:Nat):(fB s p).drop k=fB s (p+k):=by
 unfold fB
 rw [List.drop_drop]
theorem AX (s:ByteArray) (p:Nat) (h:p<s.size):fB s p≠[]:=by
 intro e
 have:=congrArg List.length e
 rw [Cq] at this
 simp at this
 omega
theorem Nn (s:ByteArray) (p:Nat) (h:p<s.size):
    kC s p=if Utf8.decode s p=(65533,1) then none else (kC s (p+(Utf8.decode s p).2)).map ((Utf8.decode s p).1::·):=by
 unfold kC
 rw [rM _ (AX s p h),Fu]
 split
 · rfl
 · simp only [zK8]
   rw [Sw]
theorem GM (s:ByteArray) (p:Nat) (h:¬p<s.size):kC s p=some []:=by
 unfold kC
 have:fB s p=[]:=zX1 (by rw [Cq];omega)
 rw [this,tX]
theorem XI (s:ByteArray):kC s 0=runes s.data.toList:=rfl
def right (s:ByteArray):Bool:=(runes s.data.toList).isSome
theorem XJ (s:ByteArray) (a b:Nat):(s.extract a b).data.toList=(s.data.toList.take b).drop a:=by
 rw [ByteArray.data_extract,Array.toList_extract,List.extract_eq_take_drop,List.take_drop]
 by_cases h:a<=b
 · rw [show a+(b - a)=b by omega]
 · have e1:(List.take (a+(b - a)) s.data.toList).drop a=[]:=by
    rw [List.drop_eq_nil_iff,List.length_take];omega
   have e2:(List.take b s.data.toList).drop a=[]:=by
    rw [List.drop_eq_nil_iff,List.length_take];omega
   rw [e1,e2]
theorem Sy (s:ByteArray) (p k:Nat):(s.extract p (p+k)).data.toList=(fB s p).take k:=by
 rw [XJ,fB,List.take_drop]
theorem Np (s:ByteArray) (p:Nat) (h:p<s.size) (hc:(Utf8.decode s p).1=65533):
    (Utf8.decode s p≠(65533,1))↔((s.extract p (p+3)).data.toList=[239,191,189]):=by
 rw [Sy]
 constructor
 · intro hne
   have e:=Fu s p
   rw [zZ0 hne] at e
   obtain ⟨e1,e2,e3⟩:=XH (fB s p) (AX s p h) _ e
   rw [hc] at e1
   rw [e1]
   rfl
 · intro hm e
   have hl:3<=(fB s p).length:=by
    have:=congrArg List.length hm
    rw [List.length_take] at this
    simp at this
    omega
   have g:∀k,k<3->(fB s p).getD k 0=[239,191,189].getD k 0:=by
    intro k hk
    rw [<-hm,zJ0,zJ0,List.getElem?_take,zZ1 hk]
   have g0:=g 0 (by omega)
   have g1:=g 1 (by omega)
   have g2:=g 2 (by omega)
   have d:=Lib.decode_at s p
   rw [GK] at g0 g1 g2
   rw [Cq] at hl
   simp only [zX3,List.getD_cons_zero,List.getD_cons_succ] at g0 g1 g2
   rw [g0,g1,g2,e] at d
   simp only [Lib.decodeN] at d
   rw [zZ0 (by decide),zZ0 (fun hh=>absurd hh.1 (by decide)),zZ1 (by refine ⟨by decide,⟨by omega,by decide⟩,by omega,by decide⟩),zZ1 (by decide)] at d
   simp at d
theorem Sz (s:ByteArray) (p:Nat) (h:s.size - p<3):¬((s.extract p (p+3)).data.toList=[239,191,189]):=by
 intro hm
 rw [Sy] at hm
 have:=congrArg List.length hm
 rw [List.length_take,Cq] at this
 simp at this
 omega
theorem SA (s:ByteArray) (p:Nat) (h:p<s.size) (hne:Utf8.decode s p≠(65533,1)):p+(Utf8.decode s p).2<=s.size:=by
 have e:=Fu s p
 rw [zZ0 hne] at e
 have:=GL (fB s p) (AX s p h) _ e
 rw [Cq] at this
 omega
end Go.Proofs.YtbnofojapimfcaaGreatDoor.Pl
