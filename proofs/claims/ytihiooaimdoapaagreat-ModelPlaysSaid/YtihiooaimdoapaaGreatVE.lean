/- Texts of one proof, put together: see each part. -/
import Derived.Test.YtihiooaimdoapaaGreatVD
set_option maxHeartbeats 2000000
noncomputable section
set_option linter.unusedVariables false
set_option linter.unusedSimpArgs false
namespace Go.jG
open Go.Bm
def cu (o:iw) (sl:List Int):Nat×List Int×List Int×Bool:=
 if o.1=0 then (0,sl,[o.2.1],false)
 else if o.1=1 then (0,sl.set o.2.1.toNat 0,[],false)
 else if o.1=2 then (0,if o.2.1.toNat<sl.length∧o.2.2.toNat<sl.length then sl.set o.2.1.toNat (sl.getD o.2.2.toNat 0) else sl,[],false)
 else if o.1=3 then (if o.2.1.toNat<sl.length∧sl.getD o.2.1.toNat 0=0 then o.2.2.toNat else 0,sl,[],false)
 else (0,sl,[],decide (o.1=4))
def ko (ops:List iw):Nat→Nat→List Int→List Int→Bool→Int→List Int×List Int×Bool×Int
 | 0,_,sl,sd,h,n=>(sl,sd,h,n)
 | f+1,cn,sl,sd,h,n=>if cn<ops.length then
   ko ops f (cn+1+(cu (ops.getD cn (0,0,0)) sl).1) (cu (ops.getD cn (0,0,0)) sl).2.1 (sd++(cu (ops.getD cn (0,0,0)) sl).2.2.1) (h || (cu (ops.getD cn (0,0,0)) sl).2.2.2) (n+1)
  else (sl,sd,h,n)
def fJ (ops:List iw) (sl:List Int):List Int×List Int×Bool×Int:=ko ops ops.length 0 sl [] false 0
def Bi (o:iw):Prop:=(0≤o.1∧o.1≤4)∧(0≤o.2.1∧o.2.1≤99)∧(0≤o.2.2∧o.2.2≤8)
def xL (l:List iw):Prop:=l.length≤8∧∀o∈l,Bi o
def m8 (l:List (List iw)):Prop:=l.length≤8∧∀x∈l,xL x
theorem tP {ops:List iw} {f a:Nat} (h:¬a<ops.length) (sl sd:List Int) (hd:Bool) (n:Int):ko ops f a sl sd hd n=(sl,sd,hd,n):=by
 cases f with
 | zero=>rfl
 | succ f=>unfold ko;rw [if_neg h]
theorem re {ops:List iw} {f a:Nat} (h:a<ops.length) (sl sd:List Int) (hd:Bool) (n:Int):ko ops (f+1) a sl sd hd n =
  ko ops f (a+1+(cu (ops.getD a (0,0,0)) sl).1) (cu (ops.getD a (0,0,0)) sl).2.1 (sd++(cu (ops.getD a (0,0,0)) sl).2.2.1) (hd || (cu (ops.getD a (0,0,0)) sl).2.2.2) (n+1):=by
 rw [ko,if_pos h]
theorem pB (o:iw) (sl:List Int):(cu o sl).2.1.length=sl.length:=by
 unfold cu
 repeat' split
 all_goals simp
theorem sK {o:iw} (h:Bi o) (sl:List Int):(cu o sl).1≤8:=by
 obtain ⟨_,_,h⟩:=h
 unfold cu
 repeat' split
 all_goals simp only
 all_goals omega
theorem ou (o:iw) (sl:List Int):(cu o sl).2.2.1.length≤1:=by
 unfold cu
 repeat' split
 all_goals simp
theorem x9 {ops:List iw}:∀(f a:Nat) (sl sd:List Int) (hd:Bool) (n:Int),(ko ops f a sl sd hd n).1.length=sl.length
 | 0,a,sl,sd,hd,n=>rfl
 | f+1,a,sl,sd,hd,n=>by
  unfold ko
  split
  ·rw [x9,pB]
  ·rfl
theorem DT (ops:List iw) (sl:List Int):(fJ ops sl).1.length=sl.length:=x9 _ _ _ _ _ _
theorem wh {ops:List iw}:∀(f a:Nat) (sl sd:List Int) (hd:Bool) (n:Int),(ko ops f a sl sd hd n).2.1.length≤sd.length+f
 | 0,a,sl,sd,hd,n=>Nat.le_refl _
 | f+1,a,sl,sd,hd,n=>by
  unfold ko
  split
  ·refine Nat.le_trans (wh _ _ _ _ _ _) ?_
   have:=ou (ops.getD a (0,0,0)) sl
   rw [zY];omega
  ·simp
theorem mQ (ops:List iw) (sl:List Int):(fJ ops sl).2.1.length≤ops.length:=by
 have:=wh (ops:=ops) ops.length 0 sl [] false 0
 simpa [fJ] using this
end Go.jG
namespace Go.Proofs.YtihiooaimdoapaaGreat
open Go.Bm Go.jG
theorem Kd (a0:List iw) (v0:((Bool×(Int×(Int×Unit)))×(((List Int)×((List Int)×Unit))×(Unit×(Unit×Unit))))) (v1) (hl:v0.2.1.1.length≤100) (o:iw) (ho:nth (0,(0,0)) a0 (nN v0.1.2.2.1)=o) (hA:Bi o) :
  loop (g.q9 a0 v0 v1) ((0,()),((),((),((),()))))=v1 ((decide (o.2.1.toNat<v0.2.1.1.length),()),((),((),((),())))):=by
 obtain ⟨_,hA,_⟩:=hA
 rw [xQ]
 unfold g.q9
 simp only [ho]
 have e:cat [] v0.2.1.1=v0.2.1.1:=rfl
 simp only [e]
 by_cases h:o.2.1.toNat<v0.2.1.1.length
 ·have hw:within o.2.1 0 ((v0.2.1.1.length:Int)-1)=true:=bG.2 (by omega)
  simp (disch:=omega) only [↓bY,↓bX,↓b6,↓b7,↓b9,↓b8,zE,aX,a6,aY,a_,ao,au,bD,a7,aO,a8,ba,bh,↓cJ,aH,aL,aZ,bM,bS,aS,a9,cz,bt,cK,cH,aU,aG,bB,zO,nth,List.getD_cons_zero,hw]
  simp (disch:=omega) only [↓bY,↓bX,↓b6,↓b7,↓b9,↓b8,zE,aX,a6,aY,a_,ao,au,bD,a7,aO,a8,ba,bh,↓cJ,aH,aL,aZ,bM,bS,aS,a9,cz,bt,cK,cH,aU,aG,bB,zO,nth,List.getD_cons_zero,hw,Int.toNat_zero]
  simp [h]
 ·have hw:within o.2.1 0 ((v0.2.1.1.length:Int)-1)=false:=kh.2 (by omega)
  simp (disch:=omega) only [↓bY,↓bX,↓b6,↓b7,↓b9,↓b8,zE,aX,a6,aY,a_,ao,au,bD,a7,aO,a8,ba,bh,↓cJ,aH,aL,aZ,bM,bS,aS,a9,cz,bt,cK,cH,aU,aG,bB,zO,nth,List.getD_cons_zero,hw]
  simp (disch:=omega) only [↓bY,↓bX,↓b6,↓b7,↓b9,↓b8,zE,aX,a6,aY,a_,ao,au,bD,a7,aO,a8,ba,bh,↓cJ,aH,aL,aZ,bM,bS,aS,a9,cz,bt,cK,cH,aU,aG,bB,zO,nth,List.getD_cons_zero,hw,Int.toNat_zero]
  simp [h,aC,cX]
theorem Ke (a0:List iw) (v0:((Bool×(Int×(Int×Unit)))×(((List Int)×((List Int)×Unit))×(Unit×(Unit×Unit))))) (v1) (hl:v0.2.1.1.length≤100) (o:iw) (ho:nth (0,(0,0)) a0 (nN v0.1.2.2.1)=o) (hA:Bi o) :
  loop (g.q_ a0 v0 v1) ((0,()),((),((),((),()))))=v1 ((decide (o.2.1.toNat<v0.2.1.1.length∧o.2.2.toNat<v0.2.1.1.length),()),((),((),((),())))):=by
 obtain ⟨_,hA,hB⟩:=hA
 rw [xQ]
 unfold g.q_
 simp only [ho]
 have e:cat [] v0.2.1.1=v0.2.1.1:=rfl
 simp only [e]
 have hlen:[o.2.1,o.2.2].length=2:=rfl
 by_cases h:o.2.1.toNat<v0.2.1.1.length
 ·have hw:within o.2.1 0 ((v0.2.1.1.length:Int)-1)=true:=bG.2 (by omega)
  by_cases h2:o.2.2.toNat<v0.2.1.1.length
  ·have hw2:within o.2.2 0 ((v0.2.1.1.length:Int)-1)=true:=bG.2 (by omega)
   simp (disch:=omega) only [↓bY,↓bX,↓b6,↓b7,↓b9,↓b8,zE,aX,a6,aY,a_,ao,au,bD,a7,aO,a8,ba,bh,↓cJ,aH,aL,aZ,bM,bS,aS,a9,cz,bt,cK,cH,aU,aG,bB,hlen,nth,List.getD_cons_zero,hw]
   simp (disch:=omega) only [↓bY,↓bX,↓b6,↓b7,↓b9,↓b8,zE,aX,a6,aY,a_,ao,au,bD,a7,aO,a8,ba,bh,↓cJ,aH,aL,aZ,bM,bS,aS,a9,cz,bt,cK,cH,aU,aG,bB,hlen,nth,List.getD_cons_zero,hw,Int.toNat_zero]
   simp (disch:=omega) only [↓bY,↓bX,↓b6,↓b7,↓b9,↓b8,zE,aX,a6,aY,a_,ao,au,bD,a7,aO,a8,ba,bh,↓cJ,aH,aL,aZ,bM,bS,aS,a9,cz,bt,cK,cH,aU,aG,bB,hlen,nth,List.getD_cons_zero,hw,Int.toNat_zero,Int.zero_add,Int.toNat_one,List.getD_cons_succ,hw2]
   simp [h,h2]
  ·have hw2:within o.2.2 0 ((v0.2.1.1.length:Int)-1)=false:=kh.2 (by omega)
   simp (disch:=omega) only [↓bY,↓bX,↓b6,↓b7,↓b9,↓b8,zE,aX,a6,aY,a_,ao,au,bD,a7,aO,a8,ba,bh,↓cJ,aH,aL,aZ,bM,bS,aS,a9,cz,bt,cK,cH,aU,aG,bB,hlen,nth,List.getD_cons_zero,hw]
   simp (disch:=omega) only [↓bY,↓bX,↓b6,↓b7,↓b9,↓b8,zE,aX,a6,aY,a_,ao,au,bD,a7,aO,a8,ba,bh,↓cJ,aH,aL,aZ,bM,bS,aS,a9,cz,bt,cK,cH,aU,aG,bB,hlen,nth,List.getD_cons_zero,hw,Int.toNat_zero]
   simp (disch:=omega) only [↓bY,↓bX,↓b6,↓b7,↓b9,↓b8,zE,aX,a6,aY,a_,ao,au,bD,a7,aO,a8,ba,bh,↓cJ,aH,aL,aZ,bM,bS,aS,a9,cz,bt,cK,cH,aU,aG,bB,hlen,nth,List.getD_cons_zero,hw,Int.toNat_zero,Int.zero_add,Int.toNat_one,List.getD_cons_succ,hw2]
   simp [h,h2,aC,cX]
 ·have hw:within o.2.1 0 ((v0.2.1.1.length:Int)-1)=false:=kh.2 (by omega)
  simp (disch:=omega) only [↓bY,↓bX,↓b6,↓b7,↓b9,↓b8,zE,aX,a6,aY,a_,ao,au,bD,a7,aO,a8,ba,bh,↓cJ,aH,aL,aZ,bM,bS,aS,a9,cz,bt,cK,cH,aU,aG,bB,hlen,nth,List.getD_cons_zero,hw]
  simp (disch:=omega) only [↓bY,↓bX,↓b6,↓b7,↓b9,↓b8,zE,aX,a6,aY,a_,ao,au,bD,a7,aO,a8,ba,bh,↓cJ,aH,aL,aZ,bM,bS,aS,a9,cz,bt,cK,cH,aU,aG,bB,hlen,nth,List.getD_cons_zero,hw,Int.toNat_zero]
  simp [h,aC,cX]
theorem Kg (a0:List iw) (v0:((Bool×(Int×(Int×Unit)))×(((List Int)×((List Int)×Unit))×(Unit×(Unit×Unit))))) (v1) (hl:v0.2.1.1.length≤100) (o:iw) (ho:nth (0,(0,0)) a0 (nN v0.1.2.2.1)=o) (hA:Bi o) :
  loop (g.ra a0 v0 v1) ((0,()),((),((),((),()))))=v1 ((decide (o.2.1.toNat<v0.2.1.1.length∧v0.2.1.1.getD o.2.1.toNat 0=0),()),((),((),((),())))):=by
 obtain ⟨_,hA,_⟩:=hA
 rw [xQ]
 unfold g.ra
 simp only [ho]
 have e:cat [] v0.2.1.1=v0.2.1.1:=rfl
 simp only [e]
 by_cases h:o.2.1.toNat<v0.2.1.1.length
 ·have hw:within o.2.1 0 ((v0.2.1.1.length:Int)-1)=true:=bG.2 (by omega)
  simp (disch:=omega) only [↓bY,↓bX,↓b6,↓b7,↓b9,↓b8,zE,aX,a6,aY,a_,ao,au,bD,a7,aO,a8,ba,bh,↓cJ,aH,aL,aZ,bM,bS,aS,a9,cz,bt,cK,cH,aU,aG,bB,zO,nth,List.getD_cons_zero,hw]
  simp (disch:=omega) only [↓bY,↓bX,↓b6,↓b7,↓b9,↓b8,zE,aX,a6,aY,a_,ao,au,bD,a7,aO,a8,ba,bh,↓cJ,aH,aL,aZ,bM,bS,aS,a9,cz,bt,cK,cH,aU,aG,bB,zO,nth,List.getD_cons_zero,hw,Int.toNat_zero]
  simp [h,aj]
 ·have hw:within o.2.1 0 ((v0.2.1.1.length:Int)-1)=false:=kh.2 (by omega)
  simp (disch:=omega) only [↓bY,↓bX,↓b6,↓b7,↓b9,↓b8,zE,aX,a6,aY,a_,ao,au,bD,a7,aO,a8,ba,bh,↓cJ,aH,aL,aZ,bM,bS,aS,a9,cz,bt,cK,cH,aU,aG,bB,zO,nth,List.getD_cons_zero,hw]
  simp (disch:=omega) only [↓bY,↓bX,↓b6,↓b7,↓b9,↓b8,zE,aX,a6,aY,a_,ao,au,bD,a7,aO,a8,ba,bh,↓cJ,aH,aL,aZ,bM,bS,aS,a9,cz,bt,cK,cH,aU,aG,bB,zO,nth,List.getD_cons_zero,hw,Int.toNat_zero,aC,cX,decide_true,Bool.not_true,aO]
  simp [h]
theorem DR {ops:List iw} (kR:xL ops) (d0:dQ):∀(m a:Nat) (sl sd:List Int) (hd:Bool) (n:Int),ops.length≤a+m→sl.length≤100→sd.length+m≤100→(0≤n∧n+m≤1000)→(a≤100) →
  yk (g.lh ops d0) ((hd,(n,((a:Int),()))),((sl,(sd,())),((),((),()))))
   (some (((some (len d0)),((ko ops m a sl sd hd n).2.1,((ko ops m a sl sd hd n).2.2.1,((ko ops m a sl sd hd n).2.2.2,())))),((cat d0 [(some (ko ops m a sl sd hd n).1)]),()))) m:=by
 obtain ⟨hlen,sX⟩:=kR
 intro m
 induction m with
 | zero=>
  intro a sl sd hd n h1 h2 h3 h4 h5
  refine .stop 0 (fun K=>?_)
  unfold g.lh
  simp (disch:=omega) only [↓bY,↓bX,↓b6,↓b7,↓b9,↓b8,zE,aX,a6,aY,a_,ao,au,bD,a7,aO,a8,ba,bh,↓cJ,aH,aL,aZ,bM,bS,aS,a9,cz,bt,cK,cH,aU,aG]
  rfl
 | succ m ih=>
  intro a sl sd hd n h1 h2 h3 h4 h5
  by_cases ha:a<ops.length
  ·have ho:Bi (ops.getD a (0,0,0)):=by
    rw [zA,zD ha]
    exact sX _ (List.getElem_mem ha)
   rw [re ha]
   generalize hoo:ops.getD a (0,0,0)=o at ho
   have hn:nth (0,(0,0)) ops a=o:=by rw [←hoo];rfl
   have MU:=pB o sl
   have hs2:=ou o sl
   refine .step (s':=((hd || (cu o sl).2.2.2,(n+1,(((a+1+(cu o sl).1:Nat):Int),()))),(((cu o sl).2.1,((sd++(cu o sl).2.2.1),())),((),((),()))))) ?_ (fun K=>?_)
   ·have hs3:=sK ho sl
    exact ih _ _ _ _ _ (by omega) (by omega) (by rw [zY];omega) (by omega) (by omega)
   ·have JM:=ho
    obtain ⟨k1,k2,k3⟩:=ho
    unfold g.lh
    have hw:within (a:Int) 0 ((ops.length:Int)-1)=true:=bG.2 (by omega)
    have e:cat [] sl=sl:=rfl
    simp (disch:=omega) only [↓bY,↓bX,↓b6,↓b7,↓b9,↓b8,zE,aX,a6,aY,a_,ao,au,bD,a7,aO,a8,ba,bh,↓cJ,aH,aL,aZ,bM,bS,aS,a9,cz,bt,cK,cH,aU,aG,bB,hw,e,hn]
    have xX:nth (0,(0,0)) ops (nN (a:Int))=o:=hn
    have z0:((sd.length+([]:List Int).length:Nat):Int)≤((16777216:Nat):Int):=by simp;omega
    have TM:o.1=0∨o.1=1∨o.1=2∨o.1=3∨o.1=4:=by omega
    have c0:cat sd []=sd:=List.append_nil _
    have q0:(a:Int)+1+0=((a+1+0:Nat):Int):=by omega
    rcases TM with h | h | h | h | h
    ·have z1:(([o.2.1].length:Nat):Int)≤((16777216:Nat):Int):=by simp
     have z2:((sd.length+[o.2.1].length:Nat):Int)≤((16777216:Nat):Int):=by simp;omega
     rw [ao h,aY z1,aY z2]
     unfold cu
     cases hd<;>simp only [h,if_true,a7,aO,q0,Bool.true_or,Bool.false_or]<;>rfl
    ·rw [au (by omega),ao h,Kd ops _ _ (by simp only;omega) o xX JM]
     simp only
     unfold cu
     rw [if_neg (by omega),if_pos h]
     by_cases hx:o.2.1.toNat<sl.length
     ·simp (disch:=omega) only [↓bY,↓bX,↓b6,↓b7,↓b9,↓b8,zE,aX,a6,aY,a_,ao,au,bD,a7,aO,a8,ba,bh,↓cJ,aH,aL,aZ,bM,bS,aS,a9,cz,bt,cK,cH,aU,aG,hx,decide_true,c0,q0]
      cases hd<;>simp only [a7,aO,List.append_nil]<;>rfl
     ·have hs:sl.set o.2.1.toNat 0=sl:=List.set_eq_of_length_le (by omega)
      simp (disch:=omega) only [↓bY,↓bX,↓b6,↓b7,↓b9,↓b8,zE,aX,a6,aY,a_,ao,au,bD,a7,aO,a8,ba,bh,↓cJ,aH,aL,aZ,bM,bS,aS,a9,cz,bt,cK,cH,aU,aG,hx,decide_false,c0,q0,hs]
      cases hd<;>simp only [a7,aO,List.append_nil]<;>rfl
    ·rw [au (by omega),au (by omega),ao h,Ke ops _ _ (by simp only;omega) o xX JM]
     simp only
     unfold cu
     rw [if_neg (by omega),if_neg (by omega),if_pos h]
     by_cases hx:o.2.1.toNat<sl.length∧o.2.2.toNat<sl.length
     ·have YM:=hx.1
      have Rz:=hx.2
      simp (disch:=omega) only [↓bY,↓bX,↓b6,↓b7,↓b9,↓b8,zE,aX,a6,aY,a_,ao,au,bD,a7,aO,a8,ba,bh,↓cJ,aH,aL,aZ,bM,bS,aS,a9,cz,bt,cK,cH,aU,aG,hx,YM,Rz,and_self,decide_true,c0,q0,if_true]
      cases hd<;>simp only [a7,aO,List.append_nil]<;>rfl
     ·simp (disch:=omega) only [↓bY,↓bX,↓b6,↓b7,↓b9,↓b8,zE,aX,a6,aY,a_,ao,au,bD,a7,aO,a8,ba,bh,↓cJ,aH,aL,aZ,bM,bS,aS,a9,cz,bt,cK,cH,aU,aG,hx,decide_false,c0,q0,if_false]
      cases hd<;>simp only [a7,aO,List.append_nil]<;>rfl
    ·rw [au (by omega),au (by omega),au (by omega),ao h,Kg ops _ _ (by simp only;omega) o xX JM]
     simp only
     unfold cu
     rw [if_neg (by omega),if_neg (by omega),if_neg (by omega),if_pos h]
     have q1:(a:Int)+1+o.2.2=((a+1+o.2.2.toNat:Nat):Int):=by omega
     by_cases hx:o.2.1.toNat<sl.length∧sl.getD o.2.1.toNat 0=0
     ·simp (disch:=omega) only [↓bY,↓bX,↓b6,↓b7,↓b9,↓b8,zE,aX,a6,aY,a_,ao,au,bD,a7,aO,a8,ba,bh,↓cJ,aH,aL,aZ,bM,bS,aS,a9,cz,bt,cK,cH,aU,aG,hx,and_self,decide_true,c0,q1,if_true]
      cases hd<;>simp only [a7,aO,List.append_nil]<;>rfl
     ·simp (disch:=omega) only [↓bY,↓bX,↓b6,↓b7,↓b9,↓b8,zE,aX,a6,aY,a_,ao,au,bD,a7,aO,a8,ba,bh,↓cJ,aH,aL,aZ,bM,bS,aS,a9,cz,bt,cK,cH,aU,aG,hx,decide_false,c0,q0,if_false]
      cases hd<;>simp only [a7,aO,List.append_nil]<;>rfl
    ·rw [au (by omega),au (by omega),au (by omega),au (by omega),ao h]
     unfold cu
     rw [if_neg (by omega),if_neg (by omega),if_neg (by omega),if_neg (by omega)]
     simp (disch:=omega) only [↓bY,↓bX,↓b6,↓b7,↓b9,↓b8,zE,aX,a6,aY,a_,ao,au,bD,a7,aO,a8,ba,bh,↓cJ,aH,aL,aZ,bM,bS,aS,a9,cz,bt,cK,cH,aU,aG,h,decide_true,c0,q0]
     cases hd<;>simp only [a7,aO,List.append_nil]<;>rfl
  ·rw [tP ha]
   refine .stop _ (fun K=>?_)
   unfold g.lh
   simp (disch:=omega) only [↓bY,↓bX,↓b6,↓b7,↓b9,↓b8,zE,aX,a6,aY,a_,ao,au,bD,a7,aO,a8,ba,bh,↓cJ,aH,aL,aZ,bM,bS,aS,a9,cz,bt,cK,cH,aU,aG]
theorem G3 {ops:List iw} (kR:xL ops) {d0:dQ} {j:Nat} {sl:List Int} (hj:aE d0 j=some sl) (hl:sl.length≤100) :
  g.sJ ops (some j) d0=some (((some d0.length),((fJ ops sl).2.1,((fJ ops sl).2.2.1,((fJ ops sl).2.2.2,())))),((d0++[some (fJ ops sl).1]),())):=by
 have h8:=kR.1
 unfold g.sJ
 have e:cat [] sl=sl:=rfl
 have z:((0+sl.length:Nat):Int)≤((16777216:Nat):Int):=by omega
 simp (disch:=omega) only [↓bY,↓bX,↓b6,↓b7,↓b9,↓b8,zE,aX,a6,aY,a_,ao,au,bD,a7,aO,a8,ba,bh,↓cJ,aH,aL,aZ,bM,bS,aS,a9,cz,bt,cK,cH,aU,aG,hj,e]
 exact (DR kR d0 ops.length 0 sl [] false 0 (by omega) hl (by simp;omega) (by omega) (by omega)).loop (by unfold lD;omega)
end Go.Proofs.YtihiooaimdoapaaGreat
namespace Go.jG
open Go.Bm
def lx (x:Xt):Prop:=0≤x.1∧0≤x.2∧x.1+x.2≤131072
def jh:List Xt→Int→Option Nat
 | [],_=>none
 | x::l,n=>if n≤x.2 then some 0 else (jh l n).map (· + 1)
def jF (l:List Xt) (n:Int):Option (Int×List Xt):=match jh l n with
 | none=>none
 | some i=>some ((l.getD i (0,0)).1,if (l.getD i (0,0)).2=n then l.eraseIdx i else l.set i ((l.getD i (0,0)).1+n,(l.getD i (0,0)).2-n))
def behind:List Xt→Int→Nat
 | [],_=>0
 | x::l,a=>if a<x.1+x.2 then 0 else behind l a+1
def jB (acc:List Xt) (x:Xt):List Xt:=match acc.getLast? with
 | some y=>if y.1+y.2=x.1 then acc.dropLast++[(y.1,y.2+x.2)] else acc++[x]
 | none=>[x]
def gB (acc l:List Xt):List Xt:=l.foldl jB acc
def tK (fr en:Int) (l:List Xt) (a n:Int):Option (List Xt):=
 if n<1∨n%8≠0∨a%8≠0∨¬(fr≤a∧a≤en-1)∨en-a<n then none
 else if behind l a<l.length∧(l.getD (behind l a) (0,0)).1<a+n then none
 else some (gB [] (l.take (behind l a)++[(a,n)]++l.drop (behind l a)))
theorem mr:∀{l:List Xt} {n:Int} {i:Nat},jh l n=some i→i<l.length∧n≤(l.getD i (0,0)).2
 | [],_,_,h=>by cases h
 | x::l,n,i,h=>by
  unfold jh at h
  split at h
  ·cases h;exact ⟨by simp,by simpa⟩
  ·cases hh:jh l n with
   | none=>rw [hh] at h;cases h
   | some j=>
    rw [hh] at h
    have h:j+1=i:=by simpa using h
    have:=mr hh
    subst h
    exact ⟨by simp;omega,by simpa using this.2⟩
theorem D3 (l:List Xt) (n:Int) (k:Nat) (h:k<l.length):jh (l.drop k) n=if n≤l[k].2 then some 0 else (jh (l.drop (k+1)) n).map (· + 1):=by
 rw [List.drop_eq_getElem_cons h];rfl
theorem Cf (l:List Xt) (a:Int) (k:Nat) (h:k<l.length):behind (l.drop k) a=if a<l[k].1+l[k].2 then 0 else behind (l.drop (k+1)) a+1:=by
 rw [List.drop_eq_getElem_cons h];rfl
theorem qk:∀(l:List Xt) (a:Int),behind l a≤l.length
 | [],_=>Nat.le_refl _
 | x::l,a=>by
  unfold behind
  split
  ·omega
  ·have:=qk l a;simp;omega
theorem Ju {acc:List Xt} {x:Xt} (h:∀y∈acc,lx y) (hx:lx x):∀y∈jB acc x,lx y:=by
 intro y hy
 unfold jB at hy
 split at hy
 ·rename_i z hz
  have hz':=h z (List.mem_of_getLast? hz)
  split at hy
  ·rcases zX.1 hy with hy | hy
   ·exact h y (List.dropLast_subset _ hy)
   ·rcases zF.1 hy with rfl
    unfold lx at *
    simp only
    omega
  ·rcases zX.1 hy with hy | hy
   ·exact h y hy
   ·rcases zF.1 hy with rfl;exact hx
 ·rcases zF.1 hy with rfl;exact hx
theorem GH (acc:List Xt) (x:Xt):(jB acc x).length≤acc.length+1:=by
 unfold jB
 split
 ·split
  ·simp
  ·simp
 ·simp
theorem Bu (l:List Xt) (k:Nat) (h:k<l.length):gB [] (l.take (k+1))=jB (gB [] (l.take k)) l[k]:=by
 unfold gB
 rw [List.take_add_one,zD h,List.foldl_append]
 rfl
theorem xP:∀(l acc:List Xt),(∀y∈acc,lx y)→(∀y∈l,lx y)→∀y∈gB acc l,lx y
 | [],acc,h,_=>h
 | x::l,acc,h,hl=>xP l _ (Ju h (hl x (zV ..))) (fun y hy=>hl y (zT _ hy))
theorem qT:∀(l acc:List Xt),(gB acc l).length≤acc.length+l.length
 | [],acc=>Nat.le_refl _
 | x::l,acc=>by
  have:=qT l (jB acc x)
  have:=GH acc x
  show (gB (jB acc x) l).length≤_
  simp;omega
end Go.jG
namespace Go.Proofs.YtihiooaimdoapaaGreat
open Go.Bm Go.jG
theorem HS {α:Type} {x y r:Option α} (k:y=r) (h:x=y:=by (first | with_reducible exact (cJ _ _) | with_reducible exact a8 | with_reducible exact ba | with_reducible exact bh | with_reducible exact (rV (by assumption)) | with_reducible exact (tZ (by assumption)) | with_reducible exact (oA (by assumption)) | with_reducible exact (uH (by assumption)) | with_reducible exact a7 | with_reducible exact aO | with_reducible exact bY | with_reducible exact bX | with_reducible exact b6 | with_reducible exact b7 | with_reducible exact b9 | with_reducible exact b8 | with_reducible exact bD | with_reducible exact z8 | (with_reducible apply Cg;with_reducible (first | exact bB _ _ _ | assumption | exact aB (by assumption) | exact aB (aB (by assumption)) | exact aB (aB (aB (by assumption))) | exact aB (aB (aB (aB (by assumption)))) | exact aB (aB (aB (aB (aB (by assumption))))))) | (with_reducible refine aX ?qh;case qh=>first | omega | (simp (disch:=omega) only [aH,aL,aZ,bM,bS,aS,a9,cz,bt,cK,cH,aU,aG,zE,List.length_nil,zO,zR,zH,fF,fK,dL,lA,db,zM]<;>omega)) | (with_reducible refine a6 ?qh;case qh=>first | omega | (simp (disch:=omega) only [aH,aL,aZ,bM,bS,aS,a9,cz,bt,cK,cH,aU,aG,zE,List.length_nil,zO,zR,zH,fF,fK,dL,lA,db,zM]<;>omega)) | (with_reducible refine aY ?qh;case qh=>first | omega | (simp (disch:=omega) only [aH,aL,aZ,bM,bS,aS,a9,cz,bt,cK,cH,aU,aG,zE,List.length_nil,zO,zR,zH,fF,fK,dL,lA,db,zM]<;>omega)) | (with_reducible refine a_ ?qh;case qh=>first | omega | (simp (disch:=omega) only [aH,aL,aZ,bM,bS,aS,a9,cz,bt,cK,cH,aU,aG,zE,List.length_nil,zO,zR,zH,fF,fK,dL,lA,db,zM]<;>omega)) | (with_reducible refine ao ?qh;case qh=>first | omega | (simp (disch:=omega) only [aH,aL,aZ,bM,bS,aS,a9,cz,bt,cK,cH,aU,aG,zE,List.length_nil,zO,zR,zH,fF,fK,dL,lA,db,zM]<;>omega)) | (with_reducible refine au ?qh;case qh=>first | omega | (simp (disch:=omega) only [aH,aL,aZ,bM,bS,aS,a9,cz,bt,cK,cH,aU,aG,zE,List.length_nil,zO,zR,zH,fF,fK,dL,lA,db,zM]<;>omega)))):x=r:=h.trans k
def oC (r2:T2) (r4:T4) (gr:Nat) (fr en:Int) (l:List Xt):Prop:=∃fo:Option Nat,r2[gr]?=some (fr,(en,fo))∧((fo=none∧l=[])∨∃j,fo=some j∧aE r4 j=some l)
theorem jX {α:Type} {l:List α} {i:Nat} {y x:α} (h:l[i]?=some y):(aT l i x)[i]?=some x:=by
 unfold aT
 rw [List.getElem?_set,if_pos rfl,if_pos (zB.1 h).1]
theorem rn (d1:T4) (n:Int) (l:List Xt) (j:Nat) (v2) (hj:aE d1 j=some l) (hl:l.length≤10000) :
  loop (g.eG n d1 l j v2) ((0,()),((),((),((),()))))=v2 (((match jh l n with | some i=>(i:Int) | none=>-1),()),((),((),((),())))):=by
 refine (dN (fun k=>((((k:Nat):Int),()),((),((),((),()))))) (fun k=>v2 (((match jh (l.drop k) n with | some i=>((k+i:Nat):Int) | none=>-1),()),((),((),((),()))))) l.length (by unfold lD;omega) (fun K=>?_) (fun k hk=>?_)).trans ?_
 ·simp (disch:=omega) only [g.eG,↓bY,↓bX,↓b6,↓b7,↓b9,↓b8,zE,aX,a6,aY,a_,ao,au,bD,a7,aO,a8,ba,bh,↓cJ,aH,aL,aZ,bM,bS,aS,a9,cz,bt,cK,cH,aU,aG]
  rw [List.drop_of_length_le (by omega)]
  rfl
 ·rw [D3 l n k hk]
  have e:nth (0,0) l k=l[k]:=gA hk
  by_cases he:n≤l[k].2
  ·refine .inl (fun K=>?_)
   simp (disch:=omega) only [g.eG,↓bY,↓bX,↓b6,↓b7,↓b9,↓b8,zE,aX,a6,aY,a_,ao,au,bD,a7,aO,a8,ba,bh,↓cJ,aH,aL,aZ,bM,bS,aS,a9,cz,bt,cK,cH,aU,aG,hj,e]
   rw [if_pos he];rfl
  ·refine .inr ⟨?_,fun K=>?_⟩
   ·rw [if_neg he]
    cases jh (l.drop (k+1)) n with
    | none=>rfl
    | some i=>simp only [Option.map_some];congr 3;omega
   ·simp (disch:=omega) only [g.eG,↓bY,↓bX,↓b6,↓b7,↓b9,↓b8,zE,aX,a6,aY,a_,ao,au,bD,a7,aO,a8,ba,bh,↓cJ,aH,aL,aZ,bM,bS,aS,a9,cz,bt,cK,cH,aU,aG,hj,e]
    rfl
 ·simp
theorem Ec {r2:T2} {r4:T4} {gr:Nat} {fr en:Int} {l:List Xt} (h:oC r2 r4 gr fr en l) {n:Int} (hn:1≤n∧n≤65536∧n%8=0) (hl:l.length≤10000) (hb:jh l n=none) :
  g.dh gr n r2 r4=some ((0,(false,())),(r2,(r4,()))):=by
 obtain ⟨fo,h2,h4⟩:=h
 have e2:∀d,nth d r2 gr=(fr,(en,fo)):=fun d=>bj h2
 have hr:eg n 8=0:=by rw [aS (by omega)];exact hn.2.2
 unfold g.dh
 rcases h4 with ⟨rfl,rfl⟩ | ⟨j,rfl,hj⟩
 ·rw [e2,hr]
  repeat refine HS ?_
  rw [xQ]
  unfold g.kJ
  repeat refine HS ?_
  rfl
 ·rw [e2,hr]
  repeat refine HS ?_
  refine Eq.trans (rn r4 n l j _ hj hl) ?_
  rw [hb]
  repeat refine HS ?_
  rfl
theorem Eb {r2:T2} {r4:T4} {gr:Nat} {fr en:Int} {l:List Xt} (h:oC r2 r4 gr fr en l) {n:Int} (hn:1≤n∧n≤65536∧n%8=0) (hx:∀x∈l,lx x) (hl:l.length≤10000) {i:Nat} (hb:jh l n=some i) :
  ∃mD mC,g.dh gr n r2 r4=some (((l.getD i (0,0)).1,(true,())),(mD,(mC,())))∧oC mD mC gr fr en (if (l.getD i (0,0)).2=n then l.eraseIdx i else l.set i ((l.getD i (0,0)).1+n,(l.getD i (0,0)).2-n)):=by
 obtain ⟨fo,h2,h4⟩:=h
 have e2:∀d,nth d r2 gr=(fr,(en,fo)):=fun d=>bj h2
 have hr:eg n 8=0:=by rw [aS (by omega)];exact hn.2.2
 obtain ⟨hi,GQ⟩:=mr hb
 have YL:lx (l.getD i (0,0)):=by rw [zA,zD hi];exact hx _ (List.getElem_mem hi)
 generalize hg:l.getD i (0,0)=x at *
 have e0:nth (0,0) l i=x:=hg
 obtain ⟨k1,k2,k3⟩:=YL
 rcases h4 with ⟨rfl,rfl⟩ | ⟨j,rfl,hj⟩
 ·cases hi
 ·unfold g.dh
  rw [e2,hr]
  have nni:nN (i:Int)=i:=rfl
  have eU:aw (0,0) (aw (0,0) l i fun km=>(ae IntKind.i64 (nth (0,0) l i).1 n,km.2)) i (fun l5=>(l5.1,aK IntKind.i64 (nth (0,0) l i).2 n))=l.set i (x.1+n,x.2-n):=by
   unfold aw
   rw [rY hi,e0,aH (by omega),aL (by omega)]
   simp only [aT,List.set_set]
  have e1:nth (0,0) (l.set i (x.1+n,x.2-n)) i=(x.1+n,x.2-n):=rY hi
  have sl:(l.set i (x.1+n,x.2-n)).length=l.length:=zM
  by_cases hz:x.2=n
  ·refine ⟨?r2,?r4,?eq,?rel⟩
   case eq=>
    repeat refine HS ?_
    refine Eq.trans (rn r4 n l j _ hj hl) ?_
    rw [hb]
    simp only [nni,e0]
    repeat refine HS ?_
    rw [eU]
    rw [e1,ao (show (x.1+n,x.2-n).2=0 by simp only;omega)]
    repeat refine HS ?_
    rw [e0]
   case rel=>
    refine ⟨some _,(jX h2).trans (by rw [e2]),.inr ⟨_,rfl,?_⟩⟩
    have ti:((i:Int)+1).toNat=i+1:=by omega
    simp (disch:=omega) only [aH,aL,aZ,bM,bS,aS,a9,cz,bt,cK,cH,aU,aG,zE,List.length_nil,zO,zR,zH,fF,fK,dL,lA,db,zM,sl,ti,Nat.sub_zero,Nat.min_self,Nat.zero_add]
    rw [mJ,if_pos (by simp [aT]),if_pos hz]
    rw [Kw (by rw [sl];exact hi) (by rw [sl]) rfl rfl,List.eraseIdx_set_eq]
  ·refine ⟨?s2,?s4,?eq2,?rel2⟩
   case eq2=>
    repeat refine HS ?_
    refine Eq.trans (rn r4 n l j _ hj hl) ?_
    rw [hb]
    simp only [nni,e0]
    repeat refine HS ?_
    rw [eU]
    rw [e1,au (show ¬(x.1+n,x.2-n).2=0 by simp only;omega)]
    repeat refine HS ?_
    rw [e0]
   case rel2=>
    refine ⟨some j,h2,.inr ⟨j,rfl,?_⟩⟩
    rw [if_neg hz]
    exact aB (aB hj)
open Go.Bm Go.jG
def gm (a0:Nat) (all:List Xt) (k:(((Int×Unit)×(Unit×(Unit×(Unit×(T2×(T4×Unit))))))→(Option ((Int×Unit)×(T2×(T4×Unit)))))) (s:((Int×Unit)×(Unit×(Unit×(Unit×(T2×(T4×Unit))))))):(Option ((Int×Unit)×(T2×(T4×Unit)))):=(br (bw s.1.1 (zN (len all))) (gd (bf s.1.1) (gd (bl (nN s.1.1) (len all)) (opt (nth (0,(0,none)) s.2.2.2.2.1 a0).2.2 (jn (fun (k0:((Bool×Unit)×(Unit×(Unit×(Unit×Unit))))→_)=>(k0 ((false,()),((),((),((),())))))) (fun (s1:((Bool×Unit)×(Unit×(Unit×(Unit×Unit)))))=>(br s1.1.1 (opt (nth (0,(0,none)) s.2.2.2.2.1 a0).2.2 none (fun p2=>(bd (aE s.2.2.2.2.2.1 p2) (fun p3=>(gd (bf (-1)) (gd (bl 0 (len p3)) (bd (aE s.2.2.2.2.2.1 p2) (fun p4=>(bd (aE s.2.2.2.2.2.1 p2) (fun p5=>(gd (bf (-1)) (gd (bl 0 (len p5)) (bd (aE s.2.2.2.2.2.1 p2) (fun p6=>(k (((ae IntKind.i64 s.1.1 1),()),((),((),((),(s.2.2.2.2.1,((aT s.2.2.2.2.2.1 p2 (some (aw (0,0) p6 0 (fun r7=>(r7.1,(ae IntKind.i64 (nth (0,0) p4 0).2 (nth (0,0) all (nN s.1.1)).2)))))),()))))))))))))))))))))) (opt (nth (0,(0,none)) s.2.2.2.2.1 a0).2.2 (gd (dv (len [((nth (0,0) all (nN s.1.1)).1,(nth (0,0) all (nN s.1.1)).2)]) 16777216) (k (((ae IntKind.i64 s.1.1 1),()),((),((),((),((aw (0,(0,none)) s.2.2.2.2.1 a0 (fun r8=>(r8.1,(r8.2.1,(some (len s.2.2.2.2.2.1)))))),((cat s.2.2.2.2.2.1 [(some [((nth (0,0) all (nN s.1.1)).1,(nth (0,0) all (nN s.1.1)).2)])]),())))))))) (fun p9=>(bd (aE s.2.2.2.2.2.1 p9) (fun gx=>(gd (dv (aU (len gx) (len [((nth (0,0) all (nN s.1.1)).1,(nth (0,0) all (nN s.1.1)).2)])) 16777216) (gd (bl p9 (len s.2.2.2.2.2.1)) (k (((ae IntKind.i64 s.1.1 1),()),((),((),((),((aw (0,(0,none)) s.2.2.2.2.1 a0 (fun jm=>(jm.1,(jm.2.1,(some (len (aT s.2.2.2.2.2.1 p9 none))))))),((cat (aT s.2.2.2.2.2.1 p9 none) [(some (cat gx [((nth (0,0) all (nN s.1.1)).1,(nth (0,0) all (nN s.1.1)).2)]))]),())))))))))))))))) (fun dq=>(bd (aE s.2.2.2.2.2.1 dq) (fun cY=>(jn (fun (ES:((Bool×Unit)×(Unit×(Unit×(Unit×Unit))))→_)=>(br (cX 0 (aK IntKind.i64 (zN (len cY)) 1)) (opt (nth (0,(0,none)) s.2.2.2.2.1 a0).2.2 none (fun fM=>(bd (aE s.2.2.2.2.2.1 fM) (fun gY=>(gd (bf (aK IntKind.i64 (zN (len cY)) 1)) (gd (bl (nN (aK IntKind.i64 (zN (len cY)) 1)) (len gY)) (bd (aE s.2.2.2.2.2.1 fM) (fun eM=>(opt (nth (0,(0,none)) s.2.2.2.2.1 a0).2.2 none (fun dM=>(bd (aE s.2.2.2.2.2.1 dM) (fun jH=>(gd (bf (aK IntKind.i64 (zN (len cY)) 1)) (gd (bl (nN (aK IntKind.i64 (zN (len cY)) 1)) (len jH)) (bd (aE s.2.2.2.2.2.1 dM) (fun gQ=>(ES (((aj (ae IntKind.i64 (nth (0,0) eM (nN (aK IntKind.i64 (zN (len cY)) 1))).1 (nth (0,0) gQ (nN (aK IntKind.i64 (zN (len cY)) 1))).2) (nth (0,0) all (nN s.1.1)).1),()),((),((),((),()))))))))))))))))))))) (ES ((false,()),((),((),((),()))))))) (fun (AL:((Bool×Unit)×(Unit×(Unit×(Unit×Unit)))))=>(br AL.1.1 (opt (nth (0,(0,none)) s.2.2.2.2.1 a0).2.2 none (fun iu=>(bd (aE s.2.2.2.2.2.1 iu) (fun kO=>(gd (bf (aK IntKind.i64 (zN (len cY)) 1)) (gd (bl (nN (aK IntKind.i64 (zN (len cY)) 1)) (len kO)) (bd (aE s.2.2.2.2.2.1 iu) (fun mE=>(bd (aE s.2.2.2.2.2.1 iu) (fun gh=>(gd (bf (aK IntKind.i64 (zN (len cY)) 1)) (gd (bl (nN (aK IntKind.i64 (zN (len cY)) 1)) (len gh)) (bd (aE s.2.2.2.2.2.1 iu) (fun iG=>(k (((ae IntKind.i64 s.1.1 1),()),((),((),((),(s.2.2.2.2.1,((aT s.2.2.2.2.2.1 iu (some (aw (0,0) iG (nN (aK IntKind.i64 (zN (len cY)) 1)) (fun yE=>(yE.1,(ae IntKind.i64 (nth (0,0) mE (nN (aK IntKind.i64 (zN (len cY)) 1))).2 (nth (0,0) all (nN s.1.1)).2)))))),()))))))))))))))))))))) (opt (nth (0,(0,none)) s.2.2.2.2.1 a0).2.2 (gd (dv (len [((nth (0,0) all (nN s.1.1)).1,(nth (0,0) all (nN s.1.1)).2)]) 16777216) (k (((ae IntKind.i64 s.1.1 1),()),((),((),((),((aw (0,(0,none)) s.2.2.2.2.1 a0 (fun jm=>(jm.1,(jm.2.1,(some (len s.2.2.2.2.2.1)))))),((cat s.2.2.2.2.2.1 [(some [((nth (0,0) all (nN s.1.1)).1,(nth (0,0) all (nN s.1.1)).2)])]),())))))))) (fun n4=>(bd (aE s.2.2.2.2.2.1 n4) (fun lL=>(gd (dv (aU (len lL) (len [((nth (0,0) all (nN s.1.1)).1,(nth (0,0) all (nN s.1.1)).2)])) 16777216) (gd (bl n4 (len s.2.2.2.2.2.1)) (k (((ae IntKind.i64 s.1.1 1),()),((),((),((),((aw (0,(0,none)) s.2.2.2.2.1 a0 (fun nX=>(nX.1,(nX.2.1,(some (len (aT s.2.2.2.2.2.1 n4 none))))))),((cat (aT s.2.2.2.2.2.1 n4 none) [(some (cat lL [((nth (0,0) all (nN s.1.1)).1,(nth (0,0) all (nN s.1.1)).2)]))]),())))))))))))))))))))))) (some ((0,()),(s.2.2.2.2.1,(s.2.2.2.2.2.1,())))))
theorem E7 (a0:Nat) (a1 a2:Int) (v0 v1 v2 v3):g.kV a0 a1 a2 v0 v1 v2 v3=gm a0 (cat (cat (tk (aG (nN v0.1.1) 0) (dr 0 v1)) [(a1,a2)]) (tk (aG (len v2) (nN v0.1.1)) (dr (nN v0.1.1) v3))):=rfl
theorem E6 (a0:Nat) (a1 a2:Int) (v0 v1 v2):g.iV a0 a1 a2 v0 v1 v2=gm a0 (cat [(a1,a2)] (tk (aG (len v0) (nN v1.1.1)) (dr (nN v1.1.1) v2))):=rfl
theorem Ng (a0:Nat) (a1 a2:Int):g.iU a0 a1 a2=gm a0 (cat [(a1,a2)] []):=rfl
theorem Di (init:List Xt) (y x:Xt):jB (init++[y]) x=if y.1+y.2=x.1 then init++[(y.1,y.2+x.2)] else init++[y]++[x]:=by
 unfold jB;simp
theorem Bl {α:Type} {d y:α} {l:List α} {i:Nat} (h:i=l.length):nth d (l++[y]) i=y:=by subst h;exact rZ
theorem Ax {α:Type} {x y:α} {l:List α} {i:Nat} (h:i=l.length):aT (l++[y]) i x=l++[x]:=by subst h;unfold aT;simp
theorem xj {r2:T2} {r4:T4} {gr:Nat} {fr en:Int} {acc all:List Xt} {k:Nat} (h:oC r2 r4 gr fr en acc) (hk:k<all.length) (hl:all.length≤10001) (ha:acc.length≤k) (hx:lx all[k]) (Dn:∀y∈acc,lx y) :
  ∃mD mC,oC mD mC gr fr en (jB acc all[k])∧∀K,gm gr all K (((k:Int),()),((),((),((),(r2,(r4,()))))))=K ((((k+1:Nat):Int),()),((),((),((),(mD,(mC,())))))):=by
 obtain ⟨fo,h2,h4⟩:=h
 have e2:∀d,nth d r2 gr=(fr,(en,fo)):=fun d=>bj h2
 have e:∀d,nth d all (nN (k:Int))=all[k]:=fun d=>gA hk
 have ek:ae IntKind.i64 (k:Int) 1=((k+1:Nat):Int):=by rw [aH (by omega)];omega
 rcases h4 with ⟨rfl,rfl⟩ | ⟨j,rfl,hj⟩
 ·refine ⟨?r2,?r4,?rel,fun K=>?eq⟩
  case eq=>
   unfold gm
   simp only [e2,e,ek]
   repeat refine HS ?_
   rfl
  case rel=>
   refine ⟨some r4.length,jX h2 |>.trans (by rw [e2];rfl),.inr ⟨_,rfl,?_⟩⟩
   exact dn
 ·have hjl:=jY hj
  rcases List.eq_nil_or_concat acc with rfl | ⟨init,y,rfl⟩
  ·refine ⟨?s2,?s4,?rel2,fun K=>?eq2⟩
   case eq2=>
    unfold gm
    simp only [e2,e,ek]
    repeat refine HS ?_
    rfl
   case rel2=>
    refine ⟨some (len (aT r4 j none)),jX h2 |>.trans (by rw [e2]),.inr ⟨_,rfl,?_⟩⟩
    exact dn
  ·simp only [List.concat_eq_append] at *
   have hle:(init++[y]).length=init.length+1:=by simp
   have il:aK IntKind.i64 (zN (len (init++[y]))) 1=(init.length:Int):=by
    rw [cz,bt,hle,aL (by omega)];omega
   have hy:=Dn y (by simp)
   have ey:∀d,nth d (init++[y]) (nN (init.length:Int))=y:=fun d=>Bl (cK _)
   have ea:ae IntKind.i64 y.1 y.2=y.1+y.2:=aH (by unfold lx at hy;omega)
   have eb:ae IntKind.i64 y.2 all[k].2=y.2+all[k].2:=aH (by unfold lx at hy hx;omega)
   rw [Di]
   by_cases hq:y.1+y.2=all[k].1
   ·rw [if_pos hq]
    refine ⟨?u2,?u4,?rel3,fun K=>?eq3⟩
    case eq3=>
     unfold gm
     simp only [e2,e,ek]
     iterate 12 (try (refine HS ?_))
     simp only [il]
     repeat refine HS ?_
     simp only [ey,ea,eb]
     repeat refine HS ?_
     rfl
    case rel3=>
     refine ⟨some j,h2,.inr ⟨j,rfl,(aB hj).trans ?_⟩⟩
     unfold aw
     rw [ey,Ax (cK _)]
     show some (init++[(y.1,ae IntKind.i64 y.2 all[k].2)])=_
     rw [eb]
   ·rw [if_neg hq]
    refine ⟨?v2,?v4,?rel4,fun K=>?eq4⟩
    case eq4=>
     unfold gm
     simp only [e2,e,ek]
     iterate 12 (try (refine HS ?_))
     simp only [il]
     repeat refine HS ?_
     simp only [ey,ea,eb]
     repeat refine HS ?_
     rfl
    case rel4=>
     refine ⟨some (len (aT r4 j none)),jX h2 |>.trans (by rw [e2]),.inr ⟨_,rfl,?_⟩⟩
     exact dn
theorem BI {gr:Nat} {fr en:Int} {all:List Xt} (hl:all.length≤10001) (hx:∀y∈all,lx y):∀(m k:Nat) (r2:T2) (r4:T4),k+m=all.length→oC r2 r4 gr fr en (gB [] (all.take k)) →
  ∃mD mC,oC mD mC gr fr en (gB [] all)∧yk (gm gr all) (((k:Int),()),((),((),((),(r2,(r4,())))))) (some ((0,()),(mD,(mC,())))) m
 | 0,k,r2,r4,hk,h=>by
  obtain rfl:k=all.length:=by omega
  rw [List.take_length] at h
  refine ⟨r2,r4,h,yk.stop 0 fun K=>?_⟩
  unfold gm
  repeat refine HS ?_
  rfl
 | m+1,k,r2,r4,hk,h=>by
  have Dw:k<all.length:=by omega
  have ho:∀y∈gB [] (all.take k),lx y:=xP _ _ (by simp) (fun y hy=>hx y (List.mem_of_mem_take hy))
  have hn:(gB [] (all.take k)).length≤k:=by have:=qT (all.take k) [];simp at this;omega
  obtain ⟨mD,mC,h',e⟩:=xj h Dw hl hn (hx _ (List.getElem_mem Dw)) ho
  rw [←Bu all k Dw] at h'
  obtain ⟨ads,ado,h'',r⟩:=BI hl hx m (k+1) mD mC (by omega) h'
  exact ⟨ads,ado,h'',yk.step r e⟩
theorem DG {gr:Nat} {fr en:Int} {all:List Xt} {r2:T2} {r4:T4} (h:oC r2 r4 gr fr en []) (hl:all.length≤10001) (hx:∀y∈all,lx y) :
  ∃mD mC,oC mD mC gr fr en (gB [] all)∧loop (gm gr all) ((0,()),((),((),((),(r2,(r4,()))))))=some ((0,()),(mD,(mC,()))):=by
 obtain ⟨mD,mC,h',r⟩:=BI hl hx all.length 0 r2 r4 (by omega) h
 exact ⟨mD,mC,h',r.loop (by unfold lD;omega)⟩
theorem GU (a1:Int) (d1:T4) (l:List Xt) (j:Nat) (v2) (hj:aE d1 j=some l) (hl:l.length≤10000) (hx:∀x∈l,lx x) :
  loop (g.eT a1 d1 l j v2) ((0,()),((),((),((),()))))=v2 (((if behind l a1<l.length then (behind l a1:Int) else -1),()),((),((),((),())))):=by
 refine (dN (fun k=>((((k:Nat):Int),()),((),((),((),()))))) (fun k=>v2 (((if k+behind (l.drop k) a1<l.length then ((k+behind (l.drop k) a1:Nat):Int) else -1),()),((),((),((),()))))) l.length (by unfold lD;omega) (fun K=>?_) (fun k hk=>?_)).trans ?_
 ·simp (disch:=omega) only [g.eT,↓bY,↓bX,↓b6,↓b7,↓b9,↓b8,zE,aX,a6,aY,a_,ao,au,bD,a7,aO,a8,ba,bh,↓cJ,aH,aL,aZ,bM,bS,aS,a9,cz,bt,cK,cH,aU,aG]
  rw [if_neg (by omega)]
 ·rw [Cf l a1 k hk]
  have e:nth (0,0) l k=l[k]:=gA hk
  have su:=hx _ (List.getElem_mem hk)
  unfold lx at su
  by_cases he:a1<l[k].1+l[k].2
  ·refine .inl (fun K=>?_)
   simp (disch:=omega) only [g.eT,↓bY,↓bX,↓b6,↓b7,↓b9,↓b8,zE,aX,a6,aY,a_,ao,au,bD,a7,aO,a8,ba,bh,↓cJ,aH,aL,aZ,bM,bS,aS,a9,cz,bt,cK,cH,aU,aG,hj,e]
   rw [if_pos he,if_pos (by omega)];rfl
  ·refine .inr ⟨?_,fun K=>?_⟩
   ·rw [if_neg he]
    have e3:k+(behind (l.drop (k+1)) a1+1)=k+1+behind (l.drop (k+1)) a1:=by omega
    rw [e3]
   ·simp (disch:=omega) only [g.eT,↓bY,↓bX,↓b6,↓b7,↓b9,↓b8,zE,aX,a6,aY,a_,ao,au,bD,a7,aO,a8,ba,bh,↓cJ,aH,aL,aZ,bM,bS,aS,a9,cz,bt,cK,cH,aU,aG,hj,e]
    rfl
 ·simp
theorem oC.nil {r2:T2} {r4:T4} {gr:Nat} {fr en:Int} {l:List Xt} (h:oC r2 r4 gr fr en l):oC (aw (0,(0,none)) r2 gr (fun r=>(r.1,(r.2.1,none)))) r4 gr fr en []:=by
 obtain ⟨fo,h2,_⟩:=h
 have e2:∀d,nth d r2 gr=(fr,(en,fo)):=fun d=>bj h2
 exact ⟨none,jX h2 |>.trans (by rw [e2]),.inl ⟨rfl,rfl⟩⟩
theorem SX {r2:T2} {r4:T4} {gr:Nat} {fr en:Int} {l l':List Xt} {a n:Int} (h:oC r2 r4 gr fr en l) (hf:0≤fr∧0≤en∧en≤131072) (ha:0≤a∧a≤1048576) (hn:0≤n∧n≤1048576) (hx:∀x∈l,lx x) (hl:l.length≤10000) (hg:tK fr en l a n=some l') :
  ∃mD mC,g.gk gr a n r2 r4=some ((0,()),(mD,(mC,())))∧oC mD mC gr fr en l':=by
 have Dt:=h.nil
 obtain ⟨fo,h2,h4⟩:=h
 have e2:∀d,nth d r2 gr=(fr,(en,fo)):=fun d=>bj h2
 unfold tK at hg
 split at hg
 ·cases hg
 rename_i hc
 split at hg
 ·cases hg
 rename_i hd
 cases hg
 have Ze:1≤n:=by omega
 have TO:n%8=0:=by omega
 have hc3:a%8=0:=by omega
 have hc4:fr≤a∧a≤en-1:=by omega
 have hc5:n≤en-a:=by omega
 have hw:within a fr (aK IntKind.i64 en 1)=true:=by
  rw [aL (by omega)];simp [within,hc4.1,hc4.2]
 have lb:∀y∈l.take (behind l a)++[(a,n)]++l.drop (behind l a),lx y:=by
  intro y hy
  simp only [zX,zF] at hy
  rcases hy with (hy | rfl) | hy
  ·exact hx _ (List.mem_of_mem_take hy)
  ·unfold lx;simp only;omega
  ·exact hx _ (List.mem_of_mem_drop hy)
 have hlen:(l.take (behind l a)++[(a,n)]++l.drop (behind l a)).length≤10001:=by
  have:=qk l a
  simp;omega
 obtain ⟨mD,mC,hr,BE⟩:=DG Dt hlen lb
 refine ⟨mD,mC,?_,hr⟩
 unfold g.gk
 rcases h4 with ⟨rfl,rfl⟩ | ⟨j,rfl,hj⟩
 ·simp only [e2]
  repeat refine HS ?_
  try rw [hw]
  repeat refine HS ?_
  rw [xQ]
  unfold g.kU
  repeat refine HS ?_
  rw [Ng]
  exact BE
 ·have hb:=qk l a
  simp only [e2]
  repeat refine HS ?_
  try rw [hw]
  repeat refine HS ?_
  refine Eq.trans (GU a r4 l j _ hj hl hx) ?_
  generalize hi:behind l a=i at *
  have a0:cat (cat (tk (aG (nN (i:Int)) 0) (dr 0 l)) [(a,n)]) (tk (aG (len l) (nN (i:Int))) (dr (nN (i:Int)) l))=l.take i++[(a,n)]++l.drop i:=by
   unfold cat tk dr aG len nN
   rw [zE,Nat.sub_zero,List.drop_zero,za (l:=l.drop i) (by simp)]
  have a2:i=0→cat [(a,n)] (tk (aG (len l) (nN (i:Int))) (dr (nN (i:Int)) l))=l.take i++[(a,n)]++l.drop i:=by
   rintro rfl
   unfold cat tk dr aG len nN
   simp
  have k0:(fun r:Int×(Int×Option Nat)=>(r.1,(r.2.1,(none:Option Nat))))=(fun r=>(r.1,(r.2.1,none))):=rfl
  have hs:ae IntKind.i64 a n=a+n:=aH (by omega)
  by_cases dP:i<l.length
  ·rw [if_pos dP]
   have e:∀d,nth d l (nN (i:Int))=l[i]:=fun d=>gA dP
   have qt:¬l[i].1<a+n:=by
    intro hh
    refine hd ⟨dP,?_⟩
    rw [zA,zD dP]
    exact hh
   by_cases h0:i=0
   ·repeat refine HS ?_
    rw [e,hs]
    repeat refine HS ?_
    rw [E6]
    exact (congrArg (fun al=>loop (gm gr al) _) (a2 h0)).trans BE
   ·repeat refine HS ?_
    rw [e,hs]
    repeat refine HS ?_
    rw [E7]
    exact (congrArg (fun al=>loop (gm gr al) _) a0).trans BE
  ·rw [if_neg dP]
   obtain rfl:i=l.length:=by omega
   by_cases h0:l.length=0
   ·repeat refine HS ?_
    rw [E6]
    exact (congrArg (fun al=>loop (gm gr al) _) (a2 h0)).trans BE
   ·repeat refine HS ?_
    rw [E7]
    exact (congrArg (fun al=>loop (gm gr al) _) a0).trans BE
end Go.Proofs.YtihiooaimdoapaaGreat
namespace Go.jG
open Go.Bm
abbrev eY:=ni×Xt
def ah (l:List eY) (i:Int):eY:=nth ((0,(0,(0,0))),(0,0)) l (nN i)
def lz (l:List eY) (first i:Int):Bool:=within i first ((l.length:Int)-1)
def j9 (l:List eY) (i:Int):ni×Int:=if lz l 0 i=true then ((ah l i).1,0) else (B3,11)
def oU (l:List eY) (i:Int):Xt×Int:=if lz l 0 i=true then ((ah l i).2,0) else ((0,0),11)
def cZ (l:List eY) (i:Int) (f:ni→ni×Int):List eY×Int:=
 if lz l 1 i=true then (if (f (ah l i).1).2=0 then (l.set i.toNat ((f (ah l i).1).1,(ah l i).2),0) else (l,(f (ah l i).1).2)) else (l,11)
def iW (l:List eY) (i:Int):List eY×Bool×Int:=
 if (cZ l i bC).2=0 then ((cZ l i bC).1,decide ((ah (cZ l i bC).1 i).1.1=3),0) else (l,false,(cZ l i bC).2)
def iq:List eY→Option Nat
 | []=>none
 | x::l=>if x.1.1=0 then some 0 else (iq l).map (· + 1)
def bW (l:List eY) (fl:List Xt) (n:Int):List eY×List Xt×Int×Int:=
 if within n 1 8192=false then (l,fl,0,1)
 else match iq l with
  | none=>(l,fl,0,13)
  | some i=>match jF fl (rC n) with
   | none=>(l,fl,0,14)
   | some (a,tL)=>(l.set i ((1,(ah l i).1.2),(a,rC n)),tL,(i:Int),0)
def bL (fr en:Int) (l:List eY) (fl:List Xt) (i:Int):List eY×List Xt×Int:=
 if lz l 1 i=false then (l,fl,11)
 else if (ah l i).1.1=0 then (l,fl,11)
 else if (ah l i).1.1≠1 then (l,fl,12)
 else (l.set i.toNat ((0,0,-1,cO (ah l i).1.2.2.2),(0,0)),(tK fr en fl (ah l i).2.1 (ah l i).2.2).getD fl,0)
theorem getSet {α:Type} {l:List α} {i j:Nat} {x y:α} (h:(l.set i x)[j]?=some y):(j=i∧y=x)∨(j≠i∧l[j]?=some y):=by
 rw [List.getElem?_set] at h
 by_cases e:i=j
 ·rw [if_pos e] at h
  by_cases e2:i<l.length
  ·rw [if_pos e2] at h;cases h;exact .inl ⟨e.symm,rfl⟩
  ·rw [if_neg e2] at h;cases h
 ·rw [if_neg e] at h;exact .inr ⟨fun h=>e h.symm,h⟩
def dj (x y:Xt):Prop:=x.1+x.2≤y.1∨y.1+y.2≤x.1
def lQ (fr en:Int) (x:Xt):Prop:=fr≤x.1∧8≤x.2∧x.1+x.2≤en∧x.1%8=0∧x.2%8=0
structure SI (fr en:Int) (l:List eY) (fl:List Xt):Prop where
 DJ:0≤fr∧fr%8=0∧en≤16384
 len:1≤l.length∧l.length≤8
 fx:∀x∈fl,lQ fr en x
 pw:fl.Pairwise dj
 cr:∀(i:Nat) (x:eY),l[i]?=some x→bc x.1=true
 ux:∀(i:Nat) (x:eY),1≤i→l[i]?=some x→x.1.1≠0→lQ fr en x.2
 fu:∀(i:Nat) (x:eY),1≤i→l[i]?=some x→x.1.1≠0→∀y∈fl,dj x.2 y
 uu:∀(i j:Nat) (x y:eY),1≤i→1≤j→i≠j→l[i]?=some x→l[j]?=some y→x.1.1≠0→y.1.1≠0→dj x.2 y.2
 im:∀x:eY,l[0]?=some x→x.1=(2,1,-1,0)∧0≤x.2.1∧x.2.1%8=0∧0≤x.2.2∧x.2.2%8=0∧x.2.1+x.2.2≤fr∧8≤x.2.1
theorem lQ.ok {fr en:Int} {x:Xt} (h0:0≤fr∧fr%8=0∧en≤16384) (h:lQ fr en x):lx x:=by
 unfold lQ at h;unfold lx;omega
theorem ma {l:List eY} {i:Nat} {x:eY} (h:l[i]?=some x):ah l (i:Int)=x:=by
 unfold ah nth nN
 rw [zE,zA,h];rfl
theorem cg {l:List eY} {f i:Int}:lz l f i=true↔f≤i∧i<l.length:=by
 unfold lz;rw [bG];omega
theorem H6 {l:List eY} {f i:Int}:lz l f i=false↔¬(f≤i∧i<l.length):=by
 rw [←cg];simp
theorem jr {l:List eY} {i:Int} (h0:0≤i) (h:i<l.length):l[i.toNat]?=some (ah l i):=by
 unfold ah nth nN
 rw [zA,zD (by omega)];rfl
theorem SI.aT {fr en:Int} {l:List eY} {fl:List Xt} (h:SI fr en l fl) {i:Nat} {x:eY} (hi:1≤i) (hx:l[i]?=some x) (hu:x.1.1≠0) {c:ni} (hc:bc c=true):SI fr en (l.set i (c,x.2)) fl:=by
 have key:∀(j:Nat) (y:eY),1≤j→(l.set i (c,x.2))[j]?=some y→y.1.1≠0→∃z:eY,l[j]?=some z∧z.1.1≠0∧z.2=y.2:=by
  intro j y hj hy h0
  rw [List.getElem?_set] at hy
  split at hy
  ·rename_i e;subst e
   split at hy
   ·cases hy;exact ⟨x,hx,hu,rfl⟩
   ·cases hy
  ·exact ⟨y,hy,h0,rfl⟩
 refine ⟨h.DJ,by simpa using h.len,h.fx,h.pw,?_,?_,?_,?_,?_⟩
 ·intro j y hy
  rw [List.getElem?_set] at hy
  split at hy
  ·split at hy
   ·cases hy;exact hc
   ·cases hy
  ·exact h.cr j y hy
 ·intro j y hj hy h0
  obtain ⟨z,h1,h2,h3⟩:=key j y hj hy h0
  rw [←h3];exact h.ux j z hj h1 h2
 ·intro j y hj hy h0 w hw
  obtain ⟨z,h1,h2,h3⟩:=key j y hj hy h0
  rw [←h3];exact h.fu j z hj h1 h2 w hw
 ·intro j k y z hj hk hn hy hz h0 h1
  obtain ⟨y',a1,a2,a3⟩:=key j y hj hy h0
  obtain ⟨z',b1,b2,b3⟩:=key k z hk hz h1
  rw [←a3,←b3];exact h.uu j k y' z' hj hk hn a1 b1 a2 b2
 ·intro y hy
  rw [List.getElem?_set] at hy
  rw [if_neg (by omega)] at hy
  exact h.im y hy
theorem B2 (fr:Int) (c:ni) (h:bc c=true) (h0:(b_ c fr).2=0):bc (b_ c fr).1=true∧c.1≠0:=by
 obtain ⟨s,n,p,e⟩:=c
 unfold b_ at h0 ⊢
 by_cases h1:within fr 0 7=true
 ·rw [if_neg (by rw [h,h1];simp)] at h0 ⊢
  rw [bG] at h1
  simp only at h0 ⊢
  by_cases s0:s=0
  ·rw [if_pos s0] at h0;cases h0
  ·rw [if_neg s0] at h0 ⊢
   refine ⟨?_,s0⟩
   unfold bc at h ⊢
   simp only [zC,bG] at h ⊢
   obtain ⟨he,h⟩:=h
   by_cases s3:s=3
   ·rw [if_pos s3] at h0;cases h0
   ·rw [if_neg s3] at h0 ⊢
    by_cases s1:s=1
    ·rw [if_pos s1]
     rw [if_pos (.inr s1)] at h
     simp only [zC,decide_eq_true_eq] at h
     refine ⟨he,?_⟩
     simp [bG];omega
    ·rw [if_neg s1] at h0 ⊢
     rw [if_neg (by omega)] at h
     split at h0
     ·cases h0
     ·rename_i hp
      split at h0
      ·cases h0
      ·rename_i hn
       rw [if_neg hp,if_neg hn]
       refine ⟨he,?_⟩
       simp only
       by_cases s2:s=2
       ·rw [if_pos s2] at h
        simp only [zC,bG] at h
        rw [if_neg (by omega),if_pos s2]
        simp only [zC,bG]
        omega
       ·rw [if_neg s2,if_neg s3] at h;cases h
 ·rw [if_pos (.inr (by simpa using h1))] at h0;cases h0
theorem Ky {c:ni} {s:Int} (h:iP c s=0):bc c=true∧c.1=s:=by
 unfold iP at h
 split at h
 ·cases h
 ·rename_i h1
  split at h
  ·cases h
  ·rename_i h2
   exact ⟨by simpa using h1,by simpa using h2⟩
theorem lv {c:ni} (h:bc c=true) (h2:c.1=2):(bC c).2=0∧(bC c).1=if c.2.1=1 then (3,0,c.2.2.1,c.2.2.2) else (2,c.2.1-1,c.2.2.1,c.2.2.2):=by
 obtain ⟨s,n,p,e⟩:=c
 obtain rfl:s=2:=h2
 have e0:iP (2,n,p,e) 2=0:=by unfold iP;rw [if_neg (by rw [h];simp)];simp
 unfold bC
 rw [if_neg (by rw [e0];simp)]
 simp only
 split<;>exact ⟨rfl,rfl⟩
theorem gM {c:ni} (h:bc c=true) (h2:c.1=2):1≤c.2.1∧c.2.1≤7∧-1≤c.2.2.1∧c.2.2.1≤7∧0≤c.2.2.2∧c.2.2.2≤16777215:=by
 unfold bc at h
 rw [h2] at h
 simp [bG] at h
 omega
theorem CW {n p e:Int} (h:1≤n∧n≤7∧-1≤p∧p≤7∧0≤e∧e≤16777215):bc (2,n,p,e)=true:=by
 unfold bc
 simp [bG];omega
theorem oV {p e:Int} (h : -1≤p∧p≤7∧0≤e∧e≤16777215):bc (3,0,p,e)=true:=by
 unfold bc
 simp [bG];omega
theorem CX {e:Int} (h:0≤e∧e≤16777215):bc (1,0,-1,e)=true:=by
 unfold bc
 simp [bG];omega
theorem mK {c:ni} (h:bc c=true):((c.1=0∨c.1=1)∧c.2.1=0∧c.2.2.1 = -1)∨(c.1=2)∨(c.1=3∧c.2.1=0):=by
 unfold bc at h
 simp only [zC] at h
 obtain ⟨_,h⟩:=h
 by_cases h1:c.1=0∨c.1=1
 ·rw [if_pos h1] at h
  simp only [zC,decide_eq_true_eq] at h
  exact .inl ⟨h1,h.1,h.2⟩
 ·rw [if_neg h1] at h
  by_cases h2:c.1=2
  ·exact .inr (.inl h2)
  ·rw [if_neg h2] at h
   by_cases h3:c.1=3
   ·rw [if_pos h3] at h
    simp only [zC,decide_eq_true_eq] at h
    exact .inr (.inr ⟨h3,h.1⟩)
   ·rw [if_neg h3] at h;cases h
theorem m9 {c:ni} {f:Int} (hr:bc c=true) (h:(b_ c f).2=0):(b_ c f).1=(2,c.2.1+1,f,c.2.2.2)∧(c.1=1∨(c.1=2∧c.2.2.1=f∧c.2.1<7)):=by
 unfold b_ at h ⊢
 split at h
 ·cases h
 ·rename_i c1
  split at h
  ·cases h
  ·rename_i c2
   split at h
   ·cases h
   ·rename_i c3
    split at h
    ·rename_i c4
     rw [if_neg c1,if_neg c2,if_neg c3,if_pos c4];exact ⟨rfl,.inl c4⟩
    ·rename_i c4
     split at h
     ·cases h
     ·rename_i c5
      split at h
      ·cases h
      ·rename_i c6
       rw [if_neg c1,if_neg c2,if_neg c3,if_neg c4,if_neg c5,if_neg c6]
       have h2:c.1=2:=by
        rcases mK hr with ⟨h3,_⟩ | h3 | ⟨h3,_⟩
        ·omega
        ·exact h3
        ·exact absurd h3 c3
       have h5:c.2.2.1=f:=by simpa using c5
       have:=gM hr h2
       refine ⟨by rw [h2,h5],.inr ⟨h2,h5,by omega⟩⟩
theorem r_ {e:Int}:0≤cO e∧cO e≤16777215:=by unfold cO;omega
theorem jC:∀{l:List eY} {i:Nat},iq l=some i→∃x,l[i]?=some x∧x.1.1=0
 | [],_,h=>by cases h
 | x::l,i,h=>by
  unfold iq at h
  split at h
  ·rename_i h0;cases h;exact ⟨x,rfl,h0⟩
  ·cases hh:iq l with
   | none=>rw [hh] at h;cases h
   | some j=>
    rw [hh] at h
    have h:j+1=i:=by simpa using h
    subst h
    obtain ⟨y,h1,h2⟩:=jC hh
    exact ⟨y,by simpa using h1,h2⟩
theorem BJ (l:List eY) (k:Nat) (h:k<l.length):iq (l.drop k)=if l[k].1.1=0 then some 0 else (iq (l.drop (k+1))).map (· + 1):=by
 rw [List.drop_eq_getElem_cons h];rfl
theorem HM {n:Int} (h:1≤n∧n≤8192):8≤rC n∧rC n≤8192∧rC n%8=0∧n≤rC n:=by unfold rC;omega
theorem DI {l:List Xt} {i:Nat} (hi:i<l.length):l=l.take i++l[i]::l.drop (i+1):=by
 rw [←List.drop_eq_getElem_cons hi,zP]
theorem mR {x y:Xt} (h:dj x y):dj y x:=h.symm
theorem KH {fr en:Int} {fl tL:List Xt} {a n:Int} (hx:∀x∈fl,lQ fr en x) (hp:fl.Pairwise dj) (hn:8≤n∧n%8=0) (h:jF fl n=some (a,tL)) :
  lQ fr en (a,n)∧(∀y∈tL,lQ fr en y)∧tL.Pairwise dj∧(∀y∈tL,dj (a,n) y)∧(∀u:Xt,(∀y∈fl,dj u y)→dj u (a,n)∧∀y∈tL,dj u y)∧tL.length≤fl.length:=by
 unfold jF at h
 split at h
 ·cases h
 ·rename_i i hb
  obtain ⟨hi,GQ⟩:=mr hb
  have hg:fl.getD i (0,0)=fl[i]:=by rw [zA,zD hi];rfl
  rw [hg] at h GQ
  have qX:=hx _ (List.getElem_mem hi)
  have Ln:=DI hi
  have e1:fl.eraseIdx i=fl.take i++fl.drop (i+1):=List.eraseIdx_eq_take_drop_succ _ _
  have e2:∀z,fl.set i z=fl.take i++z::fl.drop (i+1):=fun z=>by
   rw [List.set_eq_take_append_cons_drop,if_pos hi]
  rw [e1,e2] at h
  generalize fl[i]=x at *
  generalize fl.take i=A at *
  generalize fl.drop (i+1)=B at *
  simp only [zI,zU] at h
  obtain ⟨rfl,rfl⟩:=h
  subst Ln
  have am6:fr≤x.1∧8≤x.2∧x.1+x.2≤en∧x.1%8=0∧x.2%8=0:=qX
  rw [List.pairwise_append,List.pairwise_cons] at hp
  obtain ⟨p1,⟨p2,p3⟩,p4⟩:=hp
  have pA:∀y∈A,dj x y:=fun y hy=>mR (p4 y hy x (by simp))
  have sub:∀y,dj x y→n≤x.2→dj (x.1,n) y:=fun y hy hn=>by unfold dj at *;simp only;omega
  have QP:∀y,dj y x→x.2≠n→dj y (x.1+n,x.2-n):=fun y hy jI=>by unfold dj at *;simp only;omega
  refine ⟨by unfold lQ;simp only;omega,?_,?_,?_,?_,?_⟩
  ·intro y hy
   split at hy
   ·exact hx y (by simp at hy ⊢;rcases hy with h | h<;>simp [h])
   ·simp only [zX,List.mem_cons] at hy
    rcases hy with hy | rfl | hy
    ·exact hx y (by simp [hy])
    ·unfold lQ;simp only;omega
    ·exact hx y (by simp [hy])
  ·split
   ·rw [List.pairwise_append]
    exact ⟨p1,p3,fun a ha b hb=>p4 a ha b (by simp [hb])⟩
   ·rename_i jI
    rw [List.pairwise_append,List.pairwise_cons]
    refine ⟨p1,⟨fun y hy=>mR (QP y (mR (p2 y hy)) jI),p3⟩,fun a ha b hb=>?_⟩
    simp only [List.mem_cons] at hb
    rcases hb with rfl | hb
    ·exact QP a (p4 a ha x (by simp)) jI
    ·exact p4 a ha b (by simp [hb])
  ·intro y hy
   split at hy
   ·simp only [zX] at hy
    rcases hy with hy | hy
    ·exact sub y (pA y hy) GQ
    ·exact sub y (p2 y hy) GQ
   ·simp only [zX,List.mem_cons] at hy
    rcases hy with hy | rfl | hy
    ·exact sub y (pA y hy) GQ
    ·unfold dj;simp only;omega
    ·exact sub y (p2 y hy) GQ
  ·intro u hu
   have h1:=hu x (by simp)
   refine ⟨by unfold dj at *;simp only;omega,fun y hy=>?_⟩
   split at hy
   ·exact hu y (by simp at hy ⊢;rcases hy with h | h<;>simp [h])
   ·rename_i jI
    simp only [zX,List.mem_cons] at hy
    rcases hy with hy | rfl | hy
    ·exact hu y (by simp [hy])
    ·exact QP u h1 jI
    ·exact hu y (by simp [hy])
  ·split<;>simp
theorem n_ {fr en:Int}:∀(l acc:List Xt),(acc++l).Pairwise dj→(∀y∈acc++l,lQ fr en y) →
  (gB acc l).Pairwise dj∧(∀y∈gB acc l,lQ fr en y)∧∀u:Xt,0<u.2→(∀y∈acc++l,dj u y)→∀y∈gB acc l,dj u y
 | [],acc,h1,h2=>by
  rw [List.append_nil] at h1 h2
  exact ⟨h1,h2,fun u _ hu=>by rw [List.append_nil] at hu;exact hu⟩
 | x::l,acc,h1,h2=>by
  have e:gB acc (x::l)=gB (jB acc x) l:=rfl
  rw [e]
  have plain:acc++x::l=acc++[x]++l:=by simp
  rcases List.eq_nil_or_concat acc with rfl | ⟨init,y,rfl⟩
  ·have e2:jB [] x=[x]:=rfl
   rw [e2]
   exact n_ l [x] h1 h2
  ·have e2:jB (init++[y]) x=if y.1+y.2=x.1 then init++[(y.1,y.2+x.2)] else init++[y]++[x]:=by
    unfold jB
    simp
   rw [List.concat_eq_append] at *
   rw [e2]
   split
   ·rename_i hj
    have hx:=h2 x (by simp)
    have hy:=h2 y (by simp)
    unfold lQ at hx hy
    simp only [List.append_assoc,List.singleton_append,List.cons_append,List.nil_append,List.pairwise_append,List.pairwise_cons,List.mem_cons] at h1
    obtain ⟨q1,⟨q2,q3,q4⟩,q5⟩:=h1
    have un:∀u:Xt,0<u.2→dj u y→dj u x→dj u (y.1,y.2+x.2):=fun u h0 a b=>by unfold dj at *;simp only;omega
    have inw:∀w,w∈init∨w∈l→0<w.2:=fun w hw=>by
     have:=h2 w (by rcases hw with h | h<;>simp [h])
     unfold lQ at this;omega
    obtain ⟨r1,r2,r3⟩:=n_ l (init++[(y.1,y.2+x.2)]) (by
     rw [List.append_assoc,List.pairwise_append]
     refine ⟨q1,?_,?_⟩
     ·rw [List.singleton_append,List.pairwise_cons]
      exact ⟨fun w hw=>mR (un w (inw w (.inr hw)) (mR (q2 w (.inr hw))) (mR (q3 w hw))),q4⟩
     ·intro a ha b hb
      simp only [List.singleton_append,List.mem_cons] at hb
      rcases hb with rfl | hb
      ·exact un a (inw a (.inl ha)) (q5 a ha y (.inl rfl)) (q5 a ha x (.inr (.inl rfl)))
      ·exact q5 a ha b (.inr (.inr hb))) (by
     intro w hw
     simp only [List.append_assoc,List.singleton_append,zX,List.mem_cons] at hw
     rcases hw with hw | rfl | hw
     ·exact h2 w (by simp [hw])
     ·unfold lQ;simp only;omega
     ·exact h2 w (by simp [hw]))
    refine ⟨r1,r2,fun u h0 hu=>r3 u h0 fun w hw=>?_⟩
    simp only [List.append_assoc,List.singleton_append,zX,List.mem_cons] at hw
    rcases hw with hw | rfl | hw
    ·exact hu w (by simp [hw])
    ·exact un u h0 (hu y (by simp)) (hu x (by simp))
    ·exact hu w (by simp [hw])
   ·rw [plain] at h1 h2
    rw [plain]
    exact n_ l (init++[y]++[x]) h1 h2
theorem um:∀(l:List Xt) (a:Int),behind l a<l.length→a<(l.getD (behind l a) (0,0)).1+(l.getD (behind l a) (0,0)).2
 | [],_,h=>by cases h
 | x::l,a,h=>by
  unfold behind at h ⊢
  split
  ·simpa using by assumption
  ·rename_i hh
   rw [if_neg hh] at h
   have:=um l a (by simpa using h)
   simpa using this
theorem zm {fr en:Int} {fl:List Xt} {x:Xt} (h0:0≤fr∧fr%8=0∧en≤16384) (hf:∀y∈fl,lQ fr en y) (hp:fl.Pairwise dj) (hx:lQ fr en x) (hd:∀y∈fl,dj x y) :
  ∃tL,tK fr en fl x.1 x.2=some tL∧(∀y∈tL,lQ fr en y)∧tL.Pairwise dj∧(∀u:Xt,0<u.2→dj u x→(∀y∈fl,dj u y)→∀y∈tL,dj u y)∧tL.length≤fl.length+1:=by
 have hb:=qk fl x.1
 unfold tK
 have su:fr≤x.1∧8≤x.2∧x.1+x.2≤en∧x.1%8=0∧x.2%8=0:=hx
 rw [if_neg (by omega)]
 rw [if_neg (by
  rintro ⟨k1,k2⟩
  have k3:=um fl x.1 k1
  have hm:fl.getD (behind fl x.1) (0,0)∈fl:=by
   rw [zA,zD k1];exact List.getElem_mem k1
  have:=hd _ hm
  unfold dj at this
  omega)]
 have Ln:fl=fl.take (behind fl x.1)++fl.drop (behind fl x.1):=(zP _ _).symm
 generalize hA:fl.take (behind fl x.1)=A at *
 generalize hB:fl.drop (behind fl x.1)=B at *
 clear hA hB hb
 subst Ln
 rw [List.pairwise_append] at hp
 obtain ⟨p1,p2,p3⟩:=hp
 obtain ⟨r1,r2,r3⟩:=n_ (fr:=fr) (en:=en) (A++[x]++B) [] (by
  rw [List.nil_append,List.append_assoc,List.pairwise_append,List.singleton_append,List.pairwise_cons]
  refine ⟨p1,⟨fun y hy=>hd y (by simp [hy]),p2⟩,fun a ha b hb=>?_⟩
  simp only [List.mem_cons] at hb
  rcases hb with rfl | hb
  ·exact mR (hd a (by simp [ha]))
  ·exact p3 a ha b hb) (by
  intro y hy
  simp only [List.nil_append,zX,zF] at hy
  rcases hy with (hy | rfl) | hy
  ·exact hf y (by simp [hy])
  ·exact hx
  ·exact hf y (by simp [hy]))
 refine ⟨_,rfl,r2,r1,fun u h0 hu xV=>r3 u h0 fun y hy=>?_,?_⟩
 ·simp only [List.nil_append,zX,zF] at hy
  rcases hy with (hy | rfl) | hy
  ·exact xV y (by simp [hy])
  ·exact hu
  ·exact xV y (by simp [hy])
 ·have:=qT (A++[x]++B) []
  simp at this ⊢;omega
theorem SI.create {fr en:Int} {l:List eY} {fl:List Xt} (h:SI fr en l fl) (n:Int):SI fr en (bW l fl n).1 (bW l fl n).2.1∧(bW l fl n).2.1.length≤fl.length:=by
 unfold bW
 split
 ·exact ⟨h,Nat.le_refl _⟩
 ·rename_i hn
  have hn:1≤n∧n≤8192:=by rw [←bG];simpa using hn
  cases hf:iq l with
  | none=>exact ⟨h,Nat.le_refl _⟩
  | some i=>
   simp only
   cases hc:jF fl (rC n) with
   | none=>exact ⟨h,Nat.le_refl _⟩
   | some r=>
    obtain ⟨a,tL⟩:=r
    simp only
    obtain ⟨x,hx,Lk⟩:=jC hf
    have hu:=HM hn
    obtain ⟨c1,c2,c3,c4,c5,c6⟩:=KH h.fx h.pw ⟨hu.1,hu.2.2.1⟩ hc
    have hi:1≤i:=by
     rcases Nat.eq_zero_or_pos i with rfl | h1
     ·have:=(h.im x hx).1
      rw [this] at Lk;cases Lk
     ·exact h1
    have hg:=ma hx
    rw [hg]
    have zj:=h.cr i x hx
    have Y6:=(zB.1 hx).1
    have key:∀(j:Nat) (y:eY),(l.set i ((1,x.1.2),(a,rC n)))[j]?=some y→(j=i∧y=((1,x.1.2),(a,rC n)))∨(j≠i∧l[j]?=some y):=by
     intro j y hy
     exact getSet hy
    refine ⟨⟨h.DJ,by simpa using h.len,c2,c3,?_,?_,?_,?_,?_⟩,c6⟩
    ·intro j y hy
     rcases key j y hy with ⟨rfl,rfl⟩ | ⟨hj,hy⟩
     ·unfold bc at zj ⊢
      rw [Lk] at zj
      simpa using zj
     ·exact h.cr j y hy
    ·intro j y hj hy h0
     rcases key j y hy with ⟨rfl,rfl⟩ | ⟨M3,hy⟩
     ·exact c1
     ·exact h.ux j y hj hy h0
    ·intro j y hj hy h0 w hw
     rcases key j y hy with ⟨rfl,rfl⟩ | ⟨M3,hy⟩
     ·exact c4 w hw
     ·exact (c5 _ (h.fu j y hj hy h0)).2 w hw
    ·intro j k y z hj hk hn hy hz h0 h1
     rcases key j y hy with ⟨e1,e2⟩ | ⟨M3,gy⟩
     ·rcases key k z hz with ⟨e3,e4⟩ | ⟨Dw,gz⟩
      ·exact absurd (e1.trans e3.symm) hn
      ·rw [e2];exact mR (c5 _ (h.fu k z hk gz h1)).1
     ·rcases key k z hz with ⟨e3,e4⟩ | ⟨Dw,gz⟩
      ·rw [e4];exact (c5 _ (h.fu j y hj gy h0)).1
      ·exact h.uu j k y z hj hk hn gy gz h0 h1
    ·intro y hy
     rcases key 0 y hy with ⟨e,_⟩ | ⟨_,hy⟩
     ·omega
     ·exact h.im y hy
theorem SI.qf {fr en:Int} {l:List eY} {fl:List Xt} (h:SI fr en l fl) (i:Int):SI fr en (bL fr en l fl i).1 (bL fr en l fl i).2.1∧(bL fr en l fl i).2.1.length≤fl.length+1∧((bL fr en l fl i).2.2=0→tK fr en fl (ah l i).2.1 (ah l i).2.2=some (bL fr en l fl i).2.1):=by
 unfold bL
 split
 ·exact ⟨h,Nat.le_succ _,fun h=>by cases h⟩
 ·rename_i hi
  have hi:1≤i∧i<l.length:=by rw [←cg];simpa using hi
  split
  ·exact ⟨h,Nat.le_succ _,fun h=>by cases h⟩
  ·rename_i h0
   split
   ·exact ⟨h,Nat.le_succ _,fun h=>by cases h⟩
   ·rename_i h1
    have hx:=jr (l:=l) (i:=i) (by omega) hi.2
    have zj:=h.cr _ _ hx
    generalize P6:ah l i=x at *
    have qX:=h.ux _ x (by omega) hx (by omega)
    obtain ⟨tL,g1,g2,g3,g4,g5⟩:=zm h.DJ h.fx h.pw qX (h.fu _ x (by omega) hx (by omega))
    rw [g1]
    simp only [Option.getD_some]
    have key:∀(j:Nat) (y:eY),(l.set i.toNat ((0,0,-1,cO x.1.2.2.2),(0,0)))[j]?=some y→(j=i.toNat∧y=((0,0,-1,cO x.1.2.2.2),(0,0)))∨(j≠i.toNat∧l[j]?=some y):=by
     intro j y hy
     exact getSet hy
    refine ⟨⟨h.DJ,by simpa using h.len,g2,g3,?_,?_,?_,?_,?_⟩,g5,fun _=>by simp⟩
    ·intro j y hy
     rcases key j y hy with ⟨rfl,rfl⟩ | ⟨hj,hy⟩
     ·have:=r_ (e:=x.1.2.2.2)
      unfold bc
      simp [bG,this]
     ·exact h.cr j y hy
    ·intro j y hj hy h0
     rcases key j y hy with ⟨rfl,rfl⟩ | ⟨M3,hy⟩
     ·exact absurd rfl h0
     ·exact h.ux j y hj hy h0
    ·intro j y hj hy h0 w hw
     rcases key j y hy with ⟨rfl,rfl⟩ | ⟨M3,hy⟩
     ·exact absurd rfl h0
     ·have hy2:=h.ux j y hj hy h0
      unfold lQ at hy2
      exact g4 _ (by omega) (h.uu _ _ _ _ hj (by omega) M3 hy hx h0 (by omega)) (h.fu j y hj hy h0) w hw
    ·intro j k y z hj hk hn hy hz h0 h1
     rcases key j y hy with ⟨rfl,rfl⟩ | ⟨M3,hy⟩
     ·exact absurd rfl h0
     ·rcases key k z hz with ⟨rfl,rfl⟩ | ⟨Dw,hz⟩
      ·exact absurd rfl h1
      ·exact h.uu j k y z hj hk hn hy hz h0 h1
    ·intro y hy
     rcases key 0 y hy with ⟨e,_⟩ | ⟨_,hy⟩
     ·omega
     ·exact h.im y hy
end Go.jG
namespace Go.Proofs.YtihiooaimdoapaaGreat
open Go.Bm Go.jG
def mH (r1:T1) (r2:T2) (r3:T3) (r4:T4) (sc:Nat) (fr en:Int) (l:List eY) (fl:List Xt):Prop:=∃j gr,r1[sc]?=some (some j,some gr)∧aE r3 j=some l∧oC r2 r4 gr fr en fl
theorem uZ {d x:eY} {l:List eY} {i:Int} {f:eY→eY} (h:f (nth d l (nN i))=x):aw d l (nN i) f=l.set i.toNat x:=by
 unfold aw aT;rw [h];rfl
theorem Tl {l:List eY} (f i:Int) (hl:l.length≤1000):within i f (aK IntKind.i64 (zN (len l)) 1)=lz l f i:=by
 rw [cz,bt,aL (by omega)];rfl
theorem oT {r1:T1} {r2:T2} {r3:T3} {r4:T4} {sc:Nat} {fr en:Int} {l:List eY} {fl:List Xt} (h:mH r1 r2 r3 r4 sc fr en l fl) (i:Int) (hl:l.length≤1000) :
  g.b0 sc i r1 r2 r3 r4=some (((j9 l i).1,((j9 l i).2,())),()):=by
 obtain ⟨j,gr,h1,h3,_⟩:=h
 have e1:∀d,nth d r1 sc=(some j,some gr):=fun d=>bj h1
 have hw:=Tl 0 i hl
 unfold g.b0 j9
 simp only [e1]
 repeat refine HS ?_
 cases hb:lz l 0 i with
 | false=>
  refine Eq.trans (uH (hw.trans hb)) ?_
  rfl
 | true=>
  refine Eq.trans (oA (hw.trans hb)) ?_
  rw [cg] at hb
  repeat refine HS ?_
  rfl
theorem AE {r1:T1} {r2:T2} {r3:T3} {r4:T4} {sc:Nat} {fr en:Int} {l:List eY} {fl:List Xt} (h:mH r1 r2 r3 r4 sc fr en l fl) (i:Int) (hl:l.length≤1000) :
  g.gD sc i r1 r2 r3 r4=some (((oU l i).1,((oU l i).2,())),()):=by
 obtain ⟨j,gr,h1,h3,_⟩:=h
 have e1:∀d,nth d r1 sc=(some j,some gr):=fun d=>bj h1
 have hw:=Tl 0 i hl
 unfold g.gD oU
 simp only [e1]
 repeat refine HS ?_
 cases hb:lz l 0 i with
 | false=>
  refine Eq.trans (uH (hw.trans hb)) ?_
  rfl
 | true=>
  refine Eq.trans (oA (hw.trans hb)) ?_
  rw [cg] at hb
  repeat refine HS ?_
  rfl
theorem mH.put {r1:T1} {r2:T2} {r3:T3} {r4:T4} {sc:Nat} {fr en:Int} {l l':List eY} {fl:List Xt} {j gr:Nat} (h1:r1[sc]?=some (some j,some gr)) (h3:aE r3 j=some l) (hg:oC r2 r4 gr fr en fl):mH r1 r2 (aT r3 j (some l')) r4 sc fr en l' fl:=
 ⟨j,gr,h1,aB h3,hg⟩
theorem CR {r1:T1} {r2:T2} {r3:T3} {r4:T4} {sc:Nat} {fr en:Int} {l:List eY} {fl:List Xt} (h:mH r1 r2 r3 r4 sc fr en l fl) (i f:Int) (hl:l.length≤1000) :
  ∃A7,g.gU sc i f r1 r2 r4 r3=some (((cZ l i (fun c=>b_ c f)).2,()),(A7,()))∧mH r1 r2 A7 r4 sc fr en (cZ l i (fun c=>b_ c f)).1 fl:=by
 have h':=h
 obtain ⟨j,gr,h1,h3,hg⟩:=h
 have e1:∀d,nth d r1 sc=(some j,some gr):=fun d=>bj h1
 have hw:=Tl 1 i hl
 unfold g.gU cZ
 simp only [e1]
 cases hb:lz l 1 i with
 | false=>
  refine ⟨r3,?_,h'⟩
  repeat refine HS ?_
  refine Eq.trans (uH (hw.trans hb)) ?_
  rfl
 | true=>
  have vW:=cg.1 hb
  by_cases h0:(b_ (ah l i).1 f).2=0
  ·refine ⟨aT r3 j (some (l.set i.toNat ((b_ (ah l i).1 f).1,(ah l i).2))),?_,?_⟩
   rotate_left
   ·rw [if_pos rfl,if_pos h0];exact mH.put h1 h3 hg
   ·repeat refine HS ?_
    refine Eq.trans (oA (hw.trans hb)) ?_
    repeat refine HS ?_
    refine nL (uj (ah l i).1 f) ?_
    refine Eq.trans (ao h0) ?_
    repeat refine HS ?_
    rw [if_pos rfl,if_pos h0,uZ (x:=((b_ (ah l i).1 f).1,(ah l i).2)) rfl]
    simp only [h0]
  ·refine ⟨r3,?_,?_⟩
   rotate_left
   ·rw [if_pos rfl,if_neg h0];exact h'
   ·repeat refine HS ?_
    refine Eq.trans (oA (hw.trans hb)) ?_
    repeat refine HS ?_
    refine nL (uj (ah l i).1 f) ?_
    refine Eq.trans (au h0) ?_
    rw [if_pos rfl,if_neg h0]
theorem FQ {r1:T1} {r2:T2} {r3:T3} {r4:T4} {sc:Nat} {fr en:Int} {l:List eY} {fl:List Xt} (h:mH r1 r2 r3 r4 sc fr en l fl) (i:Int) (hl:l.length≤1000) :
  ∃A7,g.eZ sc i r1 r2 r4 r3=some (((cZ l i dZ).2,()),(A7,()))∧mH r1 r2 A7 r4 sc fr en (cZ l i dZ).1 fl:=by
 have h':=h
 obtain ⟨j,gr,h1,h3,hg⟩:=h
 have e1:∀d,nth d r1 sc=(some j,some gr):=fun d=>bj h1
 have hw:=Tl 1 i hl
 unfold g.eZ cZ
 simp only [e1]
 cases hb:lz l 1 i with
 | false=>
  refine ⟨r3,?_,h'⟩
  repeat refine HS ?_
  refine Eq.trans (uH (hw.trans hb)) ?_
  rfl
 | true=>
  have vW:=cg.1 hb
  by_cases h0:(dZ (ah l i).1).2=0
  ·refine ⟨aT r3 j (some (l.set i.toNat ((dZ (ah l i).1).1,(ah l i).2))),?_,?_⟩
   rotate_left
   ·rw [if_pos rfl,if_pos h0];exact mH.put h1 h3 hg
   ·repeat refine HS ?_
    refine Eq.trans (oA (hw.trans hb)) ?_
    repeat refine HS ?_
    refine nL (wy (ah l i).1) ?_
    refine Eq.trans (ao h0) ?_
    repeat refine HS ?_
    rw [if_pos rfl,if_pos h0,uZ (x:=((dZ (ah l i).1).1,(ah l i).2)) rfl]
    simp only [h0]
  ·refine ⟨r3,?_,?_⟩
   rotate_left
   ·rw [if_pos rfl,if_neg h0];exact h'
   ·repeat refine HS ?_
    refine Eq.trans (oA (hw.trans hb)) ?_
    repeat refine HS ?_
    refine nL (wy (ah l i).1) ?_
    refine Eq.trans (au h0) ?_
    rw [if_pos rfl,if_neg h0]
theorem CQ {r1:T1} {r2:T2} {r3:T3} {r4:T4} {sc:Nat} {fr en:Int} {l:List eY} {fl:List Xt} (h:mH r1 r2 r3 r4 sc fr en l fl) (i:Int) (hl:l.length≤1000) :
  ∃A7,g.dD sc i r1 r2 r4 r3=some (((iW l i).2.1,((iW l i).2.2,())),(A7,()))∧mH r1 r2 A7 r4 sc fr en (iW l i).1 fl:=by
 have h':=h
 obtain ⟨j,gr,h1,h3,hg⟩:=h
 have e1:∀d,nth d r1 sc=(some j,some gr):=fun d=>bj h1
 have hw:=Tl 1 i hl
 unfold g.dD
 simp only [e1]
 cases hb:lz l 1 i with
 | false=>
  have e:iW l i=(l,false,11):=by unfold iW cZ;rw [hb];rfl
  rw [e]
  refine ⟨r3,?_,h'⟩
  repeat refine HS ?_
  refine Eq.trans (uH (hw.trans hb)) ?_
  rfl
 | true=>
  have vW:=cg.1 hb
  by_cases h0:(bC (ah l i).1).2=0
  ·have eu:cZ l i bC=(l.set i.toNat ((bC (ah l i).1).1,(ah l i).2),0):=by unfold cZ;rw [hb,if_pos rfl,if_pos h0]
   have e:iW l i=(l.set i.toNat ((bC (ah l i).1).1,(ah l i).2),decide ((bC (ah l i).1).1.1=3),0):=by
    unfold iW
    rw [eu,if_pos rfl]
    have:ah (l.set i.toNat ((bC (ah l i).1).1,(ah l i).2)) i=((bC (ah l i).1).1,(ah l i).2):=by
     have hi:i=((i.toNat:Nat):Int):=by omega
     conv=>lhs;arg 2;rw [hi]
     exact ma (by rw [List.getElem?_set,if_pos rfl,if_pos (by omega)])
    simp only [this]
   rw [e]
   refine ⟨_,?_,mH.put h1 h3 hg⟩
   have h4:aE (aT r3 j (some (l.set i.toNat ((bC (ah l i).1).1,(ah l i).2)))) j=some (l.set i.toNat ((bC (ah l i).1).1,(ah l i).2)):=aB h3
   repeat refine HS ?_
   refine Eq.trans (oA (hw.trans hb)) ?_
   repeat refine HS ?_
   refine nL (ui (ah l i).1) ?_
   refine Eq.trans (ao h0) ?_
   repeat refine HS ?_
   try refine Eq.trans (ao h0) ?_
   rw [uZ (x:=((bC (ah l i).1).1,(ah l i).2)) rfl]
   have hlen:(l.set i.toNat ((bC (ah l i).1).1,(ah l i).2)).length=l.length:=zM
   repeat refine HS ?_
   have hn:nth ((0,(0,(0,0))),(0,0)) (l.set i.toNat ((bC (ah l i).1).1,(ah l i).2)) (nN i)=((bC (ah l i).1).1,(ah l i).2):=bj (by show (l.set i.toNat _)[i.toNat]?=_;rw [List.getElem?_set,if_pos rfl,if_pos (by omega)])
   rw [hn]
   rfl
  ·have eu:cZ l i bC=(l,(bC (ah l i).1).2):=by unfold cZ;rw [hb,if_pos rfl,if_neg h0]
   have e:iW l i=(l,false,(bC (ah l i).1).2):=by
    unfold iW
    rw [eu,if_neg h0]
   rw [e]
   refine ⟨r3,?_,h'⟩
   repeat refine HS ?_
   refine Eq.trans (oA (hw.trans hb)) ?_
   repeat refine HS ?_
   refine nL (ui (ah l i).1) ?_
   refine Eq.trans (au h0) ?_
   repeat refine HS ?_
   try refine Eq.trans (au h0) ?_
   rfl
theorem pE (d1:T3) (l:List eY) (j:Nat) (v2) (hj:aE d1 j=some l) (hl:l.length≤1000) :
  loop (g.dS d1 l j v2) ((0,()),((),((),((),()))))=v2 (((match iq l with | some i=>(i:Int) | none=>-1),()),((),((),((),())))):=by
 refine (dN (fun k=>((((k:Nat):Int),()),((),((),((),()))))) (fun k=>v2 (((match iq (l.drop k) with | some i=>((k+i:Nat):Int) | none=>-1),()),((),((),((),()))))) l.length (by unfold lD;omega) (fun K=>?_) (fun k hk=>?_)).trans ?_
 ·simp (disch:=omega) only [g.dS,↓bY,↓bX,↓b6,↓b7,↓b9,↓b8,zE,aX,a6,aY,a_,ao,au,bD,a7,aO,a8,ba,bh,↓cJ,aH,aL,aZ,bM,bS,aS,a9,cz,bt,cK,cH,aU,aG]
  rw [List.drop_of_length_le (by omega)]
  rfl
 ·rw [BJ l k hk]
  have e:nth ((0,(0,(0,0))),(0,0)) l k=l[k]:=gA hk
  by_cases he:l[k].1.1=0
  ·refine .inl (fun K=>?_)
   simp (disch:=omega) only [g.dS,↓bY,↓bX,↓b6,↓b7,↓b9,↓b8,zE,aX,a6,aY,a_,ao,au,bD,a7,aO,a8,ba,bh,↓cJ,aH,aL,aZ,bM,bS,aS,a9,cz,bt,cK,cH,aU,aG,hj,e]
   rw [if_pos he];rfl
  ·refine .inr ⟨?_,fun K=>?_⟩
   ·rw [if_neg he]
    cases iq (l.drop (k+1)) with
    | none=>rfl
    | some i=>simp only [Option.map_some];congr 3;omega
   ·simp (disch:=omega) only [g.dS,↓bY,↓bX,↓b6,↓b7,↓b9,↓b8,zE,aX,a6,aY,a_,ao,au,bD,a7,aO,a8,ba,bh,↓cJ,aH,aL,aZ,bM,bS,aS,a9,cz,bt,cK,cH,aU,aG,hj,e]
    rfl
 ·simp
theorem N5 {r2:T2} {r4:T4} {gr:Nat} {fr en:Int} {l:List Xt} (h:oC r2 r4 gr fr en l) {n:Int} (hn:1≤n∧n≤65536∧n%8=0) (hx:∀x∈l,lx x) (hl:l.length≤10000) :
  (jF l n=none∧g.dh gr n r2 r4=some ((0,(false,())),(r2,(r4,()))))∨∃a l' mD mC,jF l n=some (a,l')∧g.dh gr n r2 r4=some ((a,(true,())),(mD,(mC,())))∧oC mD mC gr fr en l':=by
 unfold jF
 cases hb:jh l n with
 | none=>exact .inl ⟨rfl,Ec h hn hl hb⟩
 | some i=>
  obtain ⟨mD,mC,k1,k2⟩:=Eb h hn hx hl hb
  exact .inr ⟨_,_,mD,mC,rfl,k1,k2⟩
theorem AF {r1:T1} {r2:T2} {r3:T3} {r4:T4} {sc:Nat} {fr en:Int} {l:List eY} {fl:List Xt} (h:mH r1 r2 r3 r4 sc fr en l fl) (n:Int) (hx:∀x∈fl,lx x) (xY:fl.length≤10000) (hl:l.length≤1000) :
  ∃mD A7 mC,g.gE sc n r1 r2 r3 r4=some (((bW l fl n).2.2.1,((bW l fl n).2.2.2,())),(mD,(A7,(mC,()))))∧mH r1 mD A7 mC sc fr en (bW l fl n).1 (bW l fl n).2.1:=by
 have h':=h
 obtain ⟨j,gr,h1,h3,hg⟩:=h
 have e1:∀d,nth d r1 sc=(some j,some gr):=fun d=>bj h1
 unfold g.gE bW
 simp only [e1]
 cases hw:within n 1 8192 with
 | false=>
  refine ⟨r2,r3,r4,?_,h'⟩
  repeat refine HS ?_
  try refine Eq.trans (uH hw) ?_
  rfl
 | true=>
  have hn:=bG.1 hw
  have hu:=HM hn
  simp only [Bool.true_eq_false,if_false]
  cases hf:iq l with
  | none=>
   refine ⟨r2,r3,r4,?_,h'⟩
   repeat refine HS ?_
   try refine Eq.trans (oA hw) ?_
   repeat refine HS ?_
   refine Eq.trans (pE r3 l j _ h3 hl) ?_
   rw [hf]
   repeat refine HS ?_
   rfl
  | some i=>
   obtain ⟨x,P6,_⟩:=jC hf
   have hi:=(zB.1 P6).1
   have hc:=N5 hg (n:=rC n) (by omega) hx xY
   rcases hc with ⟨k1,k2⟩ | ⟨a,tL,mD,mC,k1,k2,k3⟩
   ·rw [k1]
    refine ⟨r2,r3,r4,?_,h'⟩
    repeat refine HS ?_
    try refine Eq.trans (oA hw) ?_
    repeat refine HS ?_
    refine Eq.trans (pE r3 l j _ h3 hl) ?_
    rw [hf]
    repeat refine HS ?_
    refine nL (vG (by omega)) ?_
    repeat refine HS ?_
    rfl
   ·rw [k1]
    simp only
    refine ⟨mD,aT r3 j (some (l.set i ((1,(ah l i).1.2),(a,rC n)))),mC,?_,⟨j,gr,h1,aB h3,k3⟩⟩
    have hq:aE (aT r3 j (some (aw ((0,(0,(0,0))),(0,0)) l (nN (i:Int)) (fun iR=>((1,iR.1.2),iR.2))))) j=some (aw ((0,(0,(0,0))),(0,0)) l (nN (i:Int)) (fun iR=>((1,iR.1.2),iR.2))):=aB h3
    repeat refine HS ?_
    try refine Eq.trans (oA hw) ?_
    repeat refine HS ?_
    refine Eq.trans (pE r3 l j _ h3 hl) ?_
    rw [hf]
    dsimp only
    repeat refine HS ?_
    refine nL (vG (by omega)) ?_
    repeat refine HS ?_
    refine Eq.trans (aX (by
     show ((i:Nat):Int)<((List.set l _ _).length:Int)
     rw [zM];omega)) ?_
    repeat refine HS ?_
    have e2:aw ((0,(0,(0,0))),(0,0)) (aw ((0,(0,(0,0))),(0,0)) l (nN (i:Int)) (fun iR=>((1,iR.1.2),iR.2))) (nN (i:Int)) (fun qB=>(qB.1,(a,rC n)))=l.set i ((1,(ah l i).1.2),(a,rC n)):=by
     have e3:nN (i:Int)=i:=rfl
     unfold aw
     rw [e3,rY hi]
     simp only [aT,List.set_set]
     rfl
    have e4:∀x y:Option (List eY),aT (aT r3 j x) j y=aT r3 j y:=fun x y=>by simp only [aT,List.set_set]
    rw [e4]
    exact congrArg (fun z=>some ((((i:Int)),((0:Int),())),(mD,(aT r3 j (some z),(mC,()))))) e2
theorem yt {r1:T1} {r2:T2} {r3:T3} {r4:T4} {sc:Nat} {fr en:Int} {l:List eY} {fl:List Xt} (h:mH r1 r2 r3 r4 sc fr en l fl) (hs:SI fr en l fl) (i:Int) (xY:fl.length≤10000) :
  ∃mD A7 mC,g.gn sc i r1 r2 r3 r4=some (((bL fr en l fl i).2.2,()),(mD,(A7,(mC,()))))∧mH r1 mD A7 mC sc fr en (bL fr en l fl i).1 (bL fr en l fl i).2.1:=by
 have h':=h
 have hl:=hs.len.2
 have M4:=(hs.qf i).2.2
 obtain ⟨j,gr,h1,h3,hg⟩:=h
 have e1:∀d,nth d r1 sc=(some j,some gr):=fun d=>bj h1
 have hw:=Tl 1 i (by omega:l.length≤1000)
 unfold g.gn
 unfold bL at M4 ⊢
 simp only [e1]
 cases hb:lz l 1 i with
 | false=>
  refine ⟨r2,r3,r4,?_,h'⟩
  repeat refine HS ?_
  refine Eq.trans (uH (hw.trans hb)) ?_
  repeat refine HS ?_
  rfl
 | true=>
  have vW:=cg.1 hb
  rw [hb] at M4
  simp only [Bool.true_eq_false,if_false] at M4 ⊢
  by_cases h0:(ah l i).1.1=0
  ·rw [if_pos h0]
   refine ⟨r2,r3,r4,?_,h'⟩
   repeat refine HS ?_
   refine Eq.trans (oA (hw.trans hb)) ?_
   repeat refine HS ?_
   refine Eq.trans (ao h0) ?_
   rfl
  ·rw [if_neg h0] at M4 ⊢
   by_cases h2:(ah l i).1.1=1
   ·rw [if_neg (by simpa using h2)] at M4 ⊢
    obtain ⟨flg,g1,_⟩:=zm hs.DJ hs.fx hs.pw (hs.ux i.toNat (ah l i) (by omega) (jr (by omega) vW.2) h0) (hs.fu i.toNat (ah l i) (by omega) (jr (by omega) vW.2) h0)
    clear M4
    rw [g1]
    simp only [Option.getD_some]
    have hx:=hs.ux i.toNat (ah l i) (by omega) (jr (by omega) vW.2) h0
    unfold lQ at hx
    have mF:=hs.DJ
    have aeI:=SX hg (by omega) (a:=(ah l i).2.1) (n:=(ah l i).2.2) (by omega) (by omega) (fun x hx=>(hs.fx x hx).ok hs.DJ) xY g1
    obtain ⟨mD,mC,k1,k2⟩:=aeI
    refine ⟨mD,aT r3 j (some (l.set i.toNat ((0,0,-1,cO (ah l i).1.2.2.2),(0,0)))),mC,?_,⟨j,gr,h1,aB h3,k2⟩⟩
    repeat refine HS ?_
    refine Eq.trans (oA (hw.trans hb)) ?_
    repeat refine HS ?_
    refine Eq.trans (au h0) ?_
    repeat refine HS ?_
    refine Eq.trans (ao h2) ?_
    repeat refine HS ?_
    refine nL k1 ?_
    repeat refine HS ?_
    have hc:=hs.cr i.toNat (ah l i) (jr (by omega) vW.2)
    have he:bits BinOp.and IntKind.i64 (ae IntKind.i64 (nth ((0,(0,(0,0))),(0,0)) l (nN i)).1.2.2.2 1) 16777215=cO (ah l i).1.2.2.2:=by
     have hr:0≤(ah l i).1.2.2.2∧(ah l i).1.2.2.2≤16777215:=by
      unfold bc at hc
      simp only [zC,bG] at hc
      exact hc.1
     show bits BinOp.and IntKind.i64 (ae IntKind.i64 (ah l i).1.2.2.2 1) 16777215=_
     rw [aH (by omega),lY 24 (by omega) (by decide)]
     rfl
    rw [he]
    rfl
   ·rw [if_pos (by simpa using h2)]
    refine ⟨r2,r3,r4,?_,h'⟩
    repeat refine HS ?_
    refine Eq.trans (oA (hw.trans hb)) ?_
    repeat refine HS ?_
    refine Eq.trans (au h0) ?_
    repeat refine HS ?_
    refine Eq.trans (au h2) ?_
    rfl
end Go.Proofs.YtihiooaimdoapaaGreat
namespace Go.jG
open Go.Bm
structure ku where
 ref:jl
 tag:Int
 bg:List Int
 done:Bool
structure mz where
 used:Int
 gate:Int
 a5:List ku
structure Aw where
 cP:List Int
 aF:List cW
structure M where
 p:rA
 f:List (List iw)
 sc:List eY
 fl:List Xt
 ar:List mz
 th:List Aw
def uI:mz:=⟨0,0,[]⟩
def M.fr (m:M):Int:=m.p.1*64+m.p.2.2.1
def M.en (m:M):Int:=m.p.1*64+m.p.2.2.1+m.p.2.2.2
def M.bA (m:M) (i:Int):mz:=m.ar.getD i.toNat uI
def M.aA (m:M) (i:Int):Aw:=m.th.getD i.toNat ⟨[],[]⟩
def M.dm (m:M) (i:Int) (a:mz):M:={ m with ar:=m.ar.set i.toNat a }
def M.fS (m:M) (i:Int) (t:Aw):M:={ m with th:=m.th.set i.toNat t }
def M.cT (m:M) (n r:Int):Int:=(m.aA n).cP.getD r.toNat 0
def M.hJ (m:M) (n r v:Int):M:=m.fS n ⟨(m.aA n).cP.set r.toNat v,(m.aA n).aF⟩
def M.dy (m:M) (n:Int) (l:List cW):M:=m.fS n ⟨(m.aA n).cP,l⟩
def M.find (m:M) (r:jl):Option ku:=(m.bA r.1).a5.find? fun o=>decide (o.ref=r)
def M.check (m:M) (aF:List cW) (h:Int):Option ku×Int:=
 if (ay h).2≠0∨m.p.1≤(ay h).1.1 then (none,18)
 else if reach aF (ay h).1.1=false then (none,20)
 else if (j9 m.sc (ay h).1.1).1.2.2.2≠(ay h).1.2.1 then (none,19)
 else match m.find (ay h).1 with
  | none=>(none,18)
  | some o=>(some o,0)
def M.setObj (m:M) (r:jl) (g:ku→ku):M:={ m with ar:=m.ar.map fun a=>{ a with a5:=a.a5.map fun o=>if o.ref=r then g o else o } }
def dW (f:List (List iw)) (t:Int):List iw:=if 0≤t then f.getD t.toNat [] else []
def eP (f:List (List iw)) (o:ku):ku×List Int×Int×Bool:=
 if o.done=true∨dW f o.tag=[] then (o,[],0,false)
 else ({ o with bg:=(fJ (dW f o.tag) o.bg).1,done:=true },(fJ (dW f o.tag) o.bg).2.1,1,(fJ (dW f o.tag) o.bg).2.2.1)
def bQ (f:List (List iw)):List ku→List ku×List Int×Int×Bool
 | []=>([],[],0,false)
 | o::l=>((eP f o).1::(bQ f l).1,(bQ f l).2.1++(eP f o).2.1,(bQ f l).2.2.1+(eP f o).2.2.1,(bQ f l).2.2.2 || (eP f o).2.2.2)
def push (l:List cW) (e:cW):List cW×Int:=if 6≤l.length then ([],24) else (l++[e],0)
abbrev Out:=M×LF
def M.code (m:M) (e:Int):Out:=(m,(e,0,[]))
def M.Qm (m:M) (n r v:Int):Out:=(m.hJ n r v,(0,kQ .i64 v,[]))
def M.put (m:M) (aF:List cW) (v:Int) (scope:Int) (to:M):Out:=
 if v=0 then to.code 0
 else if (m.check aF v).2≠0 then m.code (m.check aF v).2
 else match (m.check aF v).1 with
  | none=>m.code 18
  | some o=>if pO aF o.ref.1 scope=false then m.code 22 else to.code 0
def M.enter (m:M) (n a:Int):Out:=
 if within a 1 (m.p.1-1)=false then m.code 11
 else if (push (m.aA n).aF (a,true)).2≠0 then m.code (push (m.aA n).aF (a,true)).2
 else if (cZ m.sc a (fun c=>b_ c (dE (m.aA n).aF))).2≠0 then m.code (cZ m.sc a (fun c=>b_ c (dE (m.aA n).aF))).2
 else M.code ({ m with sc:=(cZ m.sc a (fun c=>b_ c (dE (m.aA n).aF))).1 }.dy n (push (m.aA n).aF (a,true)).1) 0
def M.oj (m:M) (n a:Int):Out:=
 if within a 0 (m.p.1-1)=false then m.code 11
 else if reach (m.aA n).aF a=false then m.code 20
 else if (push (m.aA n).aF (a,false)).2≠0 then m.code (push (m.aA n).aF (a,false)).2
 else M.code (m.dy n (push (m.aA n).aF (a,false)).1) 0
def M.leave (m:M) (n s:Int) (l:List cW) (a:LF):Out:=
 if (iW m.sc s).2.1=true then (({ m with sc:=(cZ (iW m.sc s).1 s dZ).1 }.dm s uI).dy n l,a)
 else ({ m with sc:=(iW m.sc s).1 }.dy n l,a)
def M.exit (m:M) (n:Int):Out:=
 match (m.aA n).aF.getLast? with
 | none=>m.code 23
 | some x=>
  if x.2=false then M.code (m.dy n (m.aA n).aF.dropLast) 0
  else if (j9 m.sc x.1).1.2.1=1 then
   (if (bQ m.f (m.bA x.1).a5).2.2.2=true then
    (m.dm x.1 { m.bA x.1 with a5:=(bQ m.f (m.bA x.1).a5).1 },(25,(bQ m.f (m.bA x.1).a5).2.2.1,(bQ m.f (m.bA x.1).a5).2.1))
   else (m.dm x.1 { m.bA x.1 with a5:=(bQ m.f (m.bA x.1).a5).1 }).leave n x.1 (m.aA n).aF.dropLast (0,(bQ m.f (m.bA x.1).a5).2.2.1,(bQ m.f (m.bA x.1).a5).2.1))
  else m.leave n x.1 (m.aA n).aF.dropLast (0,0,[])
def M.tx (m:M) (n:Int):jl:=(dE (m.aA n).aF,(j9 m.sc (dE (m.aA n).aF)).1.2.2.2,(oU m.sc (dE (m.aA n).aF)).1.1+(m.bA (dE (m.aA n).aF)).used)
def M.alloc (m:M) (n r a b c:Int):Out:=
 if (bn a b).2≠0∨within c 0 7=false then m.code 1
 else if (oU m.sc (dE (m.aA n).aF)).1.2<(m.bA (dE (m.aA n).aF)).used+(bn a b).1*8 then m.code 17
 else (m.dm (dE (m.aA n).aF) ⟨(m.bA (dE (m.aA n).aF)).used+(bn a b).1*8,(m.bA (dE (m.aA n).aF)).gate,
   (m.bA (dE (m.aA n).aF)).a5++[⟨m.tx n,c,List.replicate a.toNat 0,false⟩]⟩).Qm n r (jf (m.tx n)).1
def M.load (m:M) (n r h b:Int):Out:=
 if (m.check (m.aA n).aF (m.cT n h)).2≠0 then m.code (m.check (m.aA n).aF (m.cT n h)).2
 else match (m.check (m.aA n).aF (m.cT n h)).1 with
  | none=>m.code 18
  | some o=>if within b 0 ((o.bg.length:Int)-1)=false then m.code 21 else m.Qm n r (o.bg.getD b.toNat 0)
def M.store (m:M) (n h v b:Int):Out:=
 if (m.check (m.aA n).aF (m.cT n h)).2≠0 then m.code (m.check (m.aA n).aF (m.cT n h)).2
 else match (m.check (m.aA n).aF (m.cT n h)).1 with
  | none=>m.code 18
  | some o=>if within b 0 ((o.bg.length:Int)-1)=false then m.code 21
   else m.put (m.aA n).aF (m.cT n v) o.ref.1 (m.setObj o.ref fun o=>{ o with bg:=o.bg.set b.toNat (m.cT n v) })
def M.fX (m:M) (n r a:Int):Out:=
 if within a 1 (m.p.1-1)=false then m.code 11
 else if reach (m.aA n).aF a=false then m.code 20
 else m.Qm n r (m.bA a).gate
def M.gate (m:M) (n v a:Int):Out:=
 if within a 1 (m.p.1-1)=false then m.code 11
 else if reach (m.aA n).aF a=false then m.code 20
 else m.put (m.aA n).aF (m.cT n v) a (m.dm a { m.bA a with gate:=m.cT n v })
def M.act (m:M) (n:Int):qm→Out
 | (op,r,h,v,a,b,c)=>
  if op=0 then m.code 0
  else if op=1 then M.code (m.hJ n r (kQ .u64 a)) 0
  else if op=2 then ({ m with sc:=(bW m.sc m.fl a).1,fl:=(bW m.sc m.fl a).2.1 },((bW m.sc m.fl a).2.2.2,(bW m.sc m.fl a).2.2.1,[]))
  else if op=3 then M.code { m with sc:=(bL m.fr m.en m.sc m.fl a).1,fl:=(bL m.fr m.en m.sc m.fl a).2.1 } (bL m.fr m.en m.sc m.fl a).2.2
  else if op=4 then m.enter n a
  else if op=5 then m.exit n
  else if op=6 then m.oj n a
  else if op=7 then m.alloc n r a b c
  else if op=8 then m.load n r h b
  else if op=9 then m.store n h v b
  else if op=10 then m.fX n r a
  else if op=11 then m.gate n v a
  else m.code 1
def rP (c:qm):List Int:=
 if c.1=1∨c.1=7∨c.1=10 then [c.2.1] else if c.1=8 then [c.2.1,c.2.2.1] else if c.1=9 then [c.2.2.1,c.2.2.2.1] else if c.1=11 then [c.2.2.2.1] else []
def cC (c:qm):Bool:=(rP c).all fun r=>decide (r<4)
def M.step (m:M) (n:Int) (c:qm):M×LF×Int:=
 if within n 0 ((m.th.length:Int)-1)=false then (m,(0,0,[]),2)
 else if cC c=false then (m,(1,0,[]),0)
 else ((m.act n c).1,(m.act n c).2,0)
def M.new (p:rA) (f:List (List iw)):M:=
  { p:=p,f:=f,sc:=((2,1,-1,0),(p.1*64,p.2.2.1))::List.replicate (p.1-1).toNat ((0,0,-1,0),(0,0)),
    fl:=if 0<p.2.2.2 then [(p.1*64+p.2.2.1,p.2.2.2)] else [],ar:=List.replicate p.1.toNat uI,th:=List.replicate p.2.1.toNat ⟨[0,0,0,0],[]⟩ }
open Go.Bm
def u64 (v:Int):Prop:=0≤v∧v≤18446744073709551615
def CI (l:List cW):Prop:=∀(A B:List cW) (s:Int),l=A++(s,false)::B→s=0∨(s,true)∈A
structure tQ (p:rA) (l:List cW):Prop where
 len:l.length≤6
 PN:∀e∈l,0≤e.1∧e.1<p.1∧(e.2=true→1≤e.1)
 CI:CI l
def QN (p:rA) (t:Aw):Prop:=t.cP.length=4∧(∀v∈t.cP,u64 v)∧tQ p t.aF
theorem u_ {α:Type} {l A B:List α} {e x:α} (h:l++[e]=A++x::B):(B=[]∧e=x∧l=A)∨∃B',B=B'++[e]∧l=A++x::B':=by
 rcases List.eq_nil_or_concat B with rfl | ⟨B',y,rfl⟩
 ·have:=List.append_inj' h rfl
  exact .inl ⟨rfl,by simpa using this.2,this.1⟩
 ·rw [List.concat_eq_append] at *
  have h2:l++[e]=(A++x::B')++[y]:=by simpa using h
  have:=List.append_inj' h2 rfl
  refine .inr ⟨B',?_,this.1⟩
  have e2:e=y:=by simpa using this.2
  rw [e2]
theorem CI.C6 {l:List cW} (h:CI l) (s:Int):CI (l++[(s,true)]):=by
 intro A B q e
 rcases u_ e with ⟨_,e2,_⟩ | ⟨B',_,e2⟩
 ·cases e2
 ·exact h A B' q e2
theorem ya:∀{l:List cW} {s:Int},(kb l s).isSome=true↔(s,true)∈l
 | [],s=>by simp [kb]
 | e::l,s=>by
  unfold kb
  split
  ·rename_i h;subst h;simp
  ·rename_i h
   rw [Option.isSome_map,ya]
   simp only [List.mem_cons]
   exact ⟨.inr,fun h2=>h2.elim (fun h3=>absurd h3.symm h) id⟩
theorem xI {l:List cW} {s:Int}:reach l s=true↔s=0∨(s,true)∈l:=by
 unfold reach
 rw [Bool.or_eq_true,ya,decide_eq_true_eq]
theorem CI.C7 {l:List cW} (h:CI l) {s:Int} (hs:reach l s=true):CI (l++[(s,false)]):=by
 intro A B q e
 rcases u_ e with ⟨_,e2,e3⟩ | ⟨B',_,e2⟩
 ·obtain rfl:s=q:=by cases e2;rfl
  rw [←e3];exact xI.1 hs
 ·exact h A B' q e2
theorem CI.drop {l:List cW} (h:CI l):CI l.dropLast:=by
 rcases List.eq_nil_or_concat l with rfl | ⟨l',y,rfl⟩
 ·exact h
 ·rw [List.concat_eq_append] at *
  rw [List.dropLast_concat]
  intro A B q e
  exact h A (B++[y]) q (by rw [e];simp)
theorem tQ.C6 {p:rA} {l:List cW} (h:tQ p l) {s:Int} (hl:l.length<6) (hs:1≤s∧s<p.1):tQ p (l++[(s,true)]):=
 ⟨by simp;omega,fun e he=>by
  simp only [zX,zF] at he
  rcases he with he | rfl
  ·exact h.PN e he
  ·exact ⟨by show 0≤s;omega,hs.2,fun _=>hs.1⟩,h.CI.C6 s⟩
theorem tQ.C7 {p:rA} {l:List cW} (h:tQ p l) {s:Int} (hl:l.length<6) (hs:0≤s∧s<p.1) (hr:reach l s=true):tQ p (l++[(s,false)]):=
 ⟨by simp;omega,fun e he=>by
  simp only [zX,zF] at he
  rcases he with he | rfl
  ·exact h.PN e he
  ·exact ⟨hs.1,hs.2,fun h=>by cases h⟩,h.CI.C7 hr⟩
theorem tQ.drop {p:rA} {l:List cW} (h:tQ p l):tQ p l.dropLast:=
 ⟨by have:=h.len;simp;omega,fun e he=>h.PN e (List.dropLast_subset l he),h.CI.drop⟩
def Bj (x:eY) (i:Nat) (us:Int) (o:ku):Prop:=
 o.ref.1=i∧o.ref.2.1=x.1.2.2.2∧x.2.1≤o.ref.2.2∧o.ref.2.2+16≤x.2.1+us∧fj o.ref=true∧(0≤o.tag∧o.tag≤7)∧o.bg.length≤6∧∀v∈o.bg,u64 v
structure AI (x:eY) (i:Nat) (k:Nat) (a:mz):Prop where
 us:0≤a.used∧a.used%8=0∧a.used≤x.2.2
 ga:u64 a.gate
 ol:a.a5.length≤k
 ob:∀o∈a.a5,Bj x i a.used o
 od:a.a5.Pairwise fun o q=>o.ref.2.2<q.ref.2.2
 id:x.1.1≠2→a=uI
structure MI (k:Nat) (m:M):Prop where
 kk:k≤9000
 pr:dz m.p=true
 ff:m8 m.f
 si:SI m.fr m.en m.sc m.fl
 fk:m.fl.length≤k+1
 ls:(m.sc.length:Int)=m.p.1
 la:(m.ar.length:Int)=m.p.1
 lt:(m.th.length:Int)=m.p.2.1
 th:∀t∈m.th,QN m.p t
 ai:∀(i:Nat) (x:eY) (a:mz),m.sc[i]?=some x→m.ar[i]?=some a→AI x i k a
theorem AI.empty {x:eY} {i k:Nat} (h:0≤x.2.2):AI x i k uI:=by
 refine ⟨?_,?_,Nat.zero_le _,?_,List.Pairwise.nil,fun _=>rfl⟩
 ·simp [uI];exact h
 ·simp [uI,u64]
 ·intro o ho;cases ho
theorem AI.more {x:eY} {i k:Nat} {a:mz} (h:AI x i k a):AI x i (k+1) a:=⟨h.us,h.ga,Nat.le_succ_of_le h.ol,h.ob,h.od,h.id⟩
theorem MI.more {k:Nat} {m:M} (h:MI k m) (hk:k<9000):MI (k+1) m:=
 ⟨hk,h.pr,h.ff,h.si,by have:=h.fk;omega,h.ls,h.la,h.lt,h.th,fun i x a h1 h2=>(h.ai i x a h1 h2).more⟩
theorem MI.vI {k:Nat} {m:M} (h:MI k m):1≤m.p.1∧m.p.1≤8∧1≤m.p.2.1∧m.p.2.1≤4:=by
 have:=cL.1 h.pr;omega
theorem MI.xok {k:Nat} {m:M} (h:MI k m):∀x∈m.fl,lx x:=fun x hx=>(h.si.fx x hx).ok h.si.DJ
theorem MI.size {k:Nat} {m:M} (h:MI k m) {i:Nat} {x:eY} (hx:m.sc[i]?=some x) (h0:x.1.1≠0):0≤x.2.2∧8≤x.2.1∧x.2.1+x.2.2≤16384∧x.2.1%8=0:=by
 have hf:=h.si.DJ
 rcases Nat.eq_zero_or_pos i with rfl | hi
 ·have:=h.si.im x hx
  have h1:=cL.1 h.pr
  unfold M.fr at hf this
  omega
 ·have:=h.si.ux i x hi hx h0
  unfold lQ at this
  have:64≤m.fr:=by have:=cL.1 h.pr;unfold M.fr;omega
  omega
theorem MI.aA {k:Nat} {m:M} (h:MI k m) {n:Int} (hn:0≤n∧n<m.th.length):QN m.p (m.aA n):=by
 unfold M.aA
 rw [zA,zD (by omega)]
 exact h.th _ (List.getElem_mem _)
theorem MI.fS {k:Nat} {m:M} (h:MI k m) (n:Int) {t:Aw} (ht:QN m.p t):MI k (m.fS n t) where
 kk:=h.kk
 pr:=h.pr
 ff:=h.ff
 si:=h.si
 fk:=h.fk
 ls:=h.ls
 la:=h.la
 lt:=by show ((m.th.set _ _).length:Int)=_;rw [zM];exact h.lt
 th:=fun u hu=>by
  rcases List.mem_or_eq_of_mem_set hu with h1 | rfl
  ·exact h.th u h1
  ·exact ht
 ai:=h.ai
theorem MI.hJ {k:Nat} {m:M} (h:MI k m) {n:Int} (hn:0≤n∧n<m.th.length) (r:Int) {v:Int} (hv:u64 v):MI k (m.hJ n r v):=by
 have ht:=h.aA hn
 refine h.fS n ⟨by simpa using ht.1,fun w hw=>?_,ht.2.2⟩
 rcases List.mem_or_eq_of_mem_set hw with h1 | rfl
 ·exact ht.2.1 w h1
 ·exact hv
theorem MI.dy {k:Nat} {m:M} (h:MI k m) {n:Int} (hn:0≤n∧n<m.th.length) {l:List cW} (hl:tQ m.p l):MI k (m.dy n l):=by
 have ht:=h.aA hn
 exact h.fS n ⟨ht.1,ht.2.1,hl⟩
theorem MI.cT {k:Nat} {m:M} (h:MI k m) {n:Int} (hn:0≤n∧n<m.th.length) (r:Int):u64 (m.cT n r):=by
 have ht:=h.aA hn
 unfold M.cT
 rw [zA]
 cases hx:(m.aA n).cP[r.toNat]? with
 | none=>simp [u64]
 | some v=>exact ht.2.1 v (zG hx)
theorem aco (a:Int):u64 (kQ .u64 a):=by unfold u64 kQ;rw [wrap_u64];omega
theorem MI.dm {k:Nat} {m:M} (h:MI k m) {i:Nat} {a:mz} (ha:∀x,m.sc[i]?=some x→AI x i k a):MI k (m.dm (i:Int) a) where
 kk:=h.kk
 pr:=h.pr
 ff:=h.ff
 si:=h.si
 fk:=h.fk
 ls:=h.ls
 la:=by show ((m.ar.set _ _).length:Int)=_;rw [zM];exact h.la
 lt:=h.lt
 th:=h.th
 ai:=fun j x b h1 h2=>by
  rcases getSet (show (m.ar.set i a)[j]?=some b from h2) with ⟨e1,e2⟩ | ⟨_,g2⟩
  ·rw [e2];rw [e1] at h1 ⊢;exact ha x h1
  ·exact h.ai j x b h1 g2
theorem M.tU {m:M} {i:Nat} {a:mz} (h:m.ar[i]?=some a):m.bA (i:Int)=a:=by
 unfold M.bA;rw [zE,zA,h];rfl
theorem MI.bA {k:Nat} {m:M} (h:MI k m) {i:Nat} {x:eY} (hx:m.sc[i]?=some x):m.ar[i]?=some (m.bA (i:Int))∧AI x i k (m.bA (i:Int)):=by
 have h1:=(zB.1 hx).1
 have vT:=h.ls
 have TG:=h.la
 have h2:m.ar[i]?=some m.ar[i]:=zD (by omega)
 rw [M.tU h2]
 exact ⟨h2,h.ai i x _ hx h2⟩
theorem MI.te {k:Nat} {m:M} (h:MI k m) {i:Int} (hi:0≤i∧i<m.p.1):m.sc[i.toNat]?=some (ah m.sc i):=jr hi.1 (by rw [h.ls];exact hi.2)
theorem MI.xE {k:Nat} {m:M} (h:MI k m) {i:Nat} {x:eY} {y:eY} (hx:m.sc[i]?=some x) (hs:SI m.fr m.en (m.sc.set i y) m.fl) {a:mz} (ha:AI y i k a):MI k { m with sc:=m.sc.set i y,ar:=m.ar.set i a } where
 kk:=h.kk
 pr:=h.pr
 ff:=h.ff
 si:=hs
 fk:=h.fk
 ls:=by show ((m.sc.set _ _).length:Int)=_;rw [zM];exact h.ls
 la:=by show ((m.ar.set _ _).length:Int)=_;rw [zM];exact h.la
 lt:=h.lt
 th:=h.th
 ai:=fun j z b h1 h2=>by
  rcases getSet (show (m.sc.set i y)[j]?=some z from h1) with ⟨e1,e2⟩ | ⟨e1,g1⟩
  ·rcases getSet (show (m.ar.set i a)[j]?=some b from h2) with ⟨_,e4⟩ | ⟨e3,_⟩
   ·rw [e1,e2,e4];exact ha
   ·exact absurd e1 e3
  ·rcases getSet (show (m.ar.set i a)[j]?=some b from h2) with ⟨e3,_⟩ | ⟨_,g2⟩
   ·exact absurd e3 e1
   ·exact h.ai j z b g1 g2
theorem j8 {α:Type} {l:List α} {i:Nat} {x:α} (h:l[i]?=some x):l.set i x=l:=by
 apply List.ext_getElem?
 intro j
 rw [List.getElem?_set]
 split
 ·rename_i e;subst e
  obtain ⟨h1,h2⟩:=zB.1 h
  rw [if_pos h1];exact h.symm
 ·rfl
theorem MI.H5 {k:Nat} {m:M} (h:MI k m) {i:Nat} {x:eY} {y:eY} (hx:m.sc[i]?=some x) (hs:SI m.fr m.en (m.sc.set i y) m.fl) (ha:∀a,AI x i k a→AI y i k a):MI k { m with sc:=m.sc.set i y }:=by
 obtain ⟨h1,h2⟩:=h.bA hx
 have:=h.xE hx hs (ha _ h2)
 rw [j8 h1] at this
 exact this
theorem BO {o:iw} {sl:List Int} (h:∀v∈sl,u64 v):∀v∈(cu o sl).2.1,u64 v:=by
 intro v hv
 unfold cu at hv
 split at hv
 ·exact h v hv
 split at hv
 ·rcases List.mem_or_eq_of_mem_set hv with h1 | rfl
  ·exact h v h1
  ·simp [u64]
 split at hv
 ·simp only at hv
  split at hv
  ·rcases List.mem_or_eq_of_mem_set hv with h1 | rfl
   ·exact h v h1
   ·rename_i hh
    rw [zA,zD hh.2]
    exact h _ (List.getElem_mem _)
  ·exact h v hv
 split at hv
 ·exact h v hv
 ·exact h v hv
theorem x8 {ops:List iw}:∀(f a:Nat) (sl sd:List Int) (hd:Bool) (n:Int),(∀v∈sl,u64 v)→∀v∈(ko ops f a sl sd hd n).1,u64 v
 | 0,a,sl,sd,hd,n,h=>h
 | f+1,a,sl,sd,hd,n,h=>by
  by_cases ha:a<ops.length
  ·rw [re ha]
   exact x8 (ops:=ops) f _ _ _ _ _ (BO h)
  ·rw [tP ha];exact h
theorem rb (f:List (List iw)) (o:ku):(eP f o).1.ref=o.ref∧(eP f o).1.tag=o.tag∧(eP f o).1.bg.length=o.bg.length:=by
 unfold eP
 split
 ·exact ⟨rfl,rfl,rfl⟩
 ·exact ⟨rfl,rfl,DT _ _⟩
theorem G5 {f:List (List iw)} {x:eY} {i:Nat} {us:Int} {o:ku} (h:Bj x i us o):Bj x i us (eP f o).1:=by
 obtain ⟨h1,h2,h3⟩:=rb f o
 unfold Bj at *
 rw [h1,h2,h3]
 obtain ⟨k1,k2,k3,k4,k5,k6,k7,k8⟩:=h
 refine ⟨k1,k2,k3,k4,k5,k6,k7,?_⟩
 unfold eP
 split
 ·exact k8
 ·exact x8 _ _ _ _ _ _ k8
theorem wi (f:List (List iw)):∀l,(bQ f l).1=l.map fun o=>(eP f o).1
 | []=>rfl
 | o::l=>by simp [bQ,wi f l]
theorem AI.map {x:eY} {i k:Nat} {a:mz} (h:AI x i k a) (g:ku→ku) (hg:∀o∈a.a5,(g o).ref=o.ref∧Bj x i a.used (g o)):AI x i k { a with a5:=a.a5.map g } where
 us:=h.us
 ga:=h.ga
 ol:=by show (a.a5.map g).length≤k;rw [zH];exact h.ol
 ob:=fun o ho=>by
  obtain ⟨q,h1,rfl⟩:=List.mem_map.1 ho
  exact (hg q h1).2
 od:=by
  show (a.a5.map g).Pairwise _
  rw [List.pairwise_map]
  refine List.Pairwise.imp_of_mem ?_ h.od
  intro o q ho hq dP
  rw [(hg o ho).1,(hg q hq).1];exact dP
 id:=fun h0=>by
  have:=h.id h0
  rw [this];rfl
theorem M.x5 {m:M} {r:jl} {o:ku} (h:m.find r=some o):o∈(m.bA r.1).a5∧o.ref=r:=by
 unfold M.find at h
 exact ⟨List.mem_of_find?_eq_some h,by simpa using List.find?_some h⟩
theorem M.gO {m:M} {l:List cW} {v:Int} {o:ku} (h:(m.check l v).1=some o):(m.check l v).2=0∧(ay v).2=0∧(ay v).1.1<m.p.1∧reach l (ay v).1.1=true∧(j9 m.sc (ay v).1.1).1.2.2.2=(ay v).1.2.1∧m.find (ay v).1=some o:=by
 unfold M.check at h ⊢
 split at h
 ·cases h
 ·rename_i h1
  split at h
  ·cases h
  ·rename_i h2
   split at h
   ·cases h
   ·rename_i h3
    rw [if_neg h1,if_neg h2,if_neg h3]
    cases hf:m.find (ay v).1 with
    | none=>rw [hf] at h;cases h
    | some q=>
     rw [hf] at h
     cases h
     exact ⟨rfl,by simp only [not_or] at h1;simpa using h1.1,by omega,by simpa using h2,by simpa using h3,rfl⟩
theorem M.oz {m:M} {l:List cW} {v:Int} (h:(m.check l v).1=none):(m.check l v).2≠0:=by
 unfold M.check at h ⊢
 split at h
 ·rename_i h1;rw [if_pos h1];decide
 ·rename_i h1
  rw [if_neg h1]
  split at h
  ·rename_i h2;rw [if_pos h2];decide
  ·rename_i h2
   rw [if_neg h2]
   split at h
   ·rename_i h3;rw [if_pos h3];decide
   ·rename_i h3
    rw [if_neg h3]
    cases hf:m.find (ay v).1 with
    | none=>decide
    | some q=>rw [hf] at h;cases h
theorem gH {v:Int} (h:(ay v).2=0):fj (ay v).1=true∧(ay v).1=gi v:=by
 unfold ay at h ⊢
 split
 ·rename_i h1;exact ⟨h1,rfl⟩
 ·rename_i h1;rw [if_neg h1] at h;cases h
theorem MI.found {k:Nat} {m:M} (h:MI k m) {l:List cW} {v:Int} {o:ku} (ho:(m.check l v).1=some o) :
  ∃(i:Nat) (x:eY),o.ref.1=(i:Int)∧m.sc[i]?=some x∧o∈(m.bA (i:Int)).a5∧AI x i k (m.bA (i:Int))∧Bj x i (m.bA (i:Int)).used o∧o.ref=(ay v).1∧(i:Int)<m.p.1:=by
 obtain ⟨_,h1,h2,_,_,h3⟩:=M.gO ho
 obtain ⟨h4,h5⟩:=M.x5 h3
 have hr:=cS.1 (gH h1).1
 have hi:(((ay v).1.1.toNat:Nat):Int)=(ay v).1.1:=by omega
 have hx:=h.te (i:=(ay v).1.1) ⟨hr.1.1,h2⟩
 obtain ⟨_,ha⟩:=h.bA hx
 rw [hi] at ha
 refine ⟨(ay v).1.1.toNat,_,by rw [h5,hi],hx,by rw [hi];exact h4,by rw [hi];exact ha,by rw [hi];exact ha.ob o h4,h5,by rw [hi];exact h2⟩
theorem MI.enter {k:Nat} {m:M} (h:MI k m) {n:Int} (hn:0≤n∧n<m.th.length) (a:Int):MI k (m.enter n a).1:=by
 have ht:=h.aA hn
 unfold M.enter
 split
 ·exact h
 rename_i ha
 have ha:1≤a∧a≤m.p.1-1:=by rw [←bG];simpa using ha
 split
 ·exact h
 rename_i hp
 split
 ·exact h
 rename_i hu
 have hp:(m.aA n).aF.length<6:=by
  unfold push at hp
  split at hp
  ·exact absurd (by decide) hp
  ·omega
 have hx:=h.te (i:=a) (by omega)
 have Dx:lz m.sc 1 a=true:=cg.2 ⟨by omega,by rw [h.ls];omega⟩
 have zj:=h.si.cr _ _ hx
 unfold cZ at hu ⊢
 rw [if_pos Dx] at hu ⊢
 split
 ·rename_i h0
  have Ds:=B2 (dE (m.aA n).aF) _ zj h0
  have hm:MI k { m with sc:=m.sc.set a.toNat ((b_ (ah m.sc a).1 (dE (m.aA n).aF)).1,(ah m.sc a).2) }:=by
   refine h.H5 hx (h.si.aT (by omega) hx Ds.2 Ds.1) (fun q hq=>?_)
   have e:(b_ (ah m.sc a).1 (dE (m.aA n).aF)).1.2.2.2=(ah m.sc a).1.2.2.2∧(b_ (ah m.sc a).1 (dE (m.aA n).aF)).1.1=2:=by
    rw [(m9 zj h0).1];exact ⟨rfl,rfl⟩
   refine ⟨hq.us,hq.ga,hq.ol,fun o ho=>?_,hq.od,fun jI=>absurd e.2 jI⟩
   have:=hq.ob o ho
   unfold Bj at this ⊢
   rw [e.1];exact this
  refine hm.dy hn ?_
  unfold push;rw [if_neg (by omega)]
  exact ht.2.2.C6 hp ⟨ha.1,by show a<m.p.1;omega⟩
 ·rename_i h0
  rw [if_neg h0] at hu;exact absurd h0 hu
theorem MI.oj {k:Nat} {m:M} (h:MI k m) {n:Int} (hn:0≤n∧n<m.th.length) (a:Int):MI k (m.oj n a).1:=by
 have ht:=h.aA hn
 unfold M.oj
 split
 ·exact h
 rename_i ha
 have ha:0≤a∧a≤m.p.1-1:=by rw [←bG];simpa using ha
 split
 ·exact h
 rename_i hr
 split
 ·exact h
 rename_i hp
 have hp:(m.aA n).aF.length<6:=by
  unfold push at hp
  split at hp
  ·exact absurd (by decide) hp
  ·omega
 refine h.dy hn ?_
 unfold push;rw [if_neg (by omega)]
 exact ht.2.2.C7 hp ⟨ha.1,by show a<m.p.1;omega⟩ (by simpa using hr)
def xk (s:Int) (t:Aw):Nat:=t.aF.count (s,true)
def Fv (l:List Aw) (s:Int):Nat:=(l.map (xk s)).sum
def CT (m:M):Prop:=∀(i:Nat) (x:eY),1≤i→m.sc[i]?=some x→x.1.2.1=(Fv m.th i:Int)
theorem Eg:∀(l:List Nat) (n v:Nat) (u:Nat),l[n]?=some u→(l.set n v).sum+u=l.sum+v
 | [],n,v,u,h=>by simp at h
 | x::l,0,v,u,h=>by simp at h;subst h;simp;omega
 | x::l,n+1,v,u,h=>by
  have:=Eg l n v u (by simpa using h)
  simp only [List.set_cons_succ,List.sum_cons];omega
theorem NB {l:List Aw} {n:Nat} {t:Aw} (u:Aw) (s:Int) (h:l[n]?=some t):Fv (l.set n u) s+xk s t=Fv l s+xk s u:=by
 unfold Fv
 rw [List.map_set]
 exact Eg _ _ _ _ (by rw [zL,h];rfl)
theorem M.pV {m:M} {n:Int} (hn:0≤n∧n<m.th.length):m.th[n.toNat]?=some (m.aA n):=by
 unfold M.aA
 rw [zA,zD (by omega)];rfl
theorem Ji:∀(l:List Nat) (x:Nat),x∈l→x≤l.sum
 | y::l,x,h=>by
  simp only [List.mem_cons] at h
  rw [List.sum_cons]
  rcases h with rfl | h
  ·omega
  ·have:=Ji l x h;omega
theorem NC {l:List Aw} {t:Aw} {s:Int} (ht:t∈l) (h:(s,true)∈t.aF):1≤Fv l s:=by
 have h1:1≤xk s t:=List.count_pos_iff.2 h
 have h2:xk s t≤Fv l s:=Ji _ _ (List.mem_map.2 ⟨t,ht,rfl⟩)
 omega
theorem MI.live {k:Nat} {m:M} (h:MI k m) (hc:CT m) {t:Aw} (ht:t∈m.th) {s:Int} (hs:s=0∨(s,true)∈t.aF):m.sc[s.toNat]?=some (ah m.sc s)∧(ah m.sc s).1.1=2∧0≤s∧s<m.p.1:=by
 have hp:=h.vI
 rcases hs with rfl | hs
 ·have hx:=h.te (i:=0) (by omega)
  have:=h.si.im _ hx
  exact ⟨hx,by rw [this.1],by omega,by omega⟩
 ·have hr:=(h.th t ht).2.2.PN _ hs
  have h1:=hr.2.2 rfl
  have hx:=h.te (i:=s) ⟨hr.1,hr.2.1⟩
  refine ⟨hx,?_,hr.1,hr.2.1⟩
  have h2:=hc s.toNat _ (by simp only at h1;omega) hx
  have h3:=NC ht hs
  have h4:((s.toNat:Nat):Int)=s:=by simp only at h1;omega
  rw [h4] at h2
  have h5:=h.si.cr _ _ hx
  rcases mK h5 with ⟨_,h6,_⟩ | h6 | ⟨_,h6⟩
  ·omega
  ·exact h6
  ·omega
theorem Aa {p:rA} {l:List cW} (h:tQ p l):dE l=0∨(dE l,true)∈l:=by
 unfold dE
 cases hl:l.getLast? with
 | none=>exact .inl rfl
 | some e=>
  obtain ⟨s,b⟩:=e
  obtain ⟨l',rfl⟩:=List.getLast?_eq_some_iff.1 hl
  cases b with
  | true=>exact .inr (by simp)
  | false=>
   rcases h.CI l' [] s rfl with h1 | h1
   ·exact .inl h1
   ·exact .inr (by simp [h1])
theorem M.rH {m:M} {n:Int} (hn:0≤n∧n<m.th.length):m.aA n∈m.th:=zG (M.pV hn)
theorem MI.wO {k:Nat} {m:M} (h:MI k m) {i:Int} (hi:0≤i∧i<m.p.1):m.ar[i.toNat]?=some (m.bA i)∧AI (ah m.sc i) i.toNat k (m.bA i):=by
 have hx:=h.te hi
 have:=h.bA hx
 have e:((i.toNat:Nat):Int)=i:=by omega
 rw [e] at this;exact this
theorem MI.vc {k:Nat} {m:M} (h:MI k m) {i:Int} (hi:0≤i∧i<m.p.1) {a:mz} (ha:AI (ah m.sc i) i.toNat k a):MI k (m.dm i a):=by
 have e:((i.toNat:Nat):Int)=i:=by omega
 rw [←e]
 refine h.dm (fun x hx=>?_)
 rw [h.te hi] at hx
 cases hx;exact ha
open Go.Bm
theorem oy {c:ni} (h:bc c=true) (h2:c.1=3):dZ c=((1,0,-1,cO c.2.2.2),0):=by
 have e0:iP c 3=0:=by unfold iP;rw [if_neg (by rw [h];simp),h2];simp
 unfold dZ
 rw [if_neg (by rw [e0];simp)]
theorem jK {l:List eY} {i:Int} {x:eY} (h0:0≤i) (h:i<l.length):ah (l.set i.toNat x) i=x:=by
 have:=ma (l:=l.set i.toNat x) (i:=i.toNat) (x:=x) (by rw [List.getElem?_set,if_pos rfl,if_pos (by omega)])
 rwa [show ((i.toNat:Nat):Int)=i by omega] at this
theorem rL {l:List eY} {s:Int} (h1:1≤s) (hs:s<l.length) (hr:bc (ah l s).1=true) (h2:(ah l s).1.1=2) :
  iW l s=if (ah l s).1.2.1=1 then (l.set s.toNat ((3,0,(ah l s).1.2.2.1,(ah l s).1.2.2.2),(ah l s).2),true,0) else (l.set s.toNat ((2,(ah l s).1.2.1-1,(ah l s).1.2.2.1,(ah l s).1.2.2.2),(ah l s).2),false,0):=by
 obtain ⟨e0,e1⟩:=lv hr h2
 have eu:cZ l s bC=(l.set s.toNat ((bC (ah l s).1).1,(ah l s).2),0):=by
  unfold cZ;rw [if_pos (cg.2 ⟨h1,hs⟩),if_pos e0]
 unfold iW
 rw [eu,if_pos rfl]
 simp only
 rw [jK (by omega) hs,e1]
 split<;>rfl
theorem M.pa {m:M} {n s:Int} {l:List cW} {a:LF} (h1:1≤s) (hs:s<m.sc.length) (hr:bc (ah m.sc s).1=true) (h2:(ah m.sc s).1.1=2) :
  m.leave n s l a=if (ah m.sc s).1.2.1=1 then (({ m with sc:=m.sc.set s.toNat ((1,0,-1,cO (ah m.sc s).1.2.2.2),(ah m.sc s).2) }.dm s uI).dy n l,a)
   else ({ m with sc:=m.sc.set s.toNat ((2,(ah m.sc s).1.2.1-1,(ah m.sc s).1.2.2.1,(ah m.sc s).1.2.2.2),(ah m.sc s).2) }.dy n l,a):=by
 unfold M.leave
 rw [rL h1 hs hr h2]
 have hl:=gM hr h2
 split
 ·simp only [if_true]
  have hc:bc (3,0,(ah m.sc s).1.2.2.1,(ah m.sc s).1.2.2.2)=true:=oV (by omega)
  have eu:cZ (m.sc.set s.toNat ((3,0,(ah m.sc s).1.2.2.1,(ah m.sc s).1.2.2.2),(ah m.sc s).2)) s dZ=(m.sc.set s.toNat ((1,0,-1,cO (ah m.sc s).1.2.2.2),(ah m.sc s).2),0):=by
   unfold cZ
   rw [if_pos (cg.2 ⟨h1,by simpa using hs⟩),jK (by omega) hs,oy hc rfl,if_pos rfl,List.set_set]
  rw [eu]
 ·rfl
theorem MI.leave {k:Nat} {m:M} (h:MI k m) {n:Int} (hn:0≤n∧n<m.th.length) {s:Int} {l:List cW} {a:LF} (h1:1≤s∧s<m.p.1) (h2:(ah m.sc s).1.1=2) (hl:tQ m.p l):MI k (m.leave n s l a).1:=by
 have hx:=h.te (i:=s) (by omega)
 have hr:=h.si.cr _ _ hx
 have hc:=gM hr h2
 rw [M.pa h1.1 (by rw [h.ls];exact h1.2) hr h2]
 have hq:=h.wO (i:=s) (by omega)
 split
 ·have hs:=h.si.aT (i:=s.toNat) (by omega) hx (by omega) (c:=(1,0,-1,cO (ah m.sc s).1.2.2.2)) (CX r_)
  have qq:=h.size hx (by omega)
  exact MI.dy (m:={ m with sc:=m.sc.set s.toNat ((1,0,-1,cO (ah m.sc s).1.2.2.2),(ah m.sc s).2),ar:=m.ar.set s.toNat uI }) (h.xE hx hs (AI.empty qq.1)) hn hl
 ·have hs:=h.si.aT (i:=s.toNat) (by omega) hx (by omega) (c:=(2,(ah m.sc s).1.2.1-1,(ah m.sc s).1.2.2.1,(ah m.sc s).1.2.2.2)) (CW (by omega))
  refine MI.dy (m:={ m with sc:=m.sc.set s.toNat ((2,(ah m.sc s).1.2.1-1,(ah m.sc s).1.2.2.1,(ah m.sc s).1.2.2.2),(ah m.sc s).2) }) (h.H5 hx hs (fun q hq=>?_)) hn hl
  exact ⟨hq.us,hq.ga,hq.ol,hq.ob,hq.od,fun jI=>absurd rfl jI⟩
theorem AI.fin {x:eY} {i k:Nat} {a:mz} (h:AI x i k a) (f:List (List iw)):AI x i k { a with a5:=(bQ f a.a5).1 }:=by
 rw [wi]
 exact h.map _ (fun o ho=>⟨(rb f o).1,G5 (h.ob o ho)⟩)
theorem sq {l:List cW} {x:cW} (h:l.getLast?=some x):x∈l:=List.mem_of_getLast? h
theorem MI.exit {k:Nat} {m:M} (h:MI k m) (hc:CT m) {n:Int} (hn:0≤n∧n<m.th.length):MI k (m.exit n).1:=by
 have ht:=h.aA hn
 unfold M.exit
 split
 ·exact h
 ·rename_i x hx
  split
  ·exact h.dy hn ht.2.2.drop
  ·rename_i hb
   have hm:=sq hx
   obtain ⟨s,b⟩:=x
   have hb:b=true:=by simpa using hb
   subst hb
   have kP:=h.live hc (M.rH hn) (.inr hm)
   have hr:=ht.2.2.PN _ hm
   have h1:=hr.2.2 rfl
   simp only at h1
   have ha:=(h.wO (i:=s) ⟨kP.2.2.1,kP.2.2.2⟩).2
   have GO:=h.vc (i:=s) ⟨kP.2.2.1,kP.2.2.2⟩ (ha.fin m.f)
   split
   ·split
    ·exact GO
    ·exact MI.leave GO hn ⟨h1,kP.2.2.2⟩ kP.2.1 ht.2.2.drop
   ·exact MI.leave h hn ⟨h1,kP.2.2.2⟩ kP.2.1 ht.2.2.drop
theorem MY {r:jl}:u64 (jf r).1:=by
 unfold jf
 split
 ·rename_i h
  have:=Du h
  unfold u64;omega
 ·simp [u64]
theorem oh {a b:Int} (h:(bn a b).2=0):(0≤a∧a≤6)∧(0≤b∧b≤512)∧(bn a b).1=2+a+(b+7) / 8:=by
 unfold bn at h ⊢
 split at h
 ·cases h
 ·rename_i h1
  rw [if_neg h1]
  simp only [not_or,Bool.not_eq_false,bG] at h1
  exact ⟨h1.1,h1.2,rfl⟩
theorem MI.alloc {k:Nat} {m:M} (h:MI k m) (hk:k<9000) (hc:CT m) {n:Int} (hn:0≤n∧n<m.th.length) (r a b c:Int):MI (k+1) (m.alloc n r a b c).1:=by
 have ht:=h.aA hn
 unfold M.alloc
 split
 ·exact h.more hk
 rename_i h1
 simp only [not_or,Bool.not_eq_false] at h1
 have hw:=oh (by simpa using h1.1)
 have hcc:=bG.1 h1.2
 split
 ·exact h.more hk
 rename_i h2
 have kP:=h.live hc (M.rH hn) (Aa ht.2.2)
 have qX:0≤dE (m.aA n).aF∧dE (m.aA n).aF<m.p.1:=⟨kP.2.2.1,kP.2.2.2⟩
 have he:oU m.sc (dE (m.aA n).aF)=((ah m.sc (dE (m.aA n).aF)).2,0):=by
  unfold oU;rw [if_pos (cg.2 ⟨qX.1,by rw [h.ls];exact qX.2⟩)]
 have sB:j9 m.sc (dE (m.aA n).aF)=((ah m.sc (dE (m.aA n).aF)).1,0):=by
  unfold j9;rw [if_pos (cg.2 ⟨qX.1,by rw [h.ls];exact qX.2⟩)]
 have ha:=(h.wO qX).2
 have qq:=h.size kP.1 (by omega)
 have zj:=gM (h.si.cr _ _ kP.1) kP.2.1
 have hp:=h.vI
 unfold M.Qm M.tx
 rw [he] at h2 ⊢
 rw [sB]
 simp only at h2 ⊢
 generalize hs:dE (m.aA n).aF=s at *
 have y_:=ha.us
 refine MI.hJ (m:=m.dm s _) ((h.more hk).vc qX ?_) hn r MY
 have cR:(m.bA s).used+(bn a b).1*8≤(ah m.sc s).2.2:=by omega
 have hnr:fj (s,(ah m.sc s).1.2.2.2,(ah m.sc s).2.1+(m.bA s).used)=true:=by
  rw [cS]
  simp only
  omega
 refine ⟨⟨by simp only;omega,by simp only;omega,cR⟩,ha.ga,by simp;exact ha.ol,fun o ho=>?_,?_,fun jI=>absurd kP.2.1 jI⟩
 ·simp only [zX,zF] at ho
  rcases ho with ho | rfl
  ·obtain ⟨q1,q2,q3,q4,q5⟩:=ha.ob o ho
   exact ⟨q1,q2,q3,by simp only;omega,q5⟩
  ·refine ⟨by simp only;omega,rfl,by simp only;omega,by simp only;omega,hnr,hcc,by simp;omega,fun v hv=>?_⟩
   have:=List.eq_of_mem_replicate hv
   subst this;simp [u64]
 ·simp only
  rw [List.pairwise_append]
  refine ⟨ha.od,List.pairwise_singleton _ _,fun o ho q hq=>?_⟩
  simp only [zF] at hq
  subst hq
  obtain ⟨q1,q2,q3,q4,q5⟩:=ha.ob o ho
  simp only;omega
theorem MI.put {k:Nat} {m to:M} (h:MI k m) (ht:MI k to) (l:List cW) (v s:Int):MI k (m.put l v s to).1:=by
 unfold M.put
 split
 ·exact ht
 ·split
  ·exact h
  ·split
   ·exact h
   ·split
    ·exact h
    ·exact ht
theorem MI.load {k:Nat} {m:M} (h:MI k m) {n:Int} (hn:0≤n∧n<m.th.length) (r g b:Int):MI k (m.load n r g b).1:=by
 unfold M.load
 split
 ·exact h
 ·split
  ·exact h
  ·rename_i o ho
   split
   ·exact h
   ·rename_i hb
    obtain ⟨i,x,_,_,_,_,fQ,_⟩:=h.found ho
    refine h.hJ hn r ?_
    rw [zA]
    cases hx:o.bg[b.toNat]? with
    | none=>simp [u64]
    | some v=>exact fQ.2.2.2.2.2.2.2 v (zG hx)
theorem MI.LR {k:Nat} {m:M} (h:MI k m) (r:jl) {w:Int} (hw:u64 w) (b:Nat):MI k (m.setObj r fun o=>{ o with bg:=o.bg.set b w }) where
 kk:=h.kk
 pr:=h.pr
 ff:=h.ff
 si:=h.si
 fk:=h.fk
 ls:=h.ls
 la:=by show ((m.ar.map _).length:Int)=_;rw [zH];exact h.la
 lt:=h.lt
 th:=h.th
 ai:=fun i x a h1 h2=>by
  have h2:(m.ar.map _)[i]?=some a:=h2
  rw [zL] at h2
  cases ha:m.ar[i]? with
  | none=>rw [ha] at h2;cases h2
  | some a'=>
   rw [ha] at h2
   cases h2
   have h4:=h.ai i x a' h1 ha
   refine h4.map _ (fun q hq=>?_)
   have hqo:=h4.ob q hq
   split
   ·refine ⟨rfl,?_⟩
    obtain ⟨q1,q2,q3,q4,q5,q6,q7,q8⟩:=hqo
    refine ⟨q1,q2,q3,q4,q5,q6,by simpa using q7,fun z hz=>?_⟩
    rcases List.mem_or_eq_of_mem_set hz with hz | rfl
    ·exact q8 z hz
    ·exact hw
   ·exact ⟨rfl,hqo⟩
theorem MI.store {k:Nat} {m:M} (h:MI k m) {n:Int} (hn:0≤n∧n<m.th.length) (g v b:Int):MI k (m.store n g v b).1:=by
 unfold M.store
 split
 ·exact h
 ·split
  ·exact h
  ·rename_i o ho
   split
   ·exact h
   ·exact h.put (h.LR _ (h.cT hn v) _) _ _ _
theorem MI.fX {k:Nat} {m:M} (h:MI k m) {n:Int} (hn:0≤n∧n<m.th.length) (r a:Int):MI k (m.fX n r a).1:=by
 unfold M.fX
 split
 ·exact h
 ·rename_i ha
  have ha:1≤a∧a≤m.p.1-1:=by rw [←bG];simpa using ha
  split
  ·exact h
  ·exact h.hJ hn r (h.wO (i:=a) (by omega)).2.ga
theorem MI.gate {k:Nat} {m:M} (h:MI k m) (hc:CT m) {n:Int} (hn:0≤n∧n<m.th.length) (v a:Int):MI k (m.gate n v a).1:=by
 unfold M.gate
 split
 ·exact h
 ·rename_i ha
  have ha:1≤a∧a≤m.p.1-1:=by rw [←bG];simpa using ha
  split
  ·exact h
  ·rename_i hr
   have hr:reach (m.aA n).aF a=true:=by simpa using hr
   have kP:=h.live hc (M.rH hn) (xI.1 hr)
   refine h.put (h.vc (i:=a) (by omega) ?_) _ _ _
   have:=(h.wO (i:=a) (by omega)).2
   exact ⟨this.us,h.cT hn v,this.ol,this.ob,this.od,fun jI=>absurd kP.2.1 jI⟩
theorem MI.create {k:Nat} {m:M} (h:MI k m) (a:Int):MI k { m with sc:=(bW m.sc m.fl a).1,fl:=(bW m.sc m.fl a).2.1 }:=by
 have hs:=h.si.create a
 have hf:=h.fk
 have key:(bW m.sc m.fl a).1=m.sc∨∃(i:Nat) (x:eY) (y:eY),m.sc[i]?=some x∧x.1.1=0∧0≤y.2.2∧(bW m.sc m.fl a).1=m.sc.set i y:=by
  unfold bW
  split
  ·exact .inl rfl
  ·rename_i hn
   have hn:1≤a∧a≤8192:=by rw [←bG];simpa using hn
   cases mF:iq m.sc with
   | none=>exact .inl rfl
   | some i=>
    simp only
    cases hc:jF m.fl (rC a) with
    | none=>exact .inl rfl
    | some r=>
     obtain ⟨x,h1,h2⟩:=jC mF
     exact .inr ⟨i,x,_,h1,h2,by simp only;unfold rC;omega,rfl⟩
 have GL:SI m.fr m.en (bW m.sc m.fl a).1 (bW m.sc m.fl a).2.1:=hs.1
 have Qg:(bW m.sc m.fl a).2.1.length≤k+1:=by have:=hs.2;omega
 generalize (bW m.sc m.fl a).2.1=tL at *
 rcases key with e | ⟨i,x,y,h1,h2,h3,e⟩
 ·rw [e] at GL ⊢
  exact ⟨h.kk,h.pr,h.ff,GL,Qg,h.ls,h.la,h.lt,h.th,h.ai⟩
 ·rw [e] at GL ⊢
  refine ⟨h.kk,h.pr,h.ff,GL,Qg,by show ((m.sc.set _ _).length:Int)=_;rw [zM];exact h.ls,h.la,h.lt,h.th,fun j z b k1 k2=>?_⟩
  rcases getSet (show (m.sc.set i y)[j]?=some z from k1) with ⟨e1,e2⟩ | ⟨_,g1⟩
  ·rw [e1] at k2 ⊢
   have:=(h.ai i x b h1 k2).id (by omega)
   rw [this,e2];exact AI.empty h3
  ·exact h.ai j z b g1 k2
theorem MI.qf {k:Nat} {m:M} (h:MI k m) (hk:k<9000) (a:Int):MI (k+1) { m with sc:=(bL m.fr m.en m.sc m.fl a).1,fl:=(bL m.fr m.en m.sc m.fl a).2.1 }:=by
 have hs:=h.si.qf a
 have hf:=h.fk
 have key:(bL m.fr m.en m.sc m.fl a).1=m.sc∨∃(i:Nat) (x:eY) (y:eY),m.sc[i]?=some x∧x.1.1=1∧0≤y.2.2∧(bL m.fr m.en m.sc m.fl a).1=m.sc.set i y:=by
  unfold bL
  split
  ·exact .inl rfl
  ·rename_i hn
   have hn:1≤a∧a<m.sc.length:=by rw [←cg];simpa using hn
   split
   ·exact .inl rfl
   ·split
    ·exact .inl rfl
    ·rename_i h1
     exact .inr ⟨a.toNat,_,_,jr (by omega) hn.2,by omega,Int.le_refl 0,rfl⟩
 have GL:SI m.fr m.en (bL m.fr m.en m.sc m.fl a).1 (bL m.fr m.en m.sc m.fl a).2.1:=hs.1
 have Qg:(bL m.fr m.en m.sc m.fl a).2.1.length≤k+1+1:=by have:=hs.2.1;omega
 generalize (bL m.fr m.en m.sc m.fl a).2.1=tL at *
 rcases key with e | ⟨i,x,y,h1,h2,h3,e⟩
 ·rw [e] at GL ⊢
  exact ⟨hk,h.pr,h.ff,GL,Qg,h.ls,h.la,h.lt,h.th,fun i x a k1 k2=>(h.ai i x a k1 k2).more⟩
 ·rw [e] at GL ⊢
  refine ⟨hk,h.pr,h.ff,GL,Qg,by show ((m.sc.set _ _).length:Int)=_;rw [zM];exact h.ls,h.la,h.lt,h.th,fun j z b k1 k2=>?_⟩
  rcases getSet (show (m.sc.set i y)[j]?=some z from k1) with ⟨e1,e2⟩ | ⟨_,g1⟩
  ·rw [e1] at k2 ⊢
   have:=(h.ai i x b h1 k2).id (by omega)
   rw [this,e2];exact AI.empty h3
  ·exact (h.ai j z b g1 k2).more
theorem dw {α:Type} {p:Prop} [Decidable p] {x y:α} (P:α→Prop) (h1:p→P x) (h2:¬p→P y):P (if p then x else y):=by
 split
 ·exact h1 (by assumption)
 ·exact h2 (by assumption)
theorem MI.act {k:Nat} {m:M} (h:MI k m) (hk:k<9000) (hc:CT m) {n:Int} (hn:0≤n∧n<m.th.length) (c:qm):MI (k+1) (m.act n c).1:=by
 obtain ⟨op,r,g,v,a,b,t⟩:=c
 refine dw (fun o:Out=>MI (k+1) o.1) (fun _=>h.more hk) fun _=>?_
 refine dw (fun o:Out=>MI (k+1) o.1) (fun _=>(h.hJ hn r (aco a)).more hk) fun _=>?_
 refine dw (fun o:Out=>MI (k+1) o.1) (fun _=>(h.create a).more hk) fun _=>?_
 refine dw (fun o:Out=>MI (k+1) o.1) (fun _=>h.qf hk a) fun _=>?_
 refine dw (fun o:Out=>MI (k+1) o.1) (fun _=>(h.enter hn a).more hk) fun _=>?_
 refine dw (fun o:Out=>MI (k+1) o.1) (fun _=>(h.exit hc hn).more hk) fun _=>?_
 refine dw (fun o:Out=>MI (k+1) o.1) (fun _=>(h.oj hn a).more hk) fun _=>?_
 refine dw (fun o:Out=>MI (k+1) o.1) (fun _=>h.alloc hk hc hn r a b t) fun _=>?_
 refine dw (fun o:Out=>MI (k+1) o.1) (fun _=>(h.load hn r g b).more hk) fun _=>?_
 refine dw (fun o:Out=>MI (k+1) o.1) (fun _=>(h.store hn g v b).more hk) fun _=>?_
 refine dw (fun o:Out=>MI (k+1) o.1) (fun _=>(h.fX hn r a).more hk) fun _=>?_
 exact dw (fun o:Out=>MI (k+1) o.1) (fun _=>(h.gate hc hn v a).more hk) fun _=>h.more hk
theorem MI.step {k:Nat} {m:M} (h:MI k m) (hk:k<9000) (hc:CT m) (n:Int) (c:qm):MI (k+1) (m.step n c).1:=by
 unfold M.step
 split
 ·exact h.more hk
 ·rename_i hn
  have hn:0≤n∧n≤(m.th.length:Int)-1:=by rw [←bG];simpa using hn
  split
  ·exact h.more hk
  ·exact h.act hk hc ⟨hn.1,by omega⟩ c
open Go.Bm
theorem CT.of {m m':M} (h:CT m) (h1:∀(i:Nat) (y:eY),1≤i→m'.sc[i]?=some y→∃x:eY,m.sc[i]?=some x∧x.1.2.1=y.1.2.1) (h2:∀s,Fv m'.th s=Fv m.th s):CT m':=fun i y hi hy=>by
 obtain ⟨x,k1,k2⟩:=h1 i y hi hy
 rw [h2,←k2];exact h i x hi k1
theorem xB {l:List eY} {i:Nat} {x y:eY} (hx:l[i]?=some x) (hc:x.1.2.1=y.1.2.1):∀(j:Nat) (z:eY),1≤j→(l.set i y)[j]?=some z→∃w:eY,l[j]?=some w∧w.1.2.1=z.1.2.1:=by
 intro j z _ hz
 rcases getSet hz with ⟨e1,e2⟩ | ⟨_,g⟩
 ·rw [e1,e2];exact ⟨x,hx,hc⟩
 ·exact ⟨z,g,rfl⟩
theorem yh {m:M} {n:Int} (hn:0≤n∧n<m.th.length) (u:Aw) (s:Int):Fv (m.fS n u).th s+xk s (m.aA n)=Fv m.th s+xk s u:=NB u s (M.pV hn)
theorem CT.fS {m:M} (h:CT m) {n:Int} (hn:0≤n∧n<m.th.length) {u:Aw} (hu:∀s,xk s u=xk s (m.aA n)):CT (m.fS n u):=
 h.of (fun i y _ hy=>⟨y,hy,rfl⟩) (fun s=>by have:=yh hn u s;have:=hu s;omega)
theorem CT.hJ {m:M} (h:CT m) {n:Int} (hn:0≤n∧n<m.th.length) (r v:Int):CT (m.hJ n r v):=h.fS hn (fun s=>rfl)
theorem CT.setObj {m:M} (h:CT m) (r:jl) (g:ku→ku):CT (m.setObj r g):=h
theorem CT.dm {m:M} (h:CT m) (i:Int) (a:mz):CT (m.dm i a):=h
theorem CT.xE {m:M} (h:CT m) {k:Nat} (hm:MI k m) {n:Int} (hn:0≤n∧n<m.th.length) {a:Int} (ha:1≤a∧a<m.p.1) {y:eY} {l:List cW} (d:Int)
  (hy:y.1.2.1=(ah m.sc a).1.2.1+d) (hl:∀s,(l.count (s,true):Int)=(m.aA n).aF.count (s,true)+(if s=a then d else 0)):CT ({ m with sc:=m.sc.set a.toNat y }.dy n l):=by
 intro i z hi hz
 have hx:=hm.te (i:=a) (by omega)
 have hz:(m.sc.set a.toNat y)[i]?=some z:=hz
 have hc:=yh hn ⟨(m.aA n).cP,l⟩ (i:Int)
 have hl:=hl (i:Int)
 have e:Fv (M.dy { m with sc:=m.sc.set a.toNat y } n l).th (i:Int)=Fv (m.fS n ⟨(m.aA n).cP,l⟩).th (i:Int):=rfl
 rw [e]
 unfold xk at hc
 simp only at hc
 rcases getSet hz with ⟨e1,e2⟩ | ⟨ee,g⟩
 ·have h0:=h a.toNat _ (by omega) hx
  have h1:((a.toNat:Nat):Int)=a:=by omega
  have h2:(i:Int)=a:=by omega
  rw [h1] at h0
  rw [h2] at hc hl ⊢
  rw [if_pos rfl] at hl
  rw [e2]
  omega
 ·have h0:=h i z hi g
  rw [if_neg (by omega)] at hl
  omega
theorem CT.enter {k:Nat} {m:M} (h:MI k m) (hc:CT m) {n:Int} (hn:0≤n∧n<m.th.length) (a:Int):CT (m.enter n a).1:=by
 unfold M.enter
 split
 ·exact hc
 rename_i ha
 have ha:1≤a∧a≤m.p.1-1:=by rw [←bG];simpa using ha
 split
 ·exact hc
 rename_i hp
 split
 ·exact hc
 rename_i hu
 have hp:(m.aA n).aF.length<6:=by
  unfold push at hp
  split at hp
  ·exact absurd (by decide) hp
  ·omega
 have hx:=h.te (i:=a) (by omega)
 have Dx:lz m.sc 1 a=true:=cg.2 ⟨by omega,by rw [h.ls];omega⟩
 have zj:=h.si.cr _ _ hx
 unfold cZ at hu ⊢
 rw [if_pos Dx] at hu ⊢
 split
 ·rename_i h0
  have Ln:=m9 zj h0
  refine hc.xE h hn (a:=a) (by omega) 1 ?_ (fun s=>?_)
  ·rw [Ln.1]
  ·unfold push
   rw [if_neg (by omega)]
   simp only
   rw [List.count_append,List.count_singleton]
   by_cases e:s=a
   ·subst e;simp
   ·rw [if_neg e,if_neg (by simp;intro e2;exact e e2.symm)];simp
 ·rename_i h0
  rw [if_neg h0] at hu;exact absurd h0 hu
theorem ug {l:List cW} {x:cW} (h:l.getLast?=some x):l=l.dropLast++[x]:=by
 obtain ⟨l',rfl⟩:=List.getLast?_eq_some_iff.1 h
 simp
theorem CT.leave {k:Nat} {m:M} (h:MI k m) (hc:CT m) {n:Int} (hn:0≤n∧n<m.th.length) {s:Int} {a:LF} (h1:1≤s∧s<m.p.1) (h2:(ah m.sc s).1.1=2) (hl:(m.aA n).aF.getLast?=some (s,true)):CT (m.leave n s (m.aA n).aF.dropLast a).1:=by
 have hx:=h.te (i:=s) (by omega)
 have hr:=h.si.cr _ _ hx
 rw [M.pa h1.1 (by rw [h.ls];exact h1.2) hr h2]
 have hd:∀q,((m.aA n).aF.dropLast.count (q,true):Int)=(m.aA n).aF.count (q,true)+(if q=s then -1 else 0):=by
  intro q
  conv=>rhs;arg 1;rw [ug hl]
  rw [List.count_append,List.count_singleton]
  by_cases e:q=s
  ·subst e;simp;omega
  ·rw [if_neg e,if_neg (by simp;intro e2;exact e e2.symm)];simp
 split
 ·rename_i h3
  exact hc.xE h hn h1 (-1) (by simp only;omega) hd
 ·exact hc.xE h hn h1 (-1) (by simp only;omega) hd
theorem CT.aF {m:M} (h:CT m) {n:Int} (hn:0≤n∧n<m.th.length) {l:List cW} (hl:∀s,l.count (s,true)=(m.aA n).aF.count (s,true)):CT (m.dy n l):=h.fS hn (fun s=>hl s)
theorem CT.exit {k:Nat} {m:M} (h:MI k m) (hc:CT m) {n:Int} (hn:0≤n∧n<m.th.length):CT (m.exit n).1:=by
 have ht:=h.aA hn
 unfold M.exit
 split
 ·exact hc
 ·rename_i x hx
  obtain ⟨s,b⟩:=x
  split
  ·rename_i hb
   have hb:b=false:=hb
   subst hb
   refine hc.aF hn (fun q=>?_)
   conv=>rhs;rw [ug hx]
   rw [List.count_append,List.count_singleton]
   simp
  ·rename_i hb
   have hm:=sq hx
   have hb:b=true:=by simpa using hb
   subst hb
   have kP:=h.live hc (M.rH hn) (.inr hm)
   have hr:=ht.2.2.PN _ hm
   have h1:=hr.2.2 rfl
   simp only at h1
   have ha:=(h.wO (i:=s) ⟨kP.2.2.1,kP.2.2.2⟩).2
   have GO:=h.vc (i:=s) ⟨kP.2.2.1,kP.2.2.2⟩ (ha.fin m.f)
   split
   ·split
    ·exact hc
    ·exact CT.leave GO hc hn ⟨h1,kP.2.2.2⟩ kP.2.1 hx
   ·exact CT.leave h hc hn ⟨h1,kP.2.2.2⟩ kP.2.1 hx
theorem CT.oj {k:Nat} {m:M} (h:MI k m) (hc:CT m) {n:Int} (hn:0≤n∧n<m.th.length) (a:Int):CT (m.oj n a).1:=by
 unfold M.oj
 split
 ·exact hc
 split
 ·exact hc
 split
 ·exact hc
 rename_i hp
 have hp:(m.aA n).aF.length<6:=by
  unfold push at hp
  split at hp
  ·exact absurd (by decide) hp
  ·omega
 refine hc.aF hn (fun s=>?_)
 unfold push
 rw [if_neg (by omega)]
 simp
theorem CT.put {m to:M} (h:CT m) (ht:CT to) (l:List cW) (v s:Int):CT (m.put l v s to).1:=by
 unfold M.put
 split
 ·exact ht
 ·split
  ·exact h
  ·split
   ·exact h
   ·split
    ·exact h
    ·exact ht
theorem CT.create {k:Nat} {m:M} (h:MI k m) (hc:CT m) (a:Int):CT { m with sc:=(bW m.sc m.fl a).1,fl:=(bW m.sc m.fl a).2.1 }:=by
 refine hc.of (fun i y hi hy=>?_) (fun s=>rfl)
 have hy:(bW m.sc m.fl a).1[i]?=some y:=hy
 unfold bW at hy
 split at hy
 ·exact ⟨y,hy,rfl⟩
 ·cases mF:iq m.sc with
  | none=>rw [mF] at hy;exact ⟨y,hy,rfl⟩
  | some j=>
   rw [mF] at hy
   simp only at hy
   cases hcv:jF m.fl (rC a) with
   | none=>rw [hcv] at hy;exact ⟨y,hy,rfl⟩
   | some r=>
    rw [hcv] at hy
    obtain ⟨x,h1,h2⟩:=jC mF
    exact xB h1 (by rw [ma h1]) i y hi hy
theorem CT.qf {k:Nat} {m:M} (h:MI k m) (hc:CT m) (a:Int):CT { m with sc:=(bL m.fr m.en m.sc m.fl a).1,fl:=(bL m.fr m.en m.sc m.fl a).2.1 }:=by
 refine hc.of (fun i y hi hy=>?_) (fun s=>rfl)
 have hy:(bL m.fr m.en m.sc m.fl a).1[i]?=some y:=hy
 unfold bL at hy
 split at hy
 ·exact ⟨y,hy,rfl⟩
 ·rename_i hn
  have hn:1≤a∧a<m.sc.length:=by rw [←cg];simpa using hn
  split at hy
  ·exact ⟨y,hy,rfl⟩
  ·split at hy
   ·exact ⟨y,hy,rfl⟩
   ·rename_i h1
    have hx:=jr (l:=m.sc) (i:=a) (by omega) hn.2
    have zj:=h.si.cr _ _ hx
    refine xB hx ?_ i y hi hy
    have h1:(ah m.sc a).1.1=1:=by simpa using h1
    unfold bc at zj
    rw [h1] at zj
    simp at zj
    simp only;omega
theorem CT.alloc {m:M} (hc:CT m) {n:Int} (hn:0≤n∧n<m.th.length) (r a b t:Int):CT (m.alloc n r a b t).1:=by
 unfold M.alloc
 refine dw (fun o:Out=>CT o.1) (fun _=>hc) fun _=>?_
 exact dw (fun o:Out=>CT o.1) (fun _=>hc) fun _=>CT.hJ (m:=M.dm m _ _) hc hn _ _
theorem CT.load {m:M} (hc:CT m) {n:Int} (hn:0≤n∧n<m.th.length) (r g b:Int):CT (m.load n r g b).1:=by
 unfold M.load
 refine dw (fun o:Out=>CT o.1) (fun _=>hc) fun _=>?_
 split
 ·exact hc
 ·exact dw (fun o:Out=>CT o.1) (fun _=>hc) fun _=>hc.hJ hn _ _
theorem CT.store {m:M} (hc:CT m) (n g v b:Int):CT (m.store n g v b).1:=by
 unfold M.store
 refine dw (fun o:Out=>CT o.1) (fun _=>hc) fun _=>?_
 split
 ·exact hc
 ·exact dw (fun o:Out=>CT o.1) (fun _=>hc) fun _=>CT.put hc (CT.setObj hc _ _) _ _ _
theorem CT.fX {m:M} (hc:CT m) {n:Int} (hn:0≤n∧n<m.th.length) (r a:Int):CT (m.fX n r a).1:=by
 unfold M.fX
 refine dw (fun o:Out=>CT o.1) (fun _=>hc) fun _=>?_
 exact dw (fun o:Out=>CT o.1) (fun _=>hc) fun _=>hc.hJ hn _ _
theorem CT.gate {m:M} (hc:CT m) (n v a:Int):CT (m.gate n v a).1:=by
 unfold M.gate
 refine dw (fun o:Out=>CT o.1) (fun _=>hc) fun _=>?_
 exact dw (fun o:Out=>CT o.1) (fun _=>hc) fun _=>CT.put hc (CT.dm hc _ _) _ _ _
theorem CT.act {k:Nat} {m:M} (h:MI k m) (hc:CT m) {n:Int} (hn:0≤n∧n<m.th.length) (c:qm):CT (m.act n c).1:=by
 obtain ⟨op,r,g,v,a,b,t⟩:=c
 refine dw (fun o:Out=>CT o.1) (fun _=>hc) fun _=>?_
 refine dw (fun o:Out=>CT o.1) (fun _=>hc.hJ hn _ _) fun _=>?_
 refine dw (fun o:Out=>CT o.1) (fun _=>CT.create h hc a) fun _=>?_
 refine dw (fun o:Out=>CT o.1) (fun _=>CT.qf h hc a) fun _=>?_
 refine dw (fun o:Out=>CT o.1) (fun _=>CT.enter h hc hn a) fun _=>?_
 refine dw (fun o:Out=>CT o.1) (fun _=>CT.exit h hc hn) fun _=>?_
 refine dw (fun o:Out=>CT o.1) (fun _=>CT.oj h hc hn a) fun _=>?_
 refine dw (fun o:Out=>CT o.1) (fun _=>hc.alloc hn r a b t) fun _=>?_
 refine dw (fun o:Out=>CT o.1) (fun _=>hc.load hn r g b) fun _=>?_
 refine dw (fun o:Out=>CT o.1) (fun _=>hc.store n g v b) fun _=>?_
 refine dw (fun o:Out=>CT o.1) (fun _=>hc.fX hn r a) fun _=>?_
 exact dw (fun o:Out=>CT o.1) (fun _=>hc.gate n v a) fun _=>hc
theorem CT.step {k:Nat} {m:M} (h:MI k m) (hc:CT m) (n:Int) (c:qm):CT (m.step n c).1:=by
 unfold M.step
 split
 ·exact hc
 ·rename_i hn
  have hn:0≤n∧n≤(m.th.length:Int)-1:=by rw [←bG];simpa using hn
  split
  ·exact hc
  ·exact CT.act h hc ⟨hn.1,by omega⟩ c
theorem AB:∀(l:List Nat),(∀v∈l,v=0)→l.sum=0
 | [],_=>rfl
 | x::l,h=>by rw [List.sum_cons,h x (by simp),AB l (fun v hv=>h v (by simp [hv]))]
theorem MI.new {p:rA} {f:List (List iw)} (hp:dz p=true) (hf:m8 f):MI 0 (M.new p f)∧CT (M.new p f):=by
 have h:=cL.1 hp
 have GP:∀(i:Nat) (x:eY),1≤i→(M.new p f).sc[i]?=some x→x=((0,0,-1,0),(0,0)):=by
  intro i x hi hx
  cases i with
  | zero=>omega
  | succ i=>
   have hx:(List.replicate (p.1-1).toNat (((0,0,-1,0),(0,0)):eY))[i]?=some x:=by simpa [M.new] using hx
   exact List.eq_of_mem_replicate (zG hx)
 have JV:∀x:eY,(M.new p f).sc[0]?=some x→x=((2,1,-1,0),(p.1*64,p.2.2.1)):=by
  intro x hx
  have:some (((2,1,-1,0),(p.1*64,p.2.2.1)):eY)=some x:=by simpa [M.new] using hx
  cases this;rfl
 have mF:(M.new p f).fr=p.1*64+p.2.2.1:=rfl
 have hen:(M.new p f).en=p.1*64+p.2.2.1+p.2.2.2:=rfl
 have uC:∀t∈(M.new p f).th,t=⟨[0,0,0,0],[]⟩:=fun t ht=>List.eq_of_mem_replicate ht
 refine ⟨⟨by omega,hp,hf,⟨by rw [mF,hen];omega,?_,?_,?_,?_,?_,?_,?_,?_⟩,?_,?_,?_,?_,?_,?_⟩,?_⟩
 ·rw [show (M.new p f).sc.length=(p.1-1).toNat+1 by simp [M.new]];omega
 ·intro x hx
  have hx:x∈(if 0<p.2.2.2 then [(p.1*64+p.2.2.1,p.2.2.2)] else []):=hx
  split at hx
  ·simp only [zF] at hx
   subst hx
   unfold lQ;rw [mF,hen];simp only;omega
  ·cases hx
 ·show List.Pairwise dj (if 0<p.2.2.2 then [(p.1*64+p.2.2.1,p.2.2.2)] else [])
  split
  ·exact List.pairwise_singleton _ _
  ·exact List.Pairwise.nil
 ·intro i x hx
  rcases Nat.eq_zero_or_pos i with rfl | hi
  ·rw [JV x hx];exact (by decide:bc (2,1,-1,0)=true)
  ·rw [GP i x hi hx];exact (by decide:bc (0,0,-1,0)=true)
 ·intro i x hi hx h0
  rw [GP i x hi hx] at h0;exact absurd rfl h0
 ·intro i x hi hx h0
  rw [GP i x hi hx] at h0;exact absurd rfl h0
 ·intro i j x y hi hj hn hx hy h0
  rw [GP i x hi hx] at h0;exact absurd rfl h0
 ·intro x hx
  rw [JV x hx,mF]
  refine ⟨rfl,?_⟩
  show 0≤p.1*64∧p.1*64%8=0∧0≤p.2.2.1∧p.2.2.1%8=0∧p.1*64+p.2.2.1≤p.1*64+p.2.2.1∧8≤p.1*64
  omega
 ·show (if 0<p.2.2.2 then [(p.1*64+p.2.2.1,p.2.2.2)] else []).length≤0+1
  split<;>simp
 ·show ((_::_:List eY).length:Int)=p.1
  simp;omega
 ·show ((List.replicate p.1.toNat uI).length:Int)=p.1
  simp;omega
 ·show ((List.replicate p.2.1.toNat _).length:Int)=p.2.1
  simp;omega
 ·intro t ht
  rw [uC t ht]
  refine ⟨rfl,fun v hv=>?_,⟨by simp,fun e he=>by simp at he,fun A B s e=>by simp at e⟩⟩
  have:v=0:=by simpa using hv
  subst this;simp [u64]
 ·intro i x a hx ha
  have ha:(List.replicate p.1.toNat uI)[i]?=some a:=ha
  have:=List.eq_of_mem_replicate (zG ha)
  subst this
  refine AI.empty ?_
  rcases Nat.eq_zero_or_pos i with rfl | hi
  ·rw [JV x hx];simp only;omega
  ·rw [GP i x hi hx];simp
 ·intro i x hi hx
  rw [GP i x hi hx]
  have:Fv (M.new p f).th (i:Int)=0:=by
   unfold Fv
   refine AB _ fun v hv=>?_
   obtain ⟨t,ht,rfl⟩:=List.mem_map.1 hv
   rw [uC t ht];rfl
  rw [this];rfl
end Go.jG
namespace Go.Proofs.YtihiooaimdoapaaGreat
open Go.Bm Go.jG
structure NA where
 used:Int
 gate:Int
 jo:Option Nat
 os:List (Nat×Nat×ku)
def NA.er (a:NA):mz:=⟨a.used,a.gate,a.os.map fun x=>x.2.2⟩
structure Cm where
 sc:Nat
 ja:Nat
 jt:Nat
 mp:Nat
def At (L:List NA) (i p:Nat) (x:Nat×Nat×ku):Prop:=∃a,L[i]?=some a∧a.os[p]?=some x
structure MR (c0:T0) (c1:T1) (d0:T2) (d1:T3) (d2:T4) (d3:T5) (d4:T6) (d5:T7) (d6:T8) (d7:T9) (d8:dQ) (md:Nat) (m:M) (N:Cm) (L:List NA) (es:List (jl×Option Nat)):Prop where
 box:c0[md]?=some (m.p,(m.f,(some N.sc,(some N.ja,(some N.jt,some N.mp)))))
 sr:mH c1 d0 d1 d2 N.sc m.fr m.en m.sc m.fl
 th:aE d4 N.jt=some (m.th.map fun t=>(t.cP,t.aF))
 ar:aE d3 N.ja=some (L.map fun a=>(a.used,(a.gate,a.jo)))
 er:m.ar=L.map NA.er
 jo:∀a∈L,(a.jo=none∧a.os=[])∨∃j,a.jo=some j∧aE d7 j=some (a.os.map fun x=>some x.1)
 ob:∀i p x,At L i p x→d6[x.1]?=some (x.2.2.ref,(x.2.2.tag,(some x.2.1,x.2.2.done)))∧aE d8 x.2.1=some x.2.2.bg
 n6:∀i j p q x y,At L i p x→At L j q y→x.1=y.1→i=j∧p=q
 n8:∀i j p q x y,At L i p x→At L j q y→x.2.1=y.2.1→i=j∧p=q
 n7:∀(i j:Nat) (a b:NA) (r:Nat),L[i]?=some a→L[j]?=some b→a.jo=some r→b.jo=some r→i=j
 mp:d5[N.mp]?=some es
 ek:(es.map fun e=>e.1).Nodup
 em:∀r v,(r,v)∈es↔∃i p x,At L i p x∧r=x.2.2.ref∧v=some x.1
def tW (c0:T0) (c1:T1) (d0:T2) (d1:T3) (d2:T4) (d3:T5) (d4:T6) (d5:T7) (d6:T8) (d7:T9) (d8:dQ) (md:Nat) (m:M):Prop:=∃N L es,MR c0 c1 d0 d1 d2 d3 d4 d5 d6 d7 d8 md m N L es
abbrev FG:Type:=(((Int×(Int×(List Int)))×(Int×Unit))×(T2×(T3×(T4×(T5×(T6×(T7×(T8×(T9×(dQ×Unit))))))))))
def bI (x:Option FG) (c0:T0) (c1:T1) (md:Nat) (o:Out):Prop:=∃d0 d1 d2 d3 d4 d5 d6 d7 d8,x=some (((o.2.1,(o.2.2.1,o.2.2.2)),(0,())),(d0,(d1,(d2,(d3,(d4,(d5,(d6,(d7,(d8,()))))))))))
 ∧ tW c0 c1 d0 d1 d2 d3 d4 d5 d6 d7 d8 md o.1
theorem bI.of {x y:Option FG} {c0:T0} {c1:T1} {md:Nat} {o:Out} (e:x=y) (h:bI y c0 c1 md o):bI x c0 c1 md o:=by rw [e];exact h
theorem DS {x y:Option FG} {c0:T0} {c1:T1} {md:Nat} {o:Out} (k:bI y c0 c1 md o) (h:x=y:=by (first | with_reducible exact (cJ _ _) | with_reducible exact a8 | with_reducible exact ba | with_reducible exact bh | with_reducible exact (rV (by assumption)) | with_reducible exact (tZ (by assumption)) | with_reducible exact (oA (by assumption)) | with_reducible exact (uH (by assumption)) | with_reducible exact a7 | with_reducible exact aO | with_reducible exact bY | with_reducible exact bX | with_reducible exact b6 | with_reducible exact b7 | with_reducible exact b9 | with_reducible exact b8 | with_reducible exact bD | with_reducible exact z8 | (with_reducible apply Cg;with_reducible (first | exact bB _ _ _ | assumption | exact aB (by assumption) | exact aB (aB (by assumption)) | exact aB (aB (aB (by assumption))) | exact aB (aB (aB (aB (by assumption)))) | exact aB (aB (aB (aB (aB (by assumption))))))) | (with_reducible refine aX ?qh;case qh=>first | omega | (simp (disch:=omega) only [aH,aL,aZ,bM,bS,aS,a9,cz,bt,cK,cH,aU,aG,zE,List.length_nil,zO,zR,zH,fF,fK,dL,lA,db,zM]<;>omega)) | (with_reducible refine a6 ?qh;case qh=>first | omega | (simp (disch:=omega) only [aH,aL,aZ,bM,bS,aS,a9,cz,bt,cK,cH,aU,aG,zE,List.length_nil,zO,zR,zH,fF,fK,dL,lA,db,zM]<;>omega)) | (with_reducible refine aY ?qh;case qh=>first | omega | (simp (disch:=omega) only [aH,aL,aZ,bM,bS,aS,a9,cz,bt,cK,cH,aU,aG,zE,List.length_nil,zO,zR,zH,fF,fK,dL,lA,db,zM]<;>omega)) | (with_reducible refine a_ ?qh;case qh=>first | omega | (simp (disch:=omega) only [aH,aL,aZ,bM,bS,aS,a9,cz,bt,cK,cH,aU,aG,zE,List.length_nil,zO,zR,zH,fF,fK,dL,lA,db,zM]<;>omega)) | (with_reducible refine ao ?qh;case qh=>first | omega | (simp (disch:=omega) only [aH,aL,aZ,bM,bS,aS,a9,cz,bt,cK,cH,aU,aG,zE,List.length_nil,zO,zR,zH,fF,fK,dL,lA,db,zM]<;>omega)) | (with_reducible refine au ?qh;case qh=>first | omega | (simp (disch:=omega) only [aH,aL,aZ,bM,bS,aS,a9,cz,bt,cK,cH,aU,aG,zE,List.length_nil,zO,zR,zH,fF,fK,dL,lA,db,zM]<;>omega)))):bI x c0 c1 md o:=by rw [h];exact k
theorem DN {x y:Option FG} {c0:T0} {c1:T1} {md:Nat} {o:Out} (k:bI y c0 c1 md o) (h:x=y:=by (first | with_reducible exact a8 | with_reducible exact ba | with_reducible exact bh | with_reducible exact (rV (by assumption)) | with_reducible exact (tZ (by assumption)) | with_reducible exact (oA (by assumption)) | with_reducible exact (uH (by assumption)) | with_reducible exact a7 | with_reducible exact aO | with_reducible exact bY | with_reducible exact bX | with_reducible exact b6 | with_reducible exact b7 | with_reducible exact b9 | with_reducible exact b8 | with_reducible exact bD | with_reducible exact z8 | (with_reducible apply Cg;with_reducible (first | exact bB _ _ _ | assumption | exact aB (by assumption) | exact aB (aB (by assumption)) | exact aB (aB (aB (by assumption))) | exact aB (aB (aB (aB (by assumption)))) | exact aB (aB (aB (aB (aB (by assumption))))))) | (with_reducible refine aX ?qh;case qh=>first | omega | (simp (disch:=omega) only [aH,aL,aZ,bM,bS,aS,a9,cz,bt,cK,cH,aU,aG,zE,List.length_nil,zO,zR,zH,fF,fK,dL,lA,db,zM]<;>omega)) | (with_reducible refine a6 ?qh;case qh=>first | omega | (simp (disch:=omega) only [aH,aL,aZ,bM,bS,aS,a9,cz,bt,cK,cH,aU,aG,zE,List.length_nil,zO,zR,zH,fF,fK,dL,lA,db,zM]<;>omega)) | (with_reducible refine aY ?qh;case qh=>first | omega | (simp (disch:=omega) only [aH,aL,aZ,bM,bS,aS,a9,cz,bt,cK,cH,aU,aG,zE,List.length_nil,zO,zR,zH,fF,fK,dL,lA,db,zM]<;>omega)) | (with_reducible refine a_ ?qh;case qh=>first | omega | (simp (disch:=omega) only [aH,aL,aZ,bM,bS,aS,a9,cz,bt,cK,cH,aU,aG,zE,List.length_nil,zO,zR,zH,fF,fK,dL,lA,db,zM]<;>omega)) | (with_reducible refine ao ?qh;case qh=>first | omega | (simp (disch:=omega) only [aH,aL,aZ,bM,bS,aS,a9,cz,bt,cK,cH,aU,aG,zE,List.length_nil,zO,zR,zH,fF,fK,dL,lA,db,zM]<;>omega)) | (with_reducible refine au ?qh;case qh=>first | omega | (simp (disch:=omega) only [aH,aL,aZ,bM,bS,aS,a9,cz,bt,cK,cH,aU,aG,zE,List.length_nil,zO,zR,zH,fF,fK,dL,lA,db,zM]<;>omega)))):bI x c0 c1 md o:=by rw [h];exact k
theorem QH {α:Type} {x:Option α} {f:α→Option FG} {a:α} {c0:T0} {c1:T1} {md:Nat} {o:Out} (h:x=some a) (k:bI (f a) c0 c1 md o):bI (bd x f) c0 c1 md o:=by rw [h];exact k
section
variable {c0:T0} {c1:T1} {d0:T2} {d1:T3} {d2:T4} {d3:T5} {d4:T6} {d5:T7} {d6:T8} {d7:T9} {d8:dQ} {md:Nat} {m:M}
theorem yV (e:Int):g.aQ e=some (((e,(0,[])),()),()):=rfl
theorem bI.code (h:tW c0 c1 d0 d1 d2 d3 d4 d5 d6 d7 d8 md m) (e:Int):bI (some (((e,(0,[])),(0,())),(d0,(d1,(d2,(d3,(d4,(d5,(d6,(d7,(d8,()))))))))))) c0 c1 md (m.code e):=⟨_,_,_,_,_,_,_,_,_,rfl,h⟩
theorem Im (c:qm) {K:((Bool×Unit)×Unit)→Option FG}:bd (g.bR (c.1,(c.2.1,(c.2.2.1,(c.2.2.2.1,(c.2.2.2.2.1,(c.2.2.2.2.2.1,c.2.2.2.2.2.2))))))) K=K ((cC c,()),()):=nL (sf c) rfl
theorem ke {c:qm} (hr:cC c=true) {K:((Bool×Unit)×Unit)→Option FG}:bd (g.bR (c.1,(c.2.1,(c.2.2.1,(c.2.2.2.1,(c.2.2.2.2.1,(c.2.2.2.2.2.1,c.2.2.2.2.2.2))))))) K=K ((true,()),()):=by rw [Im,hr]
theorem mW {n:Int} (hn:0≤n∧n<m.th.length):nth ([0,0,0,0],[]) (m.th.map fun t=>(t.cP,t.aF)) (nN n)=((m.aA n).cP,(m.aA n).aF):=by
 refine bj ?_
 rw [zL]
 show (m.th[n.toNat]?).map _=_
 rw [M.pV hn];rfl
theorem nT {n:Int} (hn:0≤n∧n<m.th.length) (t:Aw) (f:List Int×List cW→List Int×List cW) (hf:f ((m.aA n).cP,(m.aA n).aF)=(t.cP,t.aF)):aw ([0,0,0,0],[]) (m.th.map fun t=>(t.cP,t.aF)) (nN n) f=(m.fS n t).th.map fun t=>(t.cP,t.aF):=by
 unfold aw aT
 rw [mW hn,hf]
 unfold M.fS
 rw [List.map_set];rfl
theorem pJ {n r v:Int} (h:(m.aA n).cP.length=4) (hr:r.toNat<4):cm 0 (m.aA n).cP (nN r) v=(m.aA n).cP.set r.toNat v:=by
 unfold cm
 rw [if_pos (by rw [h];exact hr)];rfl
theorem MR.fS {N:Cm} {L:List NA} {es:List (jl×Option Nat)} (h:MR c0 c1 d0 d1 d2 d3 d4 d5 d6 d7 d8 md m N L es) (n:Int) (t:Aw):MR c0 c1 d0 d1 d2 d3 (aT d4 N.jt (some ((m.fS n t).th.map fun t=>(t.cP,t.aF)))) d5 d6 d7 d8 md (m.fS n t) N L es:=
 ⟨h.box,h.sr,aB h.th,h.ar,h.er,h.jo,h.ob,h.n6,h.n8,h.n7,h.mp,h.ek,h.em⟩
theorem oW {c:qm} {l:List Int} (hr:cC c=true) (hl:rP c=l):∀r∈l,r<4:=by
 unfold cC at hr
 rw [hl,List.all_eq_true] at hr
 intro r hm
 simpa using hr r hm
theorem Ti (h:tW c0 c1 d0 d1 d2 d3 d4 d5 d6 d7 d8 md m) (n:Int) {c:qm} (hr:cC c=true):bI (g.ik md n c c0 c1 d0 d1 d2 d3 d4 d5 d6 d7 d8) c0 c1 md (m.code 0):=by
 unfold g.ik
 refine bI.of (ke hr) ?_
 repeat refine DS ?_
 exact bI.code h 0
theorem Tg {N:Cm} {L:List NA} {es:List (jl×Option Nat)} (h:MR c0 c1 d0 d1 d2 d3 d4 d5 d6 d7 d8 md m N L es) {k:Nat} (hi:MI k m) {n:Int} (hn:0≤n∧n<m.th.length) {r gg v a b t:Int} (hr:cC (1,r,gg,v,a,b,t)=true) (E2:0≤r) :
  bI (g.fc md n (1,r,gg,v,a,b,t) c0 c1 d0 d1 d2 d3 d4 d5 d6 d7 d8 N.jt) c0 c1 md (M.code (m.hJ n r (kQ .u64 a)) 0):=by
 have uC:=h.th
 have JG:r<4:=oW (c:=(1,r,gg,v,a,b,t)) (l:=[r]) hr rfl r (by simp)
 have ht:=hi.aA hn
 unfold g.fc
 refine bI.of (ke (c:=(1,r,gg,v,a,b,t)) hr) ?_
 dsimp only
 repeat refine DS ?_
 rw [nT hn ⟨(m.aA n).cP.set r.toNat (kQ .u64 a),(m.aA n).aF⟩ _ (by dsimp only;rw [pJ ht.1 (by omega)])]
 exact bI.code ⟨N,L,es,h.fS n _⟩ 0
theorem mT {N:Cm} {L:List NA} {es:List (jl×Option Nat)} (h:MR c0 c1 d0 d1 d2 d3 d4 d5 d6 d7 d8 md m N L es):nth jg c0 md=(m.p,(m.f,(some N.sc,(some N.ja,(some N.jt,some N.mp))))):=bj h.box
theorem Tf {N:Cm} {L:List NA} {es:List (jl×Option Nat)} (h:MR c0 c1 d0 d1 d2 d3 d4 d5 d6 d7 d8 md m N L es) {k:Nat} (hi:MI k m) (n:Int) {r gg v a b t:Int} :
  bI (g.ij md n (2,r,gg,v,a,b,t) c0 c1 d0 d1 d2 d3 d4 d5 d6 d7 d8) c0 c1 md ({ m with sc:=(bW m.sc m.fl a).1,fl:=(bW m.sc m.fl a).2.1 },((bW m.sc m.fl a).2.2.2,(bW m.sc m.fl a).2.2.1,[])):=by
 have Qg:=hi.fk
 have Al:=hi.kk
 have zf:=hi.si.len
 obtain ⟨As,sL,Ar,k1,k2⟩:=AF h.sr a hi.xok (by omega) (by omega)
 unfold g.ij
 refine bI.of (ke (c:=(2,r,gg,v,a,b,t)) rfl) ?_
 simp only [mT h]
 repeat refine DS ?_
 exact ⟨_,_,_,_,_,_,_,_,_,rfl,N,L,es,h.box,k2,h.th,h.ar,h.er,h.jo,h.ob,h.n6,h.n8,h.n7,h.mp,h.ek,h.em⟩
theorem Te {N:Cm} {L:List NA} {es:List (jl×Option Nat)} (h:MR c0 c1 d0 d1 d2 d3 d4 d5 d6 d7 d8 md m N L es) {k:Nat} (hi:MI k m) (n:Int) {r gg v a b t:Int} :
  bI (g.ig md n (3,r,gg,v,a,b,t) c0 c1 d0 d1 d2 d3 d4 d5 d6 d7 d8) c0 c1 md (M.code { m with sc:=(bL m.fr m.en m.sc m.fl a).1,fl:=(bL m.fr m.en m.sc m.fl a).2.1 } (bL m.fr m.en m.sc m.fl a).2.2):=by
 have Qg:=hi.fk
 have Al:=hi.kk
 have zf:=hi.si.len
 obtain ⟨As,sL,Ar,k1,k2⟩:=yt h.sr hi.si a (by omega)
 have k3:=yV (bL m.fr m.en m.sc m.fl a).2.2
 unfold g.ig
 refine bI.of (ke (c:=(3,r,gg,v,a,b,t)) rfl) ?_
 simp only [mT h]
 repeat refine DS ?_
 exact ⟨_,_,_,_,_,_,_,_,_,rfl,N,L,es,h.box,k2,h.th,h.ar,h.er,h.jo,h.ob,h.n6,h.n8,h.n7,h.mp,h.ek,h.em⟩
theorem z6 {l:List cW} (e:cW) (hl:l.length≤1000):g.lj l e=some (((push l e).1,((push l e).2,())),()):=by
 unfold g.lj push
 by_cases h:6≤l.length
 ·rw [if_pos h]
  repeat refine HS ?_
  rfl
 ·rw [if_neg h]
  have e1:(dr (len l) (rep (α:=(Int×Bool)) (nN (ae IntKind.i64 (zN (len l)) 1)) (0,false)))=[(0,false)]:=by
   have:nN (ae IntKind.i64 (zN (len l)) 1)=l.length+1:=by rw [cz,bt,aH (by omega)];rfl
   rw [this]
   unfold dr rep
   rw [List.drop_replicate,bt]
   simp
  rw [e1]
  repeat refine HS ?_
  refine congrArg (fun z=>some ((z,((0:Int),())),())) ?_
  exact Ax rfl
theorem xm:g.kr []=some (([],((0,false),(23,()))),()):=by
 unfold g.kr
 repeat refine HS ?_
 rfl
theorem oD {l:List cW} (hl:l.length≤1000):g.gL l=some ((l,()),()):=by
 unfold g.gL
 repeat refine HS ?_
 rfl
theorem B_ {l:List cW} {x:cW} (hl:l.length≤1000) (hx:l.getLast?=some x):g.kr l=some ((l.dropLast,(x,(0,()))),()):=by
 obtain ⟨l',rfl⟩:=List.getLast?_eq_some_iff.1 hx
 have xh:(l'++[x]).length=l'.length+1:=by simp
 have e1:aK IntKind.i64 (zN (len (l'++[x]))) 1=(l'.length:Int):=by rw [cz,bt,aL (by omega)];omega
 have e2:tk (aG (nN (l'.length:Int)) 0) (dr 0 (l'++[x]))=l':=by
  unfold tk dr aG
  rw [List.drop_zero,cK,Nat.sub_zero]
  exact List.take_left' rfl
 unfold g.kr
 rw [e1,e2]
 repeat refine HS ?_
 refine nL (oD (by omega)) ?_
 repeat refine HS ?_
 rw [Bl (by rfl),List.dropLast_concat]
theorem Fh {r q:jl}:ng (Ty.pair (Ty.int IntKind.i64) (Ty.pair (Ty.int IntKind.i64) (Ty.int IntKind.i64))) r q=true↔r=q:=by
 obtain ⟨a,b,c⟩:=r
 obtain ⟨a',b',c'⟩:=q
 show (aj a a' && (aj b b' && aj c c'))=true↔_
 simp [aj]
theorem xO {p:jl→Bool} {r:jl} (hp:∀q,p q=true↔r=q):∀(es:List (jl×Option Nat)) (i:Nat),(∀v,(r,v)∉es)→oO p es i=none
 | [],i,h=>rfl
 | (q,v)::es,i,h=>by
  show (bif p q then some (i,v) else oO p es (i+1))=none
  cases hq:p q with
  | true=>
   rw [hp] at hq
   subst hq
   exact absurd (by simp) (h v)
  | false=>
   exact xO hp es (i+1) (fun w hw=>h w (by simp [hw]))
theorem xN {p:jl→Bool} {r:jl} (hp:∀q,p q=true↔r=q) {v:Option Nat}:∀(es:List (jl×Option Nat)) (i:Nat),(es.map fun e=>e.1).Nodup→(r,v)∈es→∃j,oO p es i=some (i+j,v)∧es[j]?=some (r,v)
 | [],i,_,h=>by cases h
 | (q,w)::es,i,hk,h=>by
  rw [List.map_cons,List.nodup_cons] at hk
  have e0:oO p ((q,w)::es) i=(bif p q then some (i,w) else oO p es (i+1)):=rfl
  rw [e0]
  cases hq:p q with
  | true=>
   rw [hp] at hq
   subst hq
   rcases List.mem_cons.1 h with h1 | h1
   ·cases h1;exact ⟨0,rfl,rfl⟩
   ·exact absurd (List.mem_map.2 ⟨_,h1,rfl⟩) hk.1
  | false=>
   rcases List.mem_cons.1 h with h1 | h1
   ·cases h1
    rw [(hp _).2 rfl] at hq;cases hq
   ·obtain ⟨j,k1,k2⟩:=xN hp es (i+1) hk.2 h1
    refine ⟨j+1,?_,by simpa using k2⟩
    show oO p es (i+1)=_
    rw [k1];congr 2;omega
theorem Bs {r:jl} (es:List (jl×Option Nat)) (i:Nat) (h:∀v,(r,v)∉es):oO (ng (Ty.pair (Ty.int IntKind.i64) (Ty.pair (Ty.int IntKind.i64) (Ty.int IntKind.i64))) r) es i=none:=xO (fun _=>Fh) es i h
theorem Br {r:jl} {v:Option Nat} (es:List (jl×Option Nat)) (i:Nat) (hk:(es.map fun e=>e.1).Nodup) (h:(r,v)∈es):∃j,oO (ng (Ty.pair (Ty.int IntKind.i64) (Ty.pair (Ty.int IntKind.i64) (Ty.int IntKind.i64))) r) es i=some (i+j,v)∧es[j]?=some (r,v):=xN (fun _=>Fh) es i hk h
theorem MR.place {N:Cm} {L:List NA} {es:List (jl×Option Nat)} (h:MR c0 c1 d0 d1 d2 d3 d4 d5 d6 d7 d8 md m N L es) {k:Nat} (hi:MI k m) {i p:Nat} {x:Nat×Nat×ku} (hx:At L i p x) :
  ∃(a:NA) (y:eY),L[i]?=some a∧a.os[p]?=some x∧m.ar[i]?=some a.er∧m.bA (i:Int)=a.er∧m.sc[i]?=some y∧AI y i k a.er∧a.er.a5[p]?=some x.2.2∧x.2.2.ref.1=(i:Int):=by
 obtain ⟨a,h1,h2⟩:=hx
 have TQ:m.ar[i]?=some a.er:=by rw [h.er,zL,h1];rfl
 have vT:=hi.ls
 have TG:=hi.la
 have dP:=(zB.1 TQ).1
 have MT:m.sc[i]?=some m.sc[i]:=zD (by omega)
 have hA:=hi.ai i _ _ MT TQ
 have ho:a.er.a5[p]?=some x.2.2:=by
  show (a.os.map fun x=>x.2.2)[p]?=_
  rw [zL,h2];rfl
 exact ⟨a,_,h1,h2,TQ,M.tU TQ,MT,hA,ho,(hA.ob _ (zG ho)).1⟩
theorem AI.one {x:eY} {i k:Nat} {a:mz} (h:AI x i k a) {p q:Nat} {o u:ku} (hp:a.a5[p]?=some o) (hq:a.a5[q]?=some u) (e:o.ref=u.ref):p=q:=by
 have YW:=List.pairwise_iff_getElem.1 h.od
 obtain ⟨l1,e1⟩:=zB.1 hp
 obtain ⟨l2,e2⟩:=zB.1 hq
 rcases Nat.lt_trichotomy p q with dP | heq | hgt
 ·have:=YW p q l1 l2 dP
  rw [e1,e2,e] at this;omega
 ·exact heq
 ·have:=YW q p l2 l1 hgt
  rw [e1,e2,e] at this;omega
theorem MR.get {N:Cm} {L:List NA} {es:List (jl×Option Nat)} (h:MR c0 c1 d0 d1 d2 d3 d4 d5 d6 d7 d8 md m N L es) {k:Nat} (hi:MI k m) (r:jl) (h0:0≤r.1) :
  (m.find r=none∧oO (ng (Ty.pair (Ty.int IntKind.i64) (Ty.pair (Ty.int IntKind.i64) (Ty.int IntKind.i64))) r) es 0=none) ∨
  ∃(p:Nat) (x:Nat×Nat×ku) (j:Nat),m.find r=some x.2.2∧oO (ng (Ty.pair (Ty.int IntKind.i64) (Ty.pair (Ty.int IntKind.i64) (Ty.int IntKind.i64))) r) es 0=some (j,some x.1)∧es[j]?=some (r,some x.1)∧At L r.1.toNat p x∧x.2.2.ref=r:=by
 by_cases hex:∃i p x,At L i p x∧r=x.2.2.ref
 ·obtain ⟨i,p,x,hx,rfl⟩:=hex
  obtain ⟨a,y,h1,h2,h3,h4,h5,h6,h7,h8⟩:=h.place hi hx
  obtain ⟨j,k1,k2⟩:=Br es 0 h.ek ((h.em _ (some x.1)).2 ⟨i,p,x,hx,rfl,rfl⟩)
  rw [Nat.zero_add] at k1
  have Qe:x.2.2.ref.1.toNat=i:=by omega
  refine .inr ⟨p,x,j,?_,k1,k2,by rw [Qe];exact hx,rfl⟩
  unfold M.find
  rw [h8,h4]
  cases hf:a.er.a5.find? (fun o=>decide (o.ref=x.2.2.ref)) with
  | none=>
   rw [List.find?_eq_none] at hf
   exact absurd (by simp) (hf x.2.2 (zG h7))
  | some o=>
   have ho1:=List.mem_of_find?_eq_some hf
   have ho2:o.ref=x.2.2.ref:=by simpa using List.find?_some hf
   obtain ⟨i1,g1⟩:=List.getElem?_of_mem ho1
   have e:=AI.one h6 g1 h7 ho2
   rw [e,h7] at g1
   cases g1;rfl
 ·refine .inl ⟨?_,Bs es 0 fun v hv=>?_⟩
  ·cases hf:m.find r with
   | none=>rfl
   | some o=>
    obtain ⟨h1,h2⟩:=M.x5 hf
    exfalso
    unfold M.bA at h1
    rw [h.er,zA,zL] at h1
    cases hL:L[r.1.toNat]? with
    | none=>rw [hL] at h1;cases h1
    | some a=>
     rw [hL] at h1
     obtain ⟨p,hp⟩:=List.getElem?_of_mem h1
     have hp:(a.os.map fun x=>x.2.2)[p]?=some o:=hp
     rw [zL] at hp
     cases hx:a.os[p]? with
     | none=>rw [hx] at hp;cases hp
     | some x=>
      rw [hx] at hp
      cases hp
      exact hex ⟨_,p,x,⟨a,hL,hx⟩,h2.symm⟩
  ·obtain ⟨i,p,x,hx,h1,_⟩:=(h.em r v).1 hv
   exact hex ⟨i,p,x,hx,h1⟩
end
open Go.Bm Go.jG
section
variable {c0:T0} {c1:T1} {d0:T2} {d1:T3} {d2:T4} {d3:T5} {d4:T6} {d5:T7} {d6:T8} {d7:T9} {d8:dQ} {md:Nat} {m:M} {N:Cm} {L:List NA} {es:List (jl×Option Nat)}
theorem KK (h:MR c0 c1 d0 d1 d2 d3 d4 d5 d6 d7 d8 md m N L es):(nth jg c0 md).1.1=m.p.1:=by rw [mT h]
theorem abl (h:MR c0 c1 d0 d1 d2 d3 d4 d5 d6 d7 d8 md m N L es):(nth jg c0 md).2.1=m.f:=by rw [mT h]
theorem rp (h:MR c0 c1 d0 d1 d2 d3 d4 d5 d6 d7 d8 md m N L es):(nth jg c0 md).2.2.1=some N.sc:=by rw [mT h]
theorem rq (h:MR c0 c1 d0 d1 d2 d3 d4 d5 d6 d7 d8 md m N L es):(nth jg c0 md).2.2.2.1=some N.ja:=by rw [mT h]
theorem D2 (h:MR c0 c1 d0 d1 d2 d3 d4 d5 d6 d7 d8 md m N L es):(nth jg c0 md).2.2.2.2.1=some N.jt:=by rw [mT h]
theorem wD (h:MR c0 c1 d0 d1 d2 d3 d4 d5 d6 d7 d8 md m N L es):(nth jg c0 md).2.2.2.2.2=some N.mp:=by rw [mT h]
abbrev abA:Type:=(((Option Nat)×(Int×Unit))×(Unit×(Unit×(Unit×Unit))))
theorem rR {k:Nat} (hi:MI k m) {n:Int} (hn:0≤n∧n<m.th.length) (s:Int):g.dt (nth ([0,0,0,0],[]) (m.th.map fun t=>(t.cP,t.aF)) (nN n)).2 s=some ((reach (m.aA n).aF s,()),()):=by
 rw [mW hn]
 have:=(hi.aA hn).2.2.len
 exact xl (l:=(m.aA n).aF) s (by omega)
theorem uW (h:MR c0 c1 d0 d1 d2 d3 d4 d5 d6 d7 d8 md m N L es) {k:Nat} (hi:MI k m) {n:Int} (hn:0≤n∧n<m.th.length) {V:Int} (hV:u64 V) (hc:(m.check (m.aA n).aF V).1=none) (K:abA→Option FG) :
  (bd (g.fH V) (fun dB=>(jn (fun (PY:((Bool×Unit)×(Unit×(Unit×(Unit×Unit))))→_)=>(br (aC (aj dB.1.2.1 0)) (PY ((true,()),((),((),((),()))))) (PY (((cX (nth jg c0 md).1.1 dB.1.1.1),()),((),((),((),()))))))) (fun (xF:((Bool×Unit)×(Unit×(Unit×(Unit×Unit)))))=>(br xF.1.1 (K ((none,(18,())),((),((),((),()))))) (bd (aE d4 N.jt) (fun jk=>(bd (g.dt (nth ([0,0,0,0],[]) jk (nN n)).2 dB.1.1.1) (fun fM=>(br (aC fM.1.1) (K ((none,(20,())),((),((),((),()))))) (opt (nth jg c0 md).2.2.1 none (fun gY=>(bd (g.b0 gY dB.1.1.1 c1 d0 d1 d2) (fun eM=>(br (aC (aj eM.1.1.2.2.2 dB.1.1.2.1)) (K ((none,(19,())),((),((),((),()))))) (opt (nth jg c0 md).2.2.2.2.2 none (fun dM=>(opt (oO (ng (Ty.pair (Ty.int IntKind.i64) (Ty.pair (Ty.int IntKind.i64) (Ty.int IntKind.i64))) (dB.1.1.1,(dB.1.1.2.1,dB.1.1.2.2))) (nth [] d5 dM) 0) (K ((none,(18,())),((),((),((),()))))) (fun jH=>(opt jH.2 (K ((none,(18,())),((),((),((),()))))) (fun gQ=>(K (((some gQ),(0,())),((),((),((),()))))))))))))))))))))))))))=K ((none,((m.check (m.aA n).aF V).2,())),((),((),((),())))):=by
 have uC:=h.th
 have b1:=KK h
 have b2:=rp h
 have b5:=wD h
 have zf:=hi.si.len
 have hR:=rR hi hn (ay V).1.1
 have hCt:=oT h.sr (ay V).1.1 (by omega)
 have oJ:nth [] d5 N.mp=es:=bj h.mp
 unfold M.check at hc ⊢
 refine nL (nV hV) ?_
 by_cases h1:(ay V).2=0
 ·by_cases h2:m.p.1≤(ay V).1.1
  ·rw [if_pos (.inr h2)]
   repeat refine HS ?_
   rfl
  ·rw [if_neg (by simp [h1];omega)] at hc ⊢
   cases h3:reach (m.aA n).aF (ay V).1.1 with
   | false=>
    rw [if_pos rfl]
    repeat refine HS ?_
    rfl
   | true=>
    rw [h3] at hc
    rw [if_neg (by simp)] at hc ⊢
    by_cases h4:(j9 m.sc (ay V).1.1).1.2.2.2=(ay V).1.2.1
    ·rw [if_neg (by simpa using h4)] at hc ⊢
     have h0:0≤(ay V).1.1:=(cS.1 (gH h1).1).1.1
     rcases h.get hi (ay V).1 h0 with ⟨g1,g2⟩ | ⟨a,x,j,g1,_⟩
     ·rw [g1]
      rw [←oJ] at g2
      repeat refine HS ?_
      refine Eq.trans (tZ g2) ?_
      rfl
     ·rw [g1] at hc;cases hc
    ·rw [if_pos (by simpa using h4)]
     repeat refine HS ?_
     rfl
 ·rw [if_pos (.inl h1)]
  repeat refine HS ?_
  rfl
theorem z5 (h:MR c0 c1 d0 d1 d2 d3 d4 d5 d6 d7 d8 md m N L es) {k:Nat} (hi:MI k m) {n:Int} (hn:0≤n∧n<m.th.length) {V:Int} (hV:u64 V) {o:ku} (hc:(m.check (m.aA n).aF V).1=some o) :
  ∃(p:Nat) (x:Nat×Nat×ku) (j:Nat),o=x.2.2∧es[j]?=some (o.ref,some x.1)∧At L o.ref.1.toNat p x∧∀(K:abA→Option FG),
  (bd (g.fH V) (fun dB=>(jn (fun (PY:((Bool×Unit)×(Unit×(Unit×(Unit×Unit))))→_)=>(br (aC (aj dB.1.2.1 0)) (PY ((true,()),((),((),((),()))))) (PY (((cX (nth jg c0 md).1.1 dB.1.1.1),()),((),((),((),()))))))) (fun (xF:((Bool×Unit)×(Unit×(Unit×(Unit×Unit)))))=>(br xF.1.1 (K ((none,(18,())),((),((),((),()))))) (bd (aE d4 N.jt) (fun jk=>(bd (g.dt (nth ([0,0,0,0],[]) jk (nN n)).2 dB.1.1.1) (fun fM=>(br (aC fM.1.1) (K ((none,(20,())),((),((),((),()))))) (opt (nth jg c0 md).2.2.1 none (fun gY=>(bd (g.b0 gY dB.1.1.1 c1 d0 d1 d2) (fun eM=>(br (aC (aj eM.1.1.2.2.2 dB.1.1.2.1)) (K ((none,(19,())),((),((),((),()))))) (opt (nth jg c0 md).2.2.2.2.2 none (fun dM=>(opt (oO (ng (Ty.pair (Ty.int IntKind.i64) (Ty.pair (Ty.int IntKind.i64) (Ty.int IntKind.i64))) (dB.1.1.1,(dB.1.1.2.1,dB.1.1.2.2))) (nth [] d5 dM) 0) (K ((none,(18,())),((),((),((),()))))) (fun jH=>(opt jH.2 (K ((none,(18,())),((),((),((),()))))) (fun gQ=>(K (((some gQ),(0,())),((),((),((),()))))))))))))))))))))))))))=K ((some x.1,(0,())),((),((),((),())))):=by
 have uC:=h.th
 have b1:=KK h
 have b2:=rp h
 have b5:=wD h
 have zf:=hi.si.len
 have hR:=rR hi hn (ay V).1.1
 have hCt:=oT h.sr (ay V).1.1 (by omega)
 have oJ:nth [] d5 N.mp=es:=bj h.mp
 obtain ⟨_,h1,h2,h3,h4,h5⟩:=M.gO hc
 have h0:0≤(ay V).1.1:=(cS.1 (gH h1).1).1.1
 rcases h.get hi (ay V).1 h0 with ⟨g1,_⟩ | ⟨p,x,j,g1,g2,g3,g4,g6⟩
 ·rw [g1] at h5;cases h5
 ·rw [g1] at h5
  cases h5
  refine ⟨p,x,j,rfl,by rw [g6];exact g3,by rw [g6];exact g4,fun K=>?_⟩
  rw [←oJ] at g2
  refine nL (nV hV) ?_
  rw [h3] at hR
  repeat refine HS ?_
  refine Eq.trans (rV g2) ?_
  rfl
end
open Go.Bm Go.jG
section
variable {c0:T0} {c1:T1} {d0:T2} {d1:T3} {d2:T4} {d3:T5} {d4:T6} {d5:T7} {d6:T8} {d7:T9} {d8:dQ} {md:Nat} {m:M} {N:Cm} {L:List NA} {es:List (jl×Option Nat)}
theorem MR.rel (h:MR c0 c1 d0 d1 d2 d3 d4 d5 d6 d7 d8 md m N L es):tW c0 c1 d0 d1 d2 d3 d4 d5 d6 d7 d8 md m:=⟨N,L,es,h⟩
theorem Fx (h:MR c0 c1 d0 d1 d2 d3 d4 d5 d6 d7 d8 md m N L es) {k:Nat} (hi:MI k m):aK IntKind.i64 (nth jg c0 md).1.1 1=m.p.1-1:=by
 have:=hi.vI
 rw [KK h,aL (by omega)]
theorem ID {k:Nat} (hi:MI k m) {n:Int} (hn:0≤n∧n<m.th.length) (e:cW):g.lj (nth ([0,0,0,0],[]) (m.th.map fun t=>(t.cP,t.aF)) (nN n)).2 e=some (((push (m.aA n).aF e).1,((push (m.aA n).aF e).2,())),()):=by
 rw [mW hn]
 have:=(hi.aA hn).2.2.len
 exact z6 (l:=(m.aA n).aF) e (by omega)
theorem KQ {k:Nat} (hi:MI k m) {n:Int} (hn:0≤n∧n<m.th.length):g.jD (nth ([0,0,0,0],[]) (m.th.map fun t=>(t.cP,t.aF)) (nN n)).2=some ((dE (m.aA n).aF,()),()):=by
 rw [mW hn]
 have:=(hi.aA hn).2.2.len
 exact sN (l:=(m.aA n).aF) (by omega)
theorem FD {k:Nat} (hi:MI k m) {n:Int} (hn:0≤n∧n<m.th.length) (s b:Int):g.iy (nth ([0,0,0,0],[]) (m.th.map fun t=>(t.cP,t.aF)) (nN n)).2 s b=some ((pO (m.aA n).aF s b,()),()):=by
 rw [mW hn]
 have:=(hi.aA hn).2.2.len
 exact xn (l:=(m.aA n).aF) s b (by omega)
theorem Er {n:Int} (hn:0≤n∧n<m.th.length) (r:Int):nth 0 (nth ([0,0,0,0],[]) (m.th.map fun t=>(t.cP,t.aF)) (nN n)).1 (nN r)=m.cT n r:=by
 rw [mW hn];rfl
theorem Td (h:MR c0 c1 d0 d1 d2 d3 d4 d5 d6 d7 d8 md m N L es) {k:Nat} (hi:MI k m) {n:Int} (hn:0≤n∧n<m.th.length) {r gg v a b t:Int} :
  bI (g.ic md n (4,r,gg,v,a,b,t) c0 c1 d0 d1 d2 d3 d4 d5 d6 d7 d8 N.jt) c0 c1 md (m.enter n a):=by
 have uC:=h.th
 have b2:=rp h
 have zf:=hi.si.len
 have wM:=Fx h hi
 have hP:=ID hi hn (a,true)
 have hA:=KQ hi hn
 unfold g.ic M.enter
 refine bI.of (ke (c:=(4,r,gg,v,a,b,t)) rfl) ?_
 dsimp only
 cases hw:within a 1 (m.p.1-1) with
 | false=>
  rw [←wM] at hw
  rw [if_pos rfl]
  repeat refine DS ?_
  exact bI.code h.rel 11
 | true=>
  rw [←wM] at hw
  rw [if_neg (by simp)]
  by_cases hp:(push (m.aA n).aF (a,true)).2=0
  ·rw [if_neg (by simpa using hp)]
   obtain ⟨sL,k1,k2⟩:=CR h.sr a (dE (m.aA n).aF) (by omega)
   by_cases hu:(cZ m.sc a (fun c=>b_ c (dE (m.aA n).aF))).2=0
   ·rw [if_neg (by simpa using hu)]
    repeat refine DS ?_
    rw [nT hn ⟨(m.aA n).cP,(push (m.aA n).aF (a,true)).1⟩ _ rfl,hu]
    exact ⟨_,_,_,_,_,_,_,_,_,rfl,N,L,es,h.box,k2,aB h.th,h.ar,h.er,h.jo,h.ob,h.n6,h.n8,h.n7,h.mp,h.ek,h.em⟩
   ·rw [if_pos (by simpa using hu)]
    have e:(cZ m.sc a (fun c=>b_ c (dE (m.aA n).aF))).1=m.sc:=by
     unfold cZ at hu ⊢
     split
     ·rename_i h1
      rw [if_pos h1] at hu
      split
      ·rename_i h2;rw [if_pos h2] at hu;exact absurd rfl hu
      ·rfl
     ·rfl
    rw [e] at k2
    repeat refine DS ?_
    exact bI.code ⟨N,L,es,h.box,k2,h.th,h.ar,h.er,h.jo,h.ob,h.n6,h.n8,h.n7,h.mp,h.ek,h.em⟩ _
  ·rw [if_pos (by simpa using hp)]
   repeat refine DS ?_
   exact bI.code h.rel _
theorem S_ (h:MR c0 c1 d0 d1 d2 d3 d4 d5 d6 d7 d8 md m N L es) {k:Nat} (hi:MI k m) {n:Int} (hn:0≤n∧n<m.th.length) {r gg v a b t:Int} :
  bI (g.ia md n (6,r,gg,v,a,b,t) c0 c1 d0 d1 d2 d3 d4 d5 d6 d7 d8 N.jt) c0 c1 md (m.oj n a):=by
 have uC:=h.th
 have wM:=Fx h hi
 have hP:=ID hi hn (a,false)
 have hR:=rR hi hn a
 unfold g.ia M.oj
 refine bI.of (ke (c:=(6,r,gg,v,a,b,t)) rfl) ?_
 dsimp only
 cases hw:within a 0 (m.p.1-1) with
 | false=>
  rw [←wM] at hw
  rw [if_pos rfl]
  repeat refine DS ?_
  exact bI.code h.rel 11
 | true=>
  rw [←wM] at hw
  rw [if_neg (by simp)]
  cases hr:reach (m.aA n).aF a with
  | false=>
   rw [if_pos rfl]
   repeat refine DS ?_
   exact bI.code h.rel 20
  | true=>
   rw [if_neg (by simp)]
   by_cases hp:(push (m.aA n).aF (a,false)).2=0
   ·rw [if_neg (by simpa using hp)]
    repeat refine DS ?_
    rw [nT hn ⟨(m.aA n).cP,(push (m.aA n).aF (a,false)).1⟩ _ rfl]
    exact ⟨_,_,_,_,_,_,_,_,_,rfl,N,L,es,h.box,h.sr,aB h.th,h.ar,h.er,h.jo,h.ob,h.n6,h.n8,h.n7,h.mp,h.ek,h.em⟩
   ·rw [if_pos (by simpa using hp)]
    repeat refine DS ?_
    exact bI.code h.rel _
theorem pM (h:MR c0 c1 d0 d1 d2 d3 d4 d5 d6 d7 d8 md m N L es) {k:Nat} (hi:MI k m):(L.length:Int)=m.p.1:=by
 have:=hi.la
 rw [h.er,zH] at this;exact this
theorem pL {L:List NA} {s:Int} {a:NA} (ha:L[s.toNat]?=some a):nth (0,(0,none)) (L.map fun a=>(a.used,(a.gate,a.jo))) (nN s)=(a.used,(a.gate,a.jo)):=by
 refine bj ?_
 rw [zL]
 show (L[s.toNat]?).map _=_
 rw [ha];rfl
theorem yi (h:MR c0 c1 d0 d1 d2 d3 d4 d5 d6 d7 d8 md m N L es) {k:Nat} (hi:MI k m) {s:Int} (hs:0≤s∧s<m.p.1):∃a,L[s.toNat]?=some a∧m.bA s=a.er:=by
 have:=pM h hi
 have h1:L[s.toNat]?=some L[s.toNat]:=zD (by omega)
 refine ⟨_,h1,?_⟩
 have h2:m.ar[s.toNat]?=some (NA.er L[s.toNat]):=by rw [h.er,zL,h1];rfl
 have:=M.tU h2
 rwa [show ((s.toNat:Nat):Int)=s by omega] at this
theorem N2 (h:MR c0 c1 d0 d1 d2 d3 d4 d5 d6 d7 d8 md m N L es) {k:Nat} (hi:MI k m) {n:Int} (hn:0≤n∧n<m.th.length) {r gg v a b t:Int} (hr:cC (10,r,gg,v,a,b,t)=true) (E2:0≤r) :
  bI (g.eF md n (10,r,gg,v,a,b,t) c0 c1 d0 d1 d2 d3 d4 d5 d6 d7 d8 N.jt) c0 c1 md (m.fX n r a):=by
 have JG:r<4:=oW (c:=(10,r,gg,v,a,b,t)) (l:=[r]) hr rfl r (by simp)
 have ht:=hi.aA hn
 have uC:=h.th
 have BG:=h.ar
 have b3:=rq h
 have wM:=Fx h hi
 have hR:=rR hi hn a
 unfold g.eF M.fX
 refine bI.of (ke (c:=(10,r,gg,v,a,b,t)) hr) ?_
 dsimp only
 cases hw:within a 1 (m.p.1-1) with
 | false=>
  rw [←wM] at hw
  rw [if_pos rfl]
  repeat refine DS ?_
  exact bI.code h.rel 11
 | true=>
  have ha:=bG.1 hw
  rw [←wM] at hw
  rw [if_neg (by simp)]
  obtain ⟨x,hx,Rz⟩:=yi h hi (s:=a) (by omega)
  have Ls:=pM h hi
  cases Lo:reach (m.aA n).aF a with
  | false=>
   rw [if_pos rfl]
   repeat refine DS ?_
   exact bI.code h.rel 20
  | true=>
   rw [if_neg (by simp)]
   repeat refine DS ?_
   rw [pL hx]
   rw [nT hn ⟨(m.aA n).cP.set r.toNat x.gate,(m.aA n).aF⟩ _ (by dsimp only;rw [pJ ht.1 (by omega)])]
   rw [Rz]
   exact ⟨_,_,_,_,_,_,_,_,_,rfl,N,L,es,h.fS n _⟩
end
open Go.Bm Go.jG
section
variable {c0:T0} {c1:T1} {d0:T2} {d1:T3} {d2:T4} {d3:T5} {d4:T6} {d5:T7} {d6:T8} {d7:T9} {d8:dQ} {md:Nat} {m:M} {N:Cm} {L:List NA} {es:List (jl×Option Nat)}
theorem vD (h:MR c0 c1 d0 d1 d2 d3 d4 d5 d6 d7 d8 md m N L es) {i p:Nat} {x:Nat×Nat×ku} (hx:At L i p x):nth ((0,(0,0)),(0,(none,false))) d6 x.1=(x.2.2.ref,(x.2.2.tag,(some x.2.1,x.2.2.done))):=bj (h.ob i p x hx).1
theorem S6 (h:MR c0 c1 d0 d1 d2 d3 d4 d5 d6 d7 d8 md m N L es) {k:Nat} (hi:MI k m) {n:Int} (hn:0≤n∧n<m.th.length) {r gg v a b t:Int} (hr:cC (8,r,gg,v,a,b,t)=true) (E2:0≤r) (Lt:0≤gg) :
  bI (g.fa md n (8,r,gg,v,a,b,t) c0 c1 d0 d1 d2 d3 d4 d5 d6 d7 d8 N.jt) c0 c1 md (m.load n r gg b):=by
 have JG:r<4:=oW (c:=(8,r,gg,v,a,b,t)) (l:=[r,gg]) hr rfl r (by simp)
 have hg4:gg<4:=oW (c:=(8,r,gg,v,a,b,t)) (l:=[r,gg]) hr rfl gg (by simp)
 have ht:=hi.aA hn
 have uC:=h.th
 have hV:=hi.cT hn gg
 have eV:=Er hn gg
 unfold g.fa M.load
 refine bI.of (ke (c:=(8,r,gg,v,a,b,t)) hr) ?_
 dsimp only
 cases hc:(m.check (m.aA n).aF (m.cT n gg)).1 with
 | none=>
  have jI:=M.oz hc
  rw [if_pos jI]
  refine bI.of (By (s:=((none,((m.check (m.aA n).aF (m.cT n gg)).2,())),((),((),((),()))))) fun K=>?_) ?_
  ·repeat refine HS ?_
   rw [eV]
   exact uW h hi hn hV hc K
  repeat refine DS ?_
  exact bI.code h.rel _
 | some o=>
  have jI:=(M.gO hc).1
  rw [if_neg (by simpa using jI)]
  obtain ⟨p,x,j,rfl,q1,q2,q4⟩:=z5 h hi hn hV hc
  obtain ⟨_,_,_,_,_,_,fQ,_⟩:=hi.found hc
  obtain ⟨_,_,_,_,_,_,Hu,_⟩:=fQ
  refine bI.of (By (s:=((some x.1,(0,())),((),((),((),()))))) fun K=>?_) ?_
  ·repeat refine HS ?_
   rw [eV]
   exact q4 K
  have e6b:(nth ((0,(0,0)),(0,(none,false))) d6 x.1).2.2.1=some x.2.1:=by rw [vD h q2]
  have h8:=(h.ob _ p x q2).2
  have wM:aK IntKind.i64 (zN (len x.2.2.bg)) 1=(x.2.2.bg.length:Int)-1:=by rw [cz,bt,aL (by omega)]
  repeat refine DS ?_
  show bI _ c0 c1 md (if within b 0 ((x.2.2.bg.length:Int)-1)=false then m.code 21 else m.Qm n r (x.2.2.bg.getD b.toNat 0))
  cases hw:within b 0 ((x.2.2.bg.length:Int)-1) with
  | false=>
   rw [←wM] at hw
   rw [if_pos rfl]
   repeat refine DS ?_
   exact bI.code h.rel 21
  | true=>
   have hb:=bG.1 hw
   rw [←wM] at hw
   rw [if_neg (by simp)]
   repeat refine DS ?_
   rw [nT hn ⟨(m.aA n).cP.set r.toNat (x.2.2.bg.getD b.toNat 0),(m.aA n).aF⟩ _ (by dsimp only;rw [pJ ht.1 (by omega)];rfl)]
   exact ⟨_,_,_,_,_,_,_,_,_,rfl,N,L,es,h.fS n _⟩
theorem kj {α β:Type} {f:α→β} {l:List α} {i:Nat} {x:α} {y:β} (h:f x=y):(l.set i x).map f=(l.map f).set i y:=by rw [List.map_set,h]
theorem qU {α:Type} {l:List α} {i:Nat} {x y z:α} (hx:l[i]?=some x) (hz:z∈l.set i y):z=y∨z∈l:=(List.mem_or_eq_of_mem_set hz).symm
theorem ru {i:Nat} {a b:NA} (ha:L[i]?=some a) (hb:b.os=a.os) {j p:Nat} {x:Nat×Nat×ku}:At (L.set i b) j p x↔At L j p x:=by
 constructor
 ·rintro ⟨c,h1,h2⟩
  rcases getSet h1 with ⟨e1,e2⟩ | ⟨_,g⟩
  ·rw [e2,hb] at h2;exact ⟨a,by rw [e1];exact ha,h2⟩
  ·exact ⟨c,g,h2⟩
 ·rintro ⟨c,h1,h2⟩
  by_cases e:i=j
  ·subst e
   rw [ha] at h1;cases h1
   exact ⟨b,by rw [List.getElem?_set,if_pos rfl,if_pos (zB.1 ha).1],by rw [hb];exact h2⟩
  ·exact ⟨c,by rw [List.getElem?_set,if_neg e];exact h1,h2⟩
theorem MR.QU (h:MR c0 c1 d0 d1 d2 d3 d4 d5 d6 d7 d8 md m N L es) {i:Nat} {a:NA} (ha:L[i]?=some a) (us ga:Int) :
  MR c0 c1 d0 d1 d2 (aT d3 N.ja (some ((L.set i { a with used:=us,gate:=ga }).map fun a=>(a.used,(a.gate,a.jo))))) d4 d5 d6 d7 d8 md { m with ar:=m.ar.set i ⟨us,ga,a.er.a5⟩ } N (L.set i { a with used:=us,gate:=ga }) es where
 box:=h.box
 sr:=h.sr
 th:=h.th
 ar:=aB h.ar
 er:=by show m.ar.set i _=_;rw [h.er];exact (kj (f:=NA.er) (x:={ a with used:=us,gate:=ga }) rfl).symm
 jo:=fun b hb=>by
  rcases qU ha hb with rfl | hb
  ·exact h.jo a (zG ha)
  ·exact h.jo b hb
 ob:=fun j p x hx=>h.ob j p x ((ru (b:={ a with used:=us,gate:=ga }) ha rfl).1 hx)
 n6:=fun i j p q x y hx hy=>h.n6 i j p q x y ((ru (b:={ a with used:=us,gate:=ga }) ha rfl).1 hx) ((ru (b:={ a with used:=us,gate:=ga }) ha rfl).1 hy)
 n8:=fun i j p q x y hx hy=>h.n8 i j p q x y ((ru (b:={ a with used:=us,gate:=ga }) ha rfl).1 hx) ((ru (b:={ a with used:=us,gate:=ga }) ha rfl).1 hy)
 n7:=fun j l b c r hb hc h1 h2=>by
  rcases getSet hb with ⟨e1,e2⟩ | ⟨_,g1⟩
  ·rcases getSet hc with ⟨e3,e4⟩ | ⟨_,g2⟩
   ·rw [e1,e3]
   ·rw [e1];rw [e2] at h1;exact h.n7 i l a c r ha g2 h1 h2
  ·rcases getSet hc with ⟨e3,e4⟩ | ⟨_,g2⟩
   ·rw [e3];rw [e4] at h2;exact h.n7 j i b a r g1 ha h1 h2
   ·exact h.n7 j l b c r g1 g2 h1 h2
 mp:=h.mp
 ek:=h.ek
 em:=fun r v=>(h.em r v).trans ⟨fun ⟨j,p,x,h1,h2⟩=>⟨j,p,x,(ru (b:={ a with used:=us,gate:=ga }) ha rfl).2 h1,h2⟩,fun ⟨j,p,x,h1,h2⟩=>⟨j,p,x,(ru (b:={ a with used:=us,gate:=ga }) ha rfl).1 h1,h2⟩⟩
theorem Ab {L:List NA} {s:Int} {a:NA} (ha:L[s.toNat]?=some a) (b:NA) (f:Int×Int×Option Nat→Int×Int×Option Nat) (hf:f (a.used,(a.gate,a.jo))=(b.used,(b.gate,b.jo))) :
  aw (0,(0,none)) (L.map fun a=>(a.used,(a.gate,a.jo))) (nN s) f=(L.set s.toNat b).map fun a=>(a.used,(a.gate,a.jo)):=by
 unfold aw aT
 rw [pL ha,hf,kj rfl];rfl
theorem N0 (h:MR c0 c1 d0 d1 d2 d3 d4 d5 d6 d7 d8 md m N L es) {k:Nat} (hi:MI k m) {n:Int} (hn:0≤n∧n<m.th.length) {r gg v a b t:Int} (hr:cC (11,r,gg,v,a,b,t)=true) (y9:0≤v) :
  bI (g.ev md n (11,r,gg,v,a,b,t) c0 c1 d0 d1 d2 d3 d4 d5 d6 d7 d8 N.jt) c0 c1 md (m.gate n v a):=by
 have TD:v<4:=oW (c:=(11,r,gg,v,a,b,t)) (l:=[v]) hr rfl v (by simp)
 have ht:=hi.aA hn
 have uC:=h.th
 have BG:=h.ar
 have b3:=rq h
 have wM:=Fx h hi
 have hR:=rR hi hn a
 have hV:=hi.cT hn v
 have eV:=Er hn v
 unfold g.ev M.gate
 refine bI.of (ke (c:=(11,r,gg,v,a,b,t)) hr) ?_
 dsimp only
 cases hw:within a 1 (m.p.1-1) with
 | false=>
  rw [←wM] at hw
  rw [if_pos rfl]
  repeat refine DS ?_
  exact bI.code h.rel 11
 | true=>
  have ha:=bG.1 hw
  rw [←wM] at hw
  rw [if_neg (by simp)]
  obtain ⟨x,hx,Rz⟩:=yi h hi (s:=a) (by omega)
  have Ls:=pM h hi
  cases Lo:reach (m.aA n).aF a with
  | false=>
   rw [if_pos rfl]
   repeat refine DS ?_
   exact bI.code h.rel 20
  | true=>
   rw [if_neg (by simp)]
   have tI:∀(c:Int),c=0→bI (some (((c,(0,[])),(0,())),(d0,(d1,(d2,((aT d3 N.ja (some (aw (0,(0,none)) (L.map fun a=>(a.used,(a.gate,a.jo))) (nN a) (fun tq=>(tq.1,(m.cT n v,tq.2.2)))))),(d4,(d5,(d6,(d7,(d8,())))))))))) ) c0 c1 md (M.code (m.dm a { m.bA a with gate:=m.cT n v }) 0):=by
    rintro _ rfl
    rw [Ab hx { x with gate:=m.cT n v } _ rfl,Rz]
    exact bI.code ⟨N,_,es,h.QU hx x.used (m.cT n v)⟩ 0
   unfold M.put
   repeat (refine DN ?_)
   rw [eV]
   by_cases hv:m.cT n v=0
   ·rw [if_pos hv]
    repeat refine DS ?_
    exact tI 0 rfl
   ·rw [if_neg hv]
    repeat (refine DN ?_)
    cases hc:(m.check (m.aA n).aF (m.cT n v)).1 with
    | none=>
     have jI:=M.oz hc
     rw [if_pos jI]
     refine bI.of (By fun K=>uW h hi hn hV hc K) ?_
     repeat refine DS ?_
     exact bI.code h.rel _
    | some o=>
     have jI:=(M.gO hc).1
     rw [if_neg (by simpa using jI)]
     obtain ⟨p,y,j,rfl,q1,q2,q4⟩:=z5 h hi hn hV hc
     refine bI.of (By fun K=>q4 K) ?_
     have e6:=vD h q2
     have hAb:=FD hi hn y.2.2.ref.1 a
     repeat refine DS ?_
     rw [e6]
     show bI _ c0 c1 md (if pO (m.aA n).aF y.2.2.ref.1 a=false then m.code 22 else M.code (m.dm a { m.bA a with gate:=m.cT n v }) 0)
     cases hab:pO (m.aA n).aF y.2.2.ref.1 a with
     | false=>
      rw [if_pos rfl]
      repeat refine DS ?_
      exact bI.code h.rel 22
     | true=>
      rw [if_neg (by simp)]
      repeat refine DS ?_
      exact tI 0 rfl
end
open Go.Bm Go.jG
section
variable {c0:T0} {c1:T1} {d0:T2} {d1:T3} {d2:T4} {d3:T5} {d4:T6} {d5:T7} {d6:T8} {d7:T9} {d8:dQ} {md:Nat} {m:M} {N:Cm} {L:List NA} {es:List (jl×Option Nat)}
theorem pT {i q:Nat} {a:NA} {x':Nat×Nat×ku} (ha:L[i]?=some a) {j p:Nat} {y:Nat×Nat×ku} (h:At (L.set i { a with os:=a.os.set q x' }) j p y):(j=i∧p=q∧y=x')∨(¬(j=i∧p=q)∧At L j p y):=by
 obtain ⟨c,h1,h2⟩:=h
 rcases getSet h1 with ⟨e1,e2⟩ | ⟨e,g⟩
 ·rw [e2] at h2
  rcases getSet (show (a.os.set q x')[p]?=some y from h2) with ⟨e3,e4⟩ | ⟨e3,g3⟩
  ·exact .inl ⟨e1,e3,e4⟩
  ·exact .inr ⟨fun h=>e3 h.2,a,by rw [e1];exact ha,g3⟩
 ·exact .inr ⟨fun h=>e h.1,c,g,h2⟩
theorem Tj {i q:Nat} {a:NA} {x':Nat×Nat×ku} (ha:L[i]?=some a) {j p:Nat} {y:Nat×Nat×ku} (hn:¬(j=i∧p=q)) (h:At L j p y):At (L.set i { a with os:=a.os.set q x' }) j p y:=by
 obtain ⟨c,h1,h2⟩:=h
 by_cases e:i=j
 ·subst e
  rw [ha] at h1;cases h1
  refine ⟨{ a with os:=a.os.set q x' },by rw [List.getElem?_set,if_pos rfl,if_pos (zB.1 ha).1],?_⟩
  show (a.os.set q x')[p]?=some y
  rw [List.getElem?_set,if_neg (fun e=>hn ⟨rfl,e.symm⟩)];exact h2
 ·exact ⟨c,by rw [List.getElem?_set,if_neg e];exact h1,h2⟩
theorem Tk {i q:Nat} {a:NA} {x x':Nat×Nat×ku} (ha:L[i]?=some a) (hx:a.os[q]?=some x):At (L.set i { a with os:=a.os.set q x' }) i q x':=
 ⟨{ a with os:=a.os.set q x' },by rw [List.getElem?_set,if_pos rfl,if_pos (zB.1 ha).1],by
  show (a.os.set q x')[q]?=some x'
  rw [List.getElem?_set,if_pos rfl,if_pos (zB.1 hx).1]⟩
theorem MR.PK (h:MR c0 c1 d0 d1 d2 d3 d4 d5 d6 d7 d8 md m N L es) {i q:Nat} {a:NA} (ha:L[i]?=some a) {x:Nat×Nat×ku} (hx:a.os[q]?=some x) {sj:Nat} {o:ku} (hr:o.ref=x.2.2.ref)
  {qu:T8} {tR:dQ} (h6:qu[x.1]?=some (o.ref,(o.tag,(some sj,o.done)))) (h8:aE tR sj=some o.bg) (f6:∀n,n≠x.1→qu[n]?=d6[n]?)
  (f8:∀j p y,At L j p y→¬(j=i∧p=q)→aE tR y.2.1=aE d8 y.2.1∧y.2.1≠sj) :
  MR c0 c1 d0 d1 d2 d3 d4 d5 qu d7 tR md { m with ar:=m.ar.set i { a.er with a5:=a.er.a5.set q o } } N (L.set i { a with os:=a.os.set q (x.1,sj,o) }) es:=by
 have E0:At L i q x:=⟨a,ha,hx⟩
 have hem:a.os.map (fun y=>some y.1)=(a.os.set q (x.1,sj,o)).map fun y=>some y.1:=by
  rw [List.map_set,j8]
  rw [zL,hx];rfl
 refine ⟨h.box,h.sr,h.th,?_,?_,?_,?_,?_,?_,?_,h.mp,h.ek,?_⟩
 ·rw [h.ar]
  congr 1
  rw [List.map_set,j8]
  rw [zL,ha];rfl
 ·show m.ar.set i _=_
  rw [h.er]
  refine (kj (f:=NA.er) (x:={ a with os:=a.os.set q (x.1,sj,o) }) ?_).symm
  show mz.mk a.used a.gate ((a.os.set q (x.1,sj,o)).map fun y=>y.2.2)=_
  rw [List.map_set];rfl
 ·intro b hb
  rcases qU ha hb with rfl | hb
  ·rcases h.jo a (zG ha) with ⟨_,k2⟩ | ⟨j,k1,k2⟩
   ·rw [k2] at hx;cases hx
   ·exact .inr ⟨j,k1,by rw [k2,hem]⟩
  ·exact h.jo b hb
 ·intro j p y hy
  rcases pT ha hy with ⟨_,_,rfl⟩ | ⟨hn,hy⟩
  ·exact ⟨h6,h8⟩
  ·have:=h.ob j p y hy
   rw [f6 y.1 (fun e=>hn (h.n6 j i p q y x hy E0 e)),(f8 j p y hy hn).1]
   exact this
 ·intro j j' p p' y y' hy qW e
  rcases pT ha hy with ⟨rfl,rfl,rfl⟩ | ⟨hn,gy⟩
  ·rcases pT ha qW with ⟨rfl,rfl,rfl⟩ | ⟨xX,DD⟩
   ·exact ⟨rfl,rfl⟩
   ·exact h.n6 _ _ _ _ x y' E0 DD e
  ·rcases pT ha qW with ⟨rfl,rfl,rfl⟩ | ⟨xX,DD⟩
   ·exact h.n6 _ _ _ _ y x gy E0 e
   ·exact h.n6 _ _ _ _ y y' gy DD e
 ·intro j j' p p' y y' hy qW e
  rcases pT ha hy with ⟨rfl,rfl,rfl⟩ | ⟨hn,gy⟩
  ·rcases pT ha qW with ⟨rfl,rfl,rfl⟩ | ⟨xX,DD⟩
   ·exact ⟨rfl,rfl⟩
   ·exact absurd e.symm (f8 _ _ _ DD xX).2
  ·rcases pT ha qW with ⟨rfl,rfl,rfl⟩ | ⟨xX,DD⟩
   ·exact absurd e (f8 _ _ _ gy hn).2
   ·exact h.n8 _ _ _ _ y y' gy DD e
 ·intro j l b c r hb hc h1 h2
  rcases getSet hb with ⟨e1,e2⟩ | ⟨_,g1⟩
  ·rcases getSet hc with ⟨e3,e4⟩ | ⟨_,g2⟩
   ·rw [e1,e3]
   ·rw [e1];rw [e2] at h1;exact h.n7 i l a c r ha g2 h1 h2
  ·rcases getSet hc with ⟨e3,e4⟩ | ⟨_,g2⟩
   ·rw [e3];rw [e4] at h2;exact h.n7 j i b a r g1 ha h1 h2
   ·exact h.n7 j l b c r g1 g2 h1 h2
 ·intro r v
  rw [h.em]
  constructor
  ·rintro ⟨j,p,y,hy,h1,h2⟩
   by_cases e:j=i∧p=q
   ·obtain ⟨rfl,rfl⟩:=e
    obtain ⟨b,g1,g2⟩:=hy
    rw [ha] at g1;cases g1
    rw [hx] at g2;cases g2
    exact ⟨_,_,_,Tk ha hx,by rw [h1,←hr],h2⟩
   ·exact ⟨j,p,y,Tj ha e hy,h1,h2⟩
  ·rintro ⟨j,p,y,hy,h1,h2⟩
   rcases pT ha hy with ⟨_,_,rfl⟩ | ⟨hn,hy⟩
   ·exact ⟨i,q,x,E0,by rw [h1];exact hr,h2⟩
   ·exact ⟨j,p,y,hy,h1,h2⟩
theorem M.FO (h:MR c0 c1 d0 d1 d2 d3 d4 d5 d6 d7 d8 md m N L es) {k:Nat} (hi:MI k m) {i q:Nat} {a:NA} (ha:L[i]?=some a) {x:Nat×Nat×ku} (hx:a.os[q]?=some x) (g:ku→ku) :
  m.setObj x.2.2.ref g={ m with ar:=m.ar.set i { a.er with a5:=a.er.a5.set q (g x.2.2) } }:=by
 obtain ⟨a',y,h1,h2,h3,h4,h5,h6,h7,h8⟩:=h.place hi ⟨a,ha,hx⟩
 rw [ha] at h1;cases h1
 unfold M.setObj
 congr 1
 apply List.ext_getElem?
 intro j
 rw [zL,List.getElem?_set]
 by_cases e:i=j
 ·subst e
  rw [if_pos rfl,if_pos (zB.1 h3).1,h3]
  simp only [Option.map_some,zI]
  congr 1
  apply List.ext_getElem?
  intro p
  rw [zL,List.getElem?_set]
  by_cases e:q=p
  ·subst e
   rw [if_pos rfl,if_pos (zB.1 h7).1,h7]
   simp
  ·rw [if_neg e]
   cases hp:a.er.a5[p]? with
   | none=>rfl
   | some o=>
    simp only [Option.map_some,zI]
    rw [if_neg]
    intro e2
    exact e (AI.one h6 h7 hp e2.symm)
 ·rw [if_neg e]
  cases hj:m.ar[j]? with
  | none=>rfl
  | some b=>
   simp only [Option.map_some,zI]
   have hm:b.a5.map (fun o=>if o.ref=x.2.2.ref then g o else o)=b.a5:=by
    conv=>rhs;rw [←List.map_id b.a5]
    refine List.map_congr_left fun o ho=>?_
    rw [if_neg];· rfl
    intro e2
    have vT:=hi.ls
    have TG:=hi.la
    have dP:=(zB.1 hj).1
    have MT:m.sc[j]?=some m.sc[j]:=zD (by omega)
    have:=((hi.ai j _ _ MT hj).ob o ho).1
    rw [e2,h8] at this
    omega
   rw [hm]
theorem SZ (h:MR c0 c1 d0 d1 d2 d3 d4 d5 d6 d7 d8 md m N L es) {k:Nat} (hi:MI k m) {n:Int} (hn:0≤n∧n<m.th.length) {r gg v a b t:Int} (hr:cC (9,r,gg,v,a,b,t)=true) (y9:0≤v) (Lt:0≤gg) :
  bI (g.e_ md n (9,r,gg,v,a,b,t) c0 c1 d0 d1 d2 d3 d4 d5 d6 d7 d8 N.jt) c0 c1 md (m.store n gg v b):=by
 have TD:v<4:=oW (c:=(9,r,gg,v,a,b,t)) (l:=[gg,v]) hr rfl v (by simp)
 have hg4:gg<4:=oW (c:=(9,r,gg,v,a,b,t)) (l:=[gg,v]) hr rfl gg (by simp)
 have uC:=h.th
 have hV:=hi.cT hn gg
 have eV:=Er hn gg
 have hW:=hi.cT hn v
 have eW:=Er hn v
 unfold g.e_ M.store
 refine bI.of (ke (c:=(9,r,gg,v,a,b,t)) hr) ?_
 dsimp only
 cases hc:(m.check (m.aA n).aF (m.cT n gg)).1 with
 | none=>
  have jI:=M.oz hc
  rw [if_pos jI]
  refine bI.of (By (s:=((none,((m.check (m.aA n).aF (m.cT n gg)).2,())),((),((),((),()))))) fun K=>?_) ?_
  ·repeat refine HS ?_
   rw [eV]
   exact uW h hi hn hV hc K
  repeat refine DS ?_
  exact bI.code h.rel _
 | some o=>
  have jI:=(M.gO hc).1
  rw [if_neg (by simpa using jI)]
  obtain ⟨p,x,j,rfl,q1,q2,q4⟩:=z5 h hi hn hV hc
  obtain ⟨_,_,_,_,_,_,fQ,_⟩:=hi.found hc
  obtain ⟨_,_,_,_,_,_,Hu,_⟩:=fQ
  refine bI.of (By (s:=((some x.1,(0,())),((),((),((),()))))) fun K=>?_) ?_
  ·repeat refine HS ?_
   rw [eV]
   exact q4 K
  have e6:=vD h q2
  have e6b:(nth ((0,(0,0)),(0,(none,false))) d6 x.1).2.2.1=some x.2.1:=by rw [e6]
  have h8:=(h.ob _ p x q2).2
  have wM:aK IntKind.i64 (zN (len x.2.2.bg)) 1=(x.2.2.bg.length:Int)-1:=by rw [cz,bt,aL (by omega)]
  repeat refine DS ?_
  show bI _ c0 c1 md (if within b 0 ((x.2.2.bg.length:Int)-1)=false then m.code 21 else m.put (m.aA n).aF (m.cT n v) x.2.2.ref.1 (m.setObj x.2.2.ref fun o=>{ o with bg:=o.bg.set b.toNat (m.cT n v) }))
  cases hw:within b 0 ((x.2.2.bg.length:Int)-1) with
  | false=>
   rw [←wM] at hw
   rw [if_pos rfl]
   repeat refine DS ?_
   exact bI.code h.rel 21
  | true=>
   have hb:=bG.1 hw
   rw [←wM] at hw
   rw [if_neg (by simp)]
   have tI:bI (some (((0,(0,[])),(0,())),(d0,(d1,(d2,(d3,(d4,(d5,(d6,(d7,((aT d8 x.2.1 (some (aT x.2.2.bg (nN b) (m.cT n v)))),())))))))))) ) c0 c1 md (M.code (m.setObj x.2.2.ref fun o=>{ o with bg:=o.bg.set b.toNat (m.cT n v) }) 0):=by
    obtain ⟨na,ha,hx⟩:=q2
    have E0:At L x.2.2.ref.1.toNat p x:=⟨na,ha,hx⟩
    rw [M.FO h hi ha hx]
    refine bI.code ⟨N,_,es,h.PK ha hx (sj:=x.2.1) (o:={ x.2.2 with bg:=x.2.2.bg.set b.toNat (m.cT n v) }) rfl (h.ob _ _ _ E0).1 (aB h8) (fun n _=>rfl) (fun j' p' y hy xX=>?_)⟩ 0
    have hny:y.2.1≠x.2.1:=fun e=>xX (h.n8 _ _ _ _ y x hy E0 e)
    exact ⟨by rw [uO (jY h8),if_neg (fun e=>hny e.symm)],hny⟩
   unfold M.put
   repeat (refine DN ?_)
   rw [eW]
   by_cases hv:m.cT n v=0
   ·rw [if_pos hv]
    repeat refine DS ?_
    rw [hv] at tI ⊢
    exact tI
   ·rw [if_neg hv]
    repeat (refine DN ?_)
    cases TO:(m.check (m.aA n).aF (m.cT n v)).1 with
    | none=>
     have JQ:=M.oz TO
     rw [if_pos JQ]
     refine bI.of (By fun K=>uW h hi hn hW TO K) ?_
     repeat refine DS ?_
     exact bI.code h.rel _
    | some o=>
     have JQ:=(M.gO TO).1
     rw [if_neg (by simpa using JQ)]
     obtain ⟨p2,y,j2,rfl,w1,w2,w4⟩:=z5 h hi hn hW TO
     refine bI.of (By fun K=>w4 K) ?_
     have e62:=vD h w2
     have hAb:=FD hi hn y.2.2.ref.1 x.2.2.ref.1
     repeat refine DS ?_
     rw [e62,e6]
     show bI _ c0 c1 md (if pO (m.aA n).aF y.2.2.ref.1 x.2.2.ref.1=false then m.code 22 else M.code (m.setObj x.2.2.ref fun o=>{ o with bg:=o.bg.set b.toNat (m.cT n v) }) 0)
     cases hab:pO (m.aA n).aF y.2.2.ref.1 x.2.2.ref.1 with
     | false=>
      rw [if_pos rfl]
      repeat refine DS ?_
      exact bI.code h.rel 22
     | true=>
      rw [if_neg (by simp)]
      repeat refine DS ?_
      exact tI
end
open Go.Bm Go.jG
section
variable {c0:T0} {c1:T1} {d0:T2} {d1:T3} {d2:T4} {d3:T5} {d4:T6} {d5:T7} {d6:T8} {d7:T9} {d8:dQ} {md:Nat} {m:M} {N:Cm} {L:List NA} {es:List (jl×Option Nat)}
theorem mV {i:Nat} {a:NA} {x':Nat×Nat×ku} {us:Int} {jn:Option Nat} (ha:L[i]?=some a) {j p:Nat} {y:Nat×Nat×ku} (h:At (L.set i ⟨us,a.gate,jn,a.os++[x']⟩) j p y):(j=i∧p=a.os.length∧y=x')∨At L j p y:=by
 obtain ⟨c,h1,h2⟩:=h
 rcases getSet h1 with ⟨e1,e2⟩ | ⟨e,g⟩
 ·rw [e2] at h2
  have h2:(a.os++[x'])[p]?=some y:=h2
  by_cases hp:p<a.os.length
  ·rw [zK hp] at h2
   exact .inr ⟨a,by rw [e1];exact ha,h2⟩
  ·rw [zJ (by omega)] at h2
   by_cases hp2:p-a.os.length=0
   ·rw [hp2] at h2
    simp at h2
    exact .inl ⟨e1,by omega,h2.symm⟩
   ·rw [zb (by simp;omega)] at h2;cases h2
 ·exact .inr ⟨c,g,h2⟩
theorem Cp {i:Nat} {a:NA} {x':Nat×Nat×ku} {us:Int} {jn:Option Nat} (ha:L[i]?=some a) {j p:Nat} {y:Nat×Nat×ku} (h:At L j p y):At (L.set i ⟨us,a.gate,jn,a.os++[x']⟩) j p y:=by
 obtain ⟨c,h1,h2⟩:=h
 by_cases e:i=j
 ·subst e
  rw [ha] at h1;cases h1
  refine ⟨_,by rw [List.getElem?_set,if_pos rfl,if_pos (zB.1 ha).1],?_⟩
  show (a.os++[x'])[p]?=some y
  rw [zK (zB.1 h2).1];exact h2
 ·exact ⟨c,by rw [List.getElem?_set,if_neg e];exact h1,h2⟩
theorem Cq {i:Nat} {a:NA} {x':Nat×Nat×ku} {us:Int} {jn:Option Nat} (ha:L[i]?=some a):At (L.set i ⟨us,a.gate,jn,a.os++[x']⟩) i a.os.length x':=
 ⟨_,by rw [List.getElem?_set,if_pos rfl,if_pos (zB.1 ha).1],by
  show (a.os++[x'])[a.os.length]?=some x'
  simp⟩
theorem MR.push (h:MR c0 c1 d0 d1 d2 d3 d4 d5 d6 d7 d8 md m N L es) {i:Nat} {a:NA} (ha:L[i]?=some a) (us:Int) (o:ku) (hf:∀v,(o.ref,v)∉es) {uF:T9} {jn:Nat}
  (h7:aE uF jn=some ((a.os++[(d6.length,d8.length,o)]).map fun x=>some x.1)) (f7:∀j b r,j≠i→L[j]?=some b→b.jo=some r→aE uF r=aE d7 r∧r≠jn) :
  MR c0 c1 d0 d1 d2 (aT d3 N.ja (some ((L.set i ⟨us,a.gate,some jn,a.os++[(d6.length,d8.length,o)]⟩).map fun a=>(a.used,(a.gate,a.jo))))) d4 (aT d5 N.mp (cat es [(o.ref,some d6.length)])) (cat d6 [(o.ref,(o.tag,(some d8.length,o.done)))]) uF (cat d8 [some o.bg]) md
   { m with ar:=m.ar.set i ⟨us,a.gate,a.er.a5++[o]⟩ } N (L.set i ⟨us,a.gate,some jn,a.os++[(d6.length,d8.length,o)]⟩) (cat es [(o.ref,some d6.length)]):=by
 have lt6:∀j p y,At L j p y→y.1<d6.length:=fun j p y hy=>(zB.1 (h.ob j p y hy).1).1
 have lt8:∀j p y,At L j p y→y.2.1<d8.length:=fun j p y hy=>jY (h.ob j p y hy).2
 refine ⟨h.box,h.sr,h.th,aB h.ar,?_,?_,?_,?_,?_,?_,jX h.mp,?_,?_⟩
 ·show m.ar.set i _=_
  rw [h.er]
  refine (kj (f:=NA.er) (x:=⟨us,a.gate,some jn,a.os++[(d6.length,d8.length,o)]⟩) ?_).symm
  show mz.mk us a.gate ((a.os++[(d6.length,d8.length,o)]).map fun y=>y.2.2)=_
  rw [List.map_append];rfl
 ·intro b hb
  obtain ⟨j,hj⟩:=List.getElem?_of_mem hb
  rcases getSet hj with ⟨e1,e2⟩ | ⟨e,g⟩
  ·rw [e2];exact .inr ⟨jn,rfl,h7⟩
  ·rcases h.jo b (zG g) with k | ⟨r,k1,k2⟩
   ·exact .inl k
   ·exact .inr ⟨r,k1,by rw [(f7 j b r e g k1).1];exact k2⟩
 ·intro j p y hy
  rcases mV ha hy with ⟨_,_,rfl⟩ | hy
  ·refine ⟨?_,?_⟩
   ·show (d6++[_])[d6.length]?=_
    simp
   ·exact dn
  ·have:=h.ob j p y hy
   refine ⟨?_,?_⟩
   ·show (d6++[_])[y.1]?=_
    rw [zK (lt6 j p y hy)];exact this.1
   ·rw [mJ,if_neg (by have:=lt8 j p y hy;omega)];exact this.2
 ·intro j j' p p' y y' hy qW e
  rcases mV ha hy with ⟨rfl,rfl,rfl⟩ | gy
  ·rcases mV ha qW with ⟨rfl,rfl,rfl⟩ | DD
   ·exact ⟨rfl,rfl⟩
   ·have:=lt6 _ _ _ DD;simp only at e;omega
  ·rcases mV ha qW with ⟨rfl,rfl,rfl⟩ | DD
   ·have:=lt6 _ _ _ gy;simp only at e;omega
   ·exact h.n6 _ _ _ _ y y' gy DD e
 ·intro j j' p p' y y' hy qW e
  rcases mV ha hy with ⟨rfl,rfl,rfl⟩ | gy
  ·rcases mV ha qW with ⟨rfl,rfl,rfl⟩ | DD
   ·exact ⟨rfl,rfl⟩
   ·have:=lt8 _ _ _ DD;simp only at e;omega
  ·rcases mV ha qW with ⟨rfl,rfl,rfl⟩ | DD
   ·have:=lt8 _ _ _ gy;simp only at e;omega
   ·exact h.n8 _ _ _ _ y y' gy DD e
 ·intro j l b c r hb hc h1 h2
  rcases getSet hb with ⟨e1,e2⟩ | ⟨n1,g1⟩
  ·rcases getSet hc with ⟨e3,e4⟩ | ⟨n2,g2⟩
   ·rw [e1,e3]
   ·rw [e2] at h1
    have h1:some jn=some r:=h1
    cases h1
    exact absurd rfl (f7 l c jn n2 g2 h2).2
  ·rcases getSet hc with ⟨e3,e4⟩ | ⟨n2,g2⟩
   ·rw [e4] at h2
    have h2:some jn=some r:=h2
    cases h2
    exact absurd rfl (f7 j b jn n1 g1 h1).2
   ·exact h.n7 j l b c r g1 g2 h1 h2
 ·show ((es++[(o.ref,some d6.length)]).map fun e=>e.1).Nodup
  rw [List.map_append,List.nodup_append]
  refine ⟨h.ek,by simp,fun r hr q hq e=>?_⟩
  simp only [List.map_cons,List.map_nil,zF] at hq
  subst hq e
  obtain ⟨⟨r,v⟩,hm,rfl⟩:=List.mem_map.1 hr
  exact hf v hm
 ·intro r v
  show (r,v)∈es++[(o.ref,some d6.length)]↔_
  rw [zX,h.em,zF]
  constructor
  ·rintro (⟨j,p,y,hy,h1,h2⟩ | e)
   ·exact ⟨j,p,y,Cp ha hy,h1,h2⟩
   ·cases e;exact ⟨_,_,_,Cq ha,rfl,rfl⟩
  ·rintro ⟨j,p,y,hy,h1,h2⟩
   rcases mV ha hy with ⟨_,_,rfl⟩ | hy
   ·exact .inr (by rw [h1,h2])
   ·exact .inl ⟨j,p,y,hy,h1,h2⟩
theorem ym {α:Type} {l:List α} {i:Nat} {x y:α}:aT (aT l i x) i y=aT l i y:=by simp only [aT,List.set_set]
theorem Gy {k:Nat} (hi:MI k m) {n:Int} (hs:0≤dE (m.aA n).aF∧dE (m.aA n).aF<m.p.1):m.tx n=(dE (m.aA n).aF,((ah m.sc (dE (m.aA n).aF)).1.2.2.2,(ah m.sc (dE (m.aA n).aF)).2.1+(m.bA (dE (m.aA n).aF)).used)):=by
 have Dx:lz m.sc 0 (dE (m.aA n).aF)=true:=cg.2 ⟨hs.1,by rw [hi.ls];exact hs.2⟩
 unfold M.tx oU j9
 rw [if_pos Dx,if_pos Dx]
theorem jR {α:Type} {d x:α} {l:List α}:nth d (cat l [x]) (len l)=x:=rZ
theorem Bw {X:jl×Int×Option Nat×Bool} {R:jl} {u:Int×Option Nat×Bool} {e:List (jl×Option Nat)} (hX:X=(R,u)) (hm:oO (ng (Ty.pair (Ty.int IntKind.i64) (Ty.pair (Ty.int IntKind.i64) (Ty.int IntKind.i64))) R) e 0=none) :
  oO (ng (Ty.pair (Ty.int IntKind.i64) (Ty.pair (Ty.int IntKind.i64) (Ty.int IntKind.i64))) (X.1.1,(X.1.2.1,X.1.2.2))) e 0=none:=by subst hX;exact hm
theorem Jp {R R':jl} {e e':List (jl×Option Nat)} (hR:R=R') (he:e=e') (hm:oO (ng (Ty.pair (Ty.int IntKind.i64) (Ty.pair (Ty.int IntKind.i64) (Ty.int IntKind.i64))) R') e' 0=none):oO (ng (Ty.pair (Ty.int IntKind.i64) (Ty.pair (Ty.int IntKind.i64) (Ty.int IntKind.i64))) R) e 0=none:=by subst hR he;exact hm
theorem IM {X:jl×Int×Option Nat×Bool} {R R':jl} {u:Int×Option Nat×Bool} (hX:X=(R,u)) (hR:R=R'):g.kC (X.1.1,(X.1.2.1,X.1.2.2))=some (((jf R').1,((jf R').2,())),()):=by subst hX hR;exact vn R
theorem tW.cast {zw:T5} {zu:T6} {qv:T7} {qu:T8} {uF:T9} {tR:dQ} (h:tW c0 c1 d0 d1 d2 d3 d4 d5 d6 d7 d8 md m) (e3:zw=d3) (e4:zu=d4) (e5:qv=d5) (e6:qu=d6) (e7:uF=d7) (e8:tR=d8):tW c0 c1 d0 d1 d2 zw zu qv qu uF tR md m:=by
 subst e3 e4 e5 e6 e7 e8;exact h
theorem S8 (h:MR c0 c1 d0 d1 d2 d3 d4 d5 d6 d7 d8 md m N L es) {k:Nat} (hi:MI k m) (DA:CT m) {n:Int} (hn:0≤n∧n<m.th.length) {r gg v a b t:Int} (hr:cC (7,r,gg,v,a,b,t)=true) (E2:0≤r) :
  bI (g.fb md n (7,r,gg,v,a,b,t) c0 c1 d0 d1 d2 d3 d4 d5 d6 d7 d8 N.jt) c0 c1 md (m.alloc n r a b t):=by
 have JG:r<4:=oW (c:=(7,r,gg,v,a,b,t)) (l:=[r]) hr rfl r (by simp)
 have ht:=hi.aA hn
 have uC:=h.th
 have BG:=h.ar
 have b2:=rp h
 have b3:=rq h
 have b5:=wD h
 have zf:=hi.si.len
 have hA:=KQ hi hn
 have Al:=hi.kk
 have hw1:=zi a b
 have kP:=hi.live DA (M.rH hn) (Aa ht.2.2)
 have hs:0≤dE (m.aA n).aF∧dE (m.aA n).aF<m.p.1:=⟨kP.2.2.1,kP.2.2.2⟩
 have hnr:=Gy hi hs
 have Dx:lz m.sc 0 (dE (m.aA n).aF)=true:=cg.2 ⟨hs.1,by rw [hi.ls];exact hs.2⟩
 have hE:=AE h.sr (dE (m.aA n).aF) (by omega)
 have hC:=oT h.sr (dE (m.aA n).aF) (by omega)
 have Ls:=pM h hi
 have qq:=hi.size kP.1 (by omega)
 have Na:=(hi.wO hs).2
 obtain ⟨na,xg,BD⟩:=yi h hi hs
 unfold g.fb M.alloc
 refine bI.of (ke (c:=(7,r,gg,v,a,b,t)) hr) ?_
 dsimp only
 rw [hnr]
 unfold oU at hE ⊢
 unfold j9 at hC
 rw [if_pos Dx] at hE hC
 rw [if_pos Dx]
 rw [BD] at Na ⊢
 generalize hss:dE (m.aA n).aF=s at *
 have y_:=Na.us
 by_cases he:(bn a b).2=0
 ·have hw:=oh he
  cases hcc:within t 0 7 with
  | false=>
   rw [if_pos (.inr rfl)]
   repeat refine DS ?_
   exact bI.code h.rel 1
  | true=>
   rw [if_neg (by simp [he])]
   have eU:ae IntKind.i64 (nth (0,(0,none)) (L.map fun a=>(a.used,(a.gate,a.jo))) (nN s)).1 (fI IntKind.i64 (bn a b).1 8)=na.used+(bn a b).1*8:=by
    have y_:0≤na.used∧na.used%8=0∧na.used≤(ah m.sc s).2.2:=y_
    rw [pL xg,aZ (by omega),aH (by show -9223372036854775808≤na.used+_∧na.used+_≤_;omega)]
   by_cases TF:(ah m.sc s).2.2<na.er.used+(bn a b).1*8
   ·rw [if_pos TF]
    repeat refine DS ?_
    dsimp only
    rw [eU]
    refine bI.of (aX TF) ?_
    repeat refine DS ?_
    exact bI.code h.rel 17
   ·rw [if_neg TF]
    repeat refine DS ?_
    dsimp only
    have eU2:=eU
    rw [eU]
    refine bI.of (a6 TF) ?_
    have eR:((s,((ah m.sc s).1.2.2.2,ae IntKind.i64 (ah m.sc s).2.1 (nth (0,(0,none)) (L.map fun a=>(a.used,(a.gate,a.jo))) (nN s)).1)):jl)=(s,((ah m.sc s).1.2.2.2,(ah m.sc s).2.1+na.er.used)):=by
     have y_:0≤na.used∧na.used%8=0∧na.used≤(ah m.sc s).2.2:=y_
     rw [pL xg,aH (by show -9223372036854775808≤_+na.used∧_+na.used≤_;omega)];rfl
    have mF:∀v,(((s,((ah m.sc s).1.2.2.2,(ah m.sc s).2.1+na.er.used)):jl),v)∉es:=by
     intro v hv
     obtain ⟨i,p,x,hx,h1,_⟩:=(h.em _ v).1 hv
     obtain ⟨a',y,g1,g2,g3,g4,g5,g6,g7,g8⟩:=h.place hi hx
     rw [←h1] at g8
     have GL:s=(i:Int):=g8
     rw [GL,zE] at xg
     rw [xg] at g1;cases g1
     have fQ:=g6.ob _ (zG g7)
     rw [GL] at kP
     rw [zE,g5] at kP
     obtain ⟨_,_,_,q4,_⟩:=fQ
     have hy:=kP.1
     have hy:y=ah m.sc (i:Int):=by cases hy;rfl
     rw [←h1,GL,←hy] at q4
     have q4:y.2.1+na.er.used+16≤y.2.1+na.er.used:=q4
     omega
    have oJ:nth [] d5 N.mp=es:=bj h.mp
    have hm:oO (ng (Ty.pair (Ty.int IntKind.i64) (Ty.pair (Ty.int IntKind.i64) (Ty.int IntKind.i64))) ((s,((ah m.sc s).1.2.2.2,ae IntKind.i64 (ah m.sc s).2.1 (nth (0,(0,none)) (L.map fun a=>(a.used,(a.gate,a.jo))) (nN s)).1)):jl)) (nth [] d5 N.mp) 0=none:=by
     exact Jp eR oJ (Bs es 0 mF)
    have hAU:=Ab xg { na with used:=na.used+(bn a b).1*8 } (fun Gb=>(ae IntKind.i64 (nth (0,(0,none)) (L.map fun a=>(a.used,(a.gate,a.jo))) (nN s)).1 (fI IntKind.i64 (bn a b).1 8),Gb.2)) (by dsimp only;rw [eU2])
    have MS:(L.set s.toNat { na with used:=na.used+(bn a b).1*8 })[s.toNat]?=some { na with used:=na.used+(bn a b).1*8 }:=by
     rw [List.getElem?_set,if_pos rfl,if_pos (zB.1 xg).1]
    have xi:(nth (0,(0,none)) (aw (0,(0,none)) (L.map fun a=>(a.used,(a.gate,a.jo))) (nN s) (fun Gb=>(ae IntKind.i64 (nth (0,(0,none)) (L.map fun a=>(a.used,(a.gate,a.jo))) (nN s)).1 (fI IntKind.i64 (bn a b).1 8),Gb.2))) (nN s)).2.2=na.jo:=by
     rw [hAU,pL MS]
    have hd3:∀(jn:Nat),aT (aT d3 N.ja (some (aw (0,(0,none)) (L.map fun a=>(a.used,(a.gate,a.jo))) (nN s) (fun Gb=>(ae IntKind.i64 (nth (0,(0,none)) (L.map fun a=>(a.used,(a.gate,a.jo))) (nN s)).1 (fI IntKind.i64 (bn a b).1 8),Gb.2))))) N.ja
      (some (aw (0,(0,none)) (aw (0,(0,none)) (L.map fun a=>(a.used,(a.gate,a.jo))) (nN s) (fun Gb=>(ae IntKind.i64 (nth (0,(0,none)) (L.map fun a=>(a.used,(a.gate,a.jo))) (nN s)).1 (fI IntKind.i64 (bn a b).1 8),Gb.2))) (nN s) (fun Hq=>(Hq.1,(Hq.2.1,some jn)))))
      = aT d3 N.ja (some ((L.set s.toNat ⟨na.used+(bn a b).1*8,na.gate,some jn,na.os++[(d6.length,d8.length,⟨(s,((ah m.sc s).1.2.2.2,(ah m.sc s).2.1+na.er.used)),t,List.replicate a.toNat 0,false⟩)]⟩).map fun a=>(a.used,(a.gate,a.jo)))):=by
     intro jn
     rw [ym,hAU,Ab MS ⟨na.used+(bn a b).1*8,na.gate,some jn,na.os++[(d6.length,d8.length,⟨(s,((ah m.sc s).1.2.2.2,(ah m.sc s).2.1+na.er.used)),t,List.replicate a.toNat 0,false⟩)]⟩ _ rfl,List.set_set]
    have hl9:na.os.length≤9000:=by
     have:=Na.ol
     have e:na.er.a5.length=na.os.length:=by show (na.os.map _).length=_;rw [zH]
     omega
    have JE:∀w,aw ([0,0,0,0],[]) (m.th.map fun t=>(t.cP,t.aF)) (nN n) (fun tq=>(cm 0 tq.1 (nN r) w,tq.2))=(m.fS n ⟨(m.aA n).cP.set r.toNat w,(m.aA n).aF⟩).th.map fun t=>(t.cP,t.aF):=fun w=>
     nT hn ⟨(m.aA n).cP.set r.toNat w,(m.aA n).aF⟩ _ (by dsimp only;rw [pJ ht.1 (by omega)])
    rcases h.jo na (zG xg) with ⟨j1,j2⟩ | ⟨j,j1,j2⟩
    ·rw [j1] at xi
     repeat refine DS ?_
     refine bI.of (tZ (Bw jR hm)) ?_
     refine QH (IM jR eR) ?_
     repeat refine DS ?_
     refine ⟨_,_,_,_,_,_,_,_,_,rfl,tW.cast ⟨N,_,_,(h.push xg (na.used+(bn a b).1*8) ⟨(s,((ah m.sc s).1.2.2.2,(ah m.sc s).2.1+na.er.used)),t,List.replicate a.toNat 0,false⟩ mF (uF:=cat d7 [some [some (len d6)]]) (jn:=d7.length) ?_ ?_).fS n _⟩ (hd3 _) ?_ ?_ ?_ rfl rfl⟩
     ·rw [dn,j2];rfl
     ·intro j' b' r' jI vW Dp
      rcases h.jo b' (zG vW) with ⟨k1,_⟩ | ⟨j3,k1,k2⟩
      ·rw [k1] at Dp;cases Dp
      ·rw [k1] at Dp;cases Dp
       have:=jY k2
       exact ⟨by rw [mJ,if_neg (by omega)],by omega⟩
     ·rw [JE];rfl
     ·unfold aw
      rw [oJ,jR,eR];rfl
     ·rw [eR];rfl
    ·rw [j1] at xi
     have hj7:=jY j2
     repeat refine DS ?_
     refine bI.of (tZ (Bw jR hm)) ?_
     refine QH (IM jR eR) ?_
     repeat refine DS ?_
     refine ⟨_,_,_,_,_,_,_,_,_,rfl,tW.cast ⟨N,_,_,(h.push xg (na.used+(bn a b).1*8) ⟨(s,((ah m.sc s).1.2.2.2,(ah m.sc s).2.1+na.er.used)),t,List.replicate a.toNat 0,false⟩ mF (uF:=cat (aT d7 j none) [some (cat (na.os.map fun x=>some x.1) [some (len d6)])]) (jn:=(aT d7 j none).length) ?_ ?_).fS n _⟩ (hd3 _) ?_ ?_ ?_ rfl rfl⟩
     ·rw [dn,List.map_append];rfl
     ·intro j' b' r' jI vW Dp
      rcases h.jo b' (zG vW) with ⟨k1,_⟩ | ⟨j3,k1,k2⟩
      ·rw [k1] at Dp;cases Dp
      ·rw [k1] at Dp;cases Dp
       have dP:=jY k2
       have xh:(aT d7 j none).length=d7.length:=zM
       have JQ:j≠r':=fun e=>jI (h.n7 j' s.toNat b' na r' vW xg k1 (by rw [j1,e]))
       exact ⟨by rw [mJ,if_neg (by omega),uO hj7,if_neg JQ],by omega⟩
     ·rw [JE];rfl
     ·unfold aw
      rw [oJ,jR,eR];rfl
     ·rw [eR];rfl
 ·rw [if_pos (.inl he)]
  repeat refine DS ?_
  exact bI.code h.rel 1
end
open Go.Bm Go.jG
theorem BR {f:List (List iw)} (hf:m8 f) (o:ku):(eP f o).2.1.length≤8:=by
 unfold eP
 split
 ·simp
 ·have:=mQ (dW f o.tag) o.bg
  have h8:(dW f o.tag).length≤8:=by
   unfold dW
   split
   ·rw [zA]
    cases hx:f[o.tag.toNat]? with
    | none=>simp
    | some x=>exact (hf.2 x (zG hx)).1
   ·simp
  simp only;omega
theorem ue {f:List (List iw)} (hf:m8 f):∀l:List ku,(bQ f l).2.1.length≤8*l.length
 | []=>by simp [bQ]
 | o::l=>by
  have:=ue hf l
  have:=BR hf o
  simp [bQ];omega
theorem Ki (f:List (List iw)) (o:ku):0≤(eP f o).2.2.1∧(eP f o).2.2.1≤1:=by
 unfold eP
 split<;>simp
theorem BS (f:List (List iw)):∀l:List ku,0≤(bQ f l).2.2.1∧(bQ f l).2.2.1≤l.length
 | []=>by simp [bQ]
 | o::l=>by
  have:=BS f l
  have:=Ki f o
  simp [bQ];omega
theorem tO {f:List (List iw)} (hf:m8 f) (t:Int):xL (dW f t):=by
 unfold dW
 split
 ·rw [zA]
  cases hx:f[t.toNat]? with
  | none=>exact ⟨by simp,fun o ho=>by simp at ho⟩
  | some x=>exact hf.2 x (zG hx)
 ·exact ⟨by simp,fun o ho=>by simp at ho⟩
section
variable {c0:T0} {c1:T1} {d0:T2} {d1:T3} {d2:T4} {d3:T5} {d4:T6} {d5:T7} {d6:T8} {d7:T9} {d8:dQ} {md:Nat} {m:M} {N:Cm} {L:List NA} {es:List (jl×Option Nat)}
def M.ly (m:M) (s:Int) (X:List ku):M:=m.dm s { m.bA s with a5:=X }
abbrev ahM:Type:=((Int×Unit)×(Unit×(Unit×(((Int×(Int×((List Int)×Unit)))×Unit)×(T8×(dQ×Unit))))))
def x7 (i code n:Int) (said:List Int) (d6:T8) (d8:dQ):ahM:=((i,()),((),((),(((code,(n,(said,()))),()),(d6,(d8,()))))))
def Qh (b:Bool):Int:=if b=true then 25 else 0
abbrev NY:Type:=(Unit×(Unit×(Unit×(((Int×(Int×((List Int)×Unit)))×((Int×(Int×((List Int)×Unit)))×Unit))×(T8×(dQ×Unit))))))
def Np (code n:Int) (said:List Int) (d6:T8) (d8:dQ):NY:=((),((),((),(((0,(0,([],()))),((code,(n,(said,()))),())),(d6,(d8,()))))))
theorem wb (TK:MI 9000 m) {s:Int} (hs:0≤s∧s<m.p.1) {jo:Nat} (a5:List ku) (ho:(m.bA s).a5=a5) :
  ∀(j:Nat) (d6:T8) (d8:dQ) (L:List NA) (a:NA),j≤a5.length→MR c0 c1 d0 d1 d2 d3 d4 d5 d6 d7 d8 md (M.ly m s (a5.take j++(bQ m.f (a5.drop j)).1)) N L es→L[s.toNat]?=some a→a.jo=some jo →
  ∃qu tR L' a',MR c0 c1 d0 d1 d2 d3 d4 d5 qu d7 tR md (M.ly m s (bQ m.f a5).1) N L' es∧L'[s.toNat]?=some a'∧a'.jo=some jo∧∀K:NY→Option FG,
   yk (g.gF md c0 d0 d1 d2 d3 d4 d5 d7 jo K) (x7 ((j:Int)-1) (Qh (bQ m.f (a5.drop j)).2.2.2) (bQ m.f (a5.drop j)).2.2.1 (bQ m.f (a5.drop j)).2.1 d6 d8)
    (if (bQ m.f a5).2.2.2=true then some (((25,((bQ m.f a5).2.2.1,(bQ m.f a5).2.1)),(0,())),(d0,(d1,(d2,(d3,(d4,(d5,(qu,(d7,(tR,()))))))))))
     else K (Np 0 (bQ m.f a5).2.2.1 (bQ m.f a5).2.1 qu tR)) j
 | 0,d6,d8,L,a,_,h,ha,hj=>by
  rw [List.take_zero,List.drop_zero,List.nil_append] at h
  refine ⟨d6,d8,L,a,h,ha,hj,fun K=>.stop 0 fun G=>?_⟩
  rw [List.drop_zero]
  unfold g.gF x7
  dsimp only
  refine Eq.trans (a_ (by omega)) ?_
  unfold Qh
  cases hh:(bQ m.f a5).2.2.2 with
  | true=>
   rw [if_pos rfl,if_pos rfl]
   repeat refine HS ?_
   rfl
  | false=>
   rw [if_neg (by simp),if_neg (by simp)]
   repeat refine HS ?_
   rfl
 | j+1,d6,d8,L,a,hjl,h,ha,xi=>by
  have dP:j<a5.length:=by omega
  have hd:a5.drop j=a5[j]::a5.drop (j+1):=List.drop_eq_getElem_cons dP
  have Dy:m8 m.f:=TK.ff
  have pg:a5.take (j+1)=a5.take j++[a5[j]]:=by rw [List.take_add_one,zD dP];rfl
  have hLs:(M.ly m s (a5.take (j+1)++(bQ m.f (a5.drop (j+1))).1)).ar[s.toNat]?=some a.er:=by rw [h.er,zL,ha];rfl
  have TG:=TK.la
  have hao:a.er={ m.bA s with a5:=a5.take (j+1)++(bQ m.f (a5.drop (j+1))).1 }:=by
   have:(m.ar.set s.toNat { m.bA s with a5:=a5.take (j+1)++(bQ m.f (a5.drop (j+1))).1 })[s.toNat]?=some a.er:=hLs
   rw [List.getElem?_set,if_pos rfl,if_pos (by omega)] at this
   exact (Option.some.inj this).symm
  have aeo:a.er.a5[j]?=some a5[j]:=by
   rw [hao]
   show (a5.take (j+1)++_)[j]?=_
   rw [zK (by rw [List.length_take];omega),List.getElem?_take,if_pos (by omega),zD dP]
  obtain ⟨x,hx,TA⟩:∃x,a.os[j]?=some x∧x.2.2=a5[j]:=by
   have:(a.os.map fun x=>x.2.2)[j]?=some a5[j]:=aeo
   rw [zL] at this
   cases hx:a.os[j]? with
   | none=>rw [hx] at this;cases this
   | some x=>rw [hx] at this;exact ⟨x,rfl,by simpa using this⟩
  have E0:At L s.toNat j x:=⟨a,ha,hx⟩
  have h67:=h.ob _ _ x E0
  have e6:nth ((0,(0,0)),(0,(none,false))) d6 x.1=(x.2.2.ref,(x.2.2.tag,(some x.2.1,x.2.2.done))):=bj h67.1
  have uD:aE d7 jo=some (a.os.map fun x=>some x.1):=by
   rcases h.jo a (zG ha) with ⟨k1,_⟩ | ⟨r,k1,k2⟩
   ·rw [k1] at xi;cases xi
   ·rw [k1] at xi;cases xi;exact k2
  have am3:j<a.os.length:=(zB.1 hx).1
  have aeq:nth none (a.os.map fun x=>some x.1) (nN ((((j+1:Nat):Int))-1))=some x.1:=by
   have e:nN ((((j+1:Nat):Int))-1)=j:=by rw [cH];omega
   rw [e]
   exact bj (by rw [zL,hx];rfl)
  have Na:=(TK.wO hs).2
  have fQ:Bj (ah m.sc s) s.toNat (m.bA s).used a5[j]:=Na.ob _ (by rw [ho];exact List.getElem_mem dP)
  have Cw:a5.length≤9000:=by rw [←ho];exact Na.ol
  have aeV:=abl h
  have hbf:(nth jg c0 md).2.1=m.f:=aeV
  have hOf:g.wc m.f x.2.2.tag=some ((dW m.f x.2.2.tag,()),()):=Kh (l:=m.f) x.2.2.tag (by have:=Dy.1;omega)
  have kR:=tO Dy x.2.2.tag
  have hsd:=ue Dy (a5.drop (j+1))
  have JN:=BS m.f (a5.drop (j+1))
  have hdl:(a5.drop (j+1)).length≤9000:=by simp;omega
  have JZ:bQ m.f (a5.drop j)=((eP m.f a5[j]).1::(bQ m.f (a5.drop (j+1))).1,(bQ m.f (a5.drop (j+1))).2.1++(eP m.f a5[j]).2.1,(bQ m.f (a5.drop (j+1))).2.2.1+(eP m.f a5[j]).2.2.1,(bQ m.f (a5.drop (j+1))).2.2.2 || (eP m.f a5[j]).2.2.2):=by
   rw [hd];rfl
  by_cases hq:a5[j].done=true∨dW m.f a5[j].tag=[]
  ·-- nothing is to be done
   have Lu:eP m.f a5[j]=(a5[j],[],0,false):=by unfold eP;rw [if_pos hq]
   have qF:(bQ m.f (a5.drop j)).1=a5[j]::(bQ m.f (a5.drop (j+1))).1∧(bQ m.f (a5.drop j)).2=(bQ m.f (a5.drop (j+1))).2:=by
    rw [JZ,Lu];simp
   have hX:a5.take (j+1)++(bQ m.f (a5.drop (j+1))).1=a5.take j++(bQ m.f (a5.drop j)).1:=by
    rw [pg,qF.1,List.append_assoc];rfl
   rw [hX] at h
   obtain ⟨qu,tR,L',a',r1,r2,r3,r4⟩:=wb TK hs a5 ho j d6 d8 L a (by omega) h ha xi
   refine ⟨qu,tR,L',a',r1,r2,r3,fun K=>?_⟩
   rw [qF.2] at r4
   refine .step (r4 K) fun G=>?_
   unfold g.gF x7
   dsimp only
   refine Eq.trans (aY (by omega)) ?_
   repeat refine HS ?_
   rw [e6,hbf]
   refine nL hOf ?_
   rw [←TA] at hq
   rcases hq with hq | hq
   ·repeat refine HS ?_
    have ei:aK IntKind.i64 (((j+1:Nat):Int)-1) 1=(j:Int)-1:=by rw [aL (by omega)];omega
    rw [ei]
   ·rw [hq]
    cases Ao:x.2.2.done with
    | true=>
     repeat refine HS ?_
     have ei:aK IntKind.i64 (((j+1:Nat):Int)-1) 1=(j:Int)-1:=by rw [aL (by omega)];omega
     rw [ei]
    | false=>
     repeat refine HS ?_
     have ei:aK IntKind.i64 (((j+1:Nat):Int)-1) 1=(j:Int)-1:=by rw [aL (by omega)];omega
     rw [ei]
  ·have Lu:eP m.f a5[j]=({ a5[j] with bg:=(fJ (dW m.f a5[j].tag) a5[j].bg).1,done:=true },(fJ (dW m.f a5[j].tag) a5[j].bg).2.1,1,(fJ (dW m.f a5[j].tag) a5[j].bg).2.2.1):=by
    unfold eP;rw [if_neg hq]
   have Ao:a5[j].done=false:=by
    cases hd:a5[j].done with
    | true=>exact absurd (.inl hd) hq
    | false=>rfl
   have jI:dW m.f a5[j].tag≠[]:=fun e=>hq (.inr e)
   have Hu:x.2.2.bg.length≤100:=by rw [TA];have:=fQ.2.2.2.2.2.2.1;omega
   have aeZ:=G3 kR h67.2 Hu
   rw [←TA] at Ao jI Lu
   have hX:M.ly m s (a5.take j++(bQ m.f (a5.drop j)).1)={ M.ly m s (a5.take (j+1)++(bQ m.f (a5.drop (j+1))).1) with ar:=(M.ly m s (a5.take (j+1)++(bQ m.f (a5.drop (j+1))).1)).ar.set s.toNat { a.er with a5:=a.er.a5.set j (eP m.f x.2.2).1 } }:=by
    unfold M.ly M.dm
    congr 1
    rw [List.set_set,hao,JZ,pg,←TA]
    congr 2
    rw [TA]
    have hl:(a5.take j).length=j:=by rw [List.length_take];omega
    rw [List.append_assoc,List.set_append_right _ _ (by omega),hl,Nat.sub_self]
    rfl
   have hd6:aw ((0,(0,0)),(0,(none,false))) (aw ((0,(0,0)),(0,(none,false))) d6 x.1 (fun lP=>(lP.1,(lP.2.1,(some d8.length,lP.2.2.2))))) x.1 (fun mB=>(mB.1,(mB.2.1,(mB.2.2.1,true))))=d6.set x.1 (x.2.2.ref,(x.2.2.tag,(some d8.length,true))):=by
    have aet:=(zB.1 h67.1).1
    unfold aw
    rw [rY aet,e6]
    simp only [aT,List.set_set]
   have hMR:=h.PK ha hx (sj:=d8.length) (o:=(eP m.f x.2.2).1) (rb m.f x.2.2).1 (qu:=d6.set x.1 (x.2.2.ref,(x.2.2.tag,(some d8.length,true)))) (tR:=d8++[some (fJ (dW m.f x.2.2.tag) x.2.2.bg).1]) (by
     rw [List.getElem?_set,if_pos rfl,if_pos (zB.1 h67.1).1,Lu]) (by rw [Lu];exact dn) (fun n hn=>by rw [List.getElem?_set,if_neg (fun e=>hn e.symm)]) (fun j' p' y hy xX=>by
     have amU:=jY (h.ob _ _ y hy).2
     exact ⟨by show aE (cat d8 [_]) _=_;rw [mJ,if_neg (by omega)],by omega⟩)
   rw [←hX] at hMR
   obtain ⟨qu,tR,L',a',r1,r2,r3,r4⟩:=wb TK hs a5 ho j _ _ _ { a with os:=a.os.set j (x.1,d8.length,(eP m.f x.2.2).1) } (by omega) hMR (by
    rw [List.getElem?_set,if_pos rfl,if_pos (zB.1 ha).1]) xi
   refine ⟨qu,tR,L',a',r1,r2,r3,fun K=>.step (r4 K) fun G=>?_⟩
   rw [JZ,←TA,Lu]
   have hrs:=mQ (dW m.f x.2.2.tag) x.2.2.bg
   have h8:=kR.1
   unfold g.gF x7
   dsimp only
   have ei:aK IntKind.i64 (((j+1:Nat):Int)-1) 1=(j:Int)-1:=by rw [aL (by omega)];omega
   have en:ae IntKind.i64 (bQ m.f (a5.drop (j+1))).2.2.1 1=(bQ m.f (a5.drop (j+1))).2.2.1+1:=aH (by omega)
   refine Eq.trans (aY (by omega)) ?_
   repeat refine HS ?_
   rw [e6,hbf]
   refine nL hOf ?_
   have hz:¬((dW m.f x.2.2.tag).length:Int)=0:=by
    intro e
    exact jI (zZ (by omega))
   repeat refine HS ?_
   rw [ei,en]
   cases hh:(fJ (dW m.f x.2.2.tag) x.2.2.bg).2.2.1 with
   | true=>
    repeat refine HS ?_
    rw [hd6]
    simp only [Bool.or_true]
    rfl
   | false=>
    repeat refine HS ?_
    rw [hd6]
    simp only [Bool.or_false]
    rfl
end
open Go.Bm Go.jG
section
variable {c0:T0} {c1:T1} {d0:T2} {d1:T3} {d2:T4} {d3:T5} {d4:T6} {d5:T7} {d6:T8} {d7:T9} {d8:dQ} {md:Nat} {m:M} {N:Cm} {L:List NA} {es:List (jl×Option Nat)}
abbrev aiv:Type:=((Int×Unit)×(Unit×(Unit×(Unit×(T7×Unit)))))
def Kx (i:Int) (d5:T7):aiv:=((i,()),((),((),((),(d5,())))))
abbrev aiw:Type:=(Unit×(Unit×(Unit×(Unit×(T3×(T5×(T7×Unit)))))))
def D8 (L:List NA) (s k:Nat) (es:List (jl×Option Nat)):Prop:=(es.map fun e=>e.1).Nodup∧∀r v,(r,v)∈es↔∃i p x,At L i p x∧¬(i=s∧p<k)∧r=x.2.2.ref∧v=some x.1
theorem zr {es:List (jl×Option Nat)} (hk:(es.map fun e=>e.1).Nodup) {j:Nat} {r0:jl} {v0:Option Nat} (hj:es[j]?=some (r0,v0)) (r:jl) (v:Option Nat):(r,v)∈es.eraseIdx j↔(r,v)∈es∧r≠r0:=by
 have RE:∀(p q:Nat) (a b:jl×Option Nat),es[p]?=some a→es[q]?=some b→a.1=b.1→p=q:=by
  intro p q a b hp hq e
  have YW:=List.pairwise_iff_getElem.1 hk
  obtain ⟨l1,e1⟩:=zB.1 hp
  obtain ⟨l2,e2⟩:=zB.1 hq
  rcases Nat.lt_trichotomy p q with h | h | h
  ·have:=YW p q (by simpa using l1) (by simpa using l2) h
   rw [List.getElem_map,List.getElem_map,e1,e2] at this;exact absurd e this
  ·exact h
  ·have:=YW q p (by simpa using l2) (by simpa using l1) h
   rw [List.getElem_map,List.getElem_map,e1,e2] at this;exact absurd e.symm this
 rw [List.mem_eraseIdx_iff_getElem?]
 constructor
 ·rintro ⟨p,hn,hp⟩
  exact ⟨zG hp,fun e=>hn (RE p j _ _ hp hj e)⟩
 ·rintro ⟨hm,hn⟩
  obtain ⟨p,hp⟩:=List.getElem?_of_mem hm
  refine ⟨p,fun e=>hn ?_,hp⟩
  subst e
  rw [hj] at hp;cases hp;rfl
theorem BY (h:MR c0 c1 d0 d1 d2 d3 d4 d5 d6 d7 d8 md m N L es) {k0:Nat} (hi:MI k0 m) {s:Int} (hs:0≤s∧s<m.p.1) {a:NA} (ha:L[s.toNat]?=some a) {jo:Nat} (xi:a.jo=some jo) (v2:NY) (MO:v2.2.2.2.2.1=d6) (v3:(((List (Int×Bool))×((Int×Bool)×(Int×Unit)))×Unit)) (hv3:v3.1.2.1.1=s) :
  ∀(rem k:Nat) (Nx:T7) (HA:List (jl×Option Nat)),k+rem=a.os.length→Nx[N.mp]?=some HA→D8 L s.toNat k HA →
  ∃qv sY,qv[N.mp]?=some sY∧D8 L s.toNat a.os.length sY∧∀(v4:aiw→Option FG) (v5:((Int×Unit)×(T3×Unit))),
   yk (g.gG md c0 d3 d7 (a.os.map fun x=>some x.1) jo v2 v3 v4 v5) (Kx (k:Int) Nx)
    (v4 ((),((),((),((),(v5.2.1,((aT d3 N.ja (some ((L.set s.toNat ⟨0,0,none,[]⟩).map fun a=>(a.used,(a.gate,a.jo))))),(qv,())))))))) rem
 | 0,k,Nx,HA,hk,h5,ho=>by
  have hk:k=a.os.length:=by omega
  subst hk
  refine ⟨Nx,HA,h5,ho,fun v4 v5=>.stop 0 fun G=>?_⟩
  have b3:=rq h
  have BG:=h.ar
  have Ls:=pM h hi
  unfold g.gG Kx
  rw [hv3]
  repeat refine HS ?_
  have e:aT (L.map fun a=>(a.used,(a.gate,a.jo))) (nN s) (0,(0,none))=(L.set s.toNat ⟨0,0,none,[]⟩).map fun a=>(a.used,(a.gate,a.jo)):=by
   rw [kj (f:=fun a:NA=>(a.used,(a.gate,a.jo))) rfl];rfl
  rw [e]
 | rem+1,k,Nx,HA,hk,h5,ho=>by
  have dP:k<a.os.length:=by omega
  have hx:a.os[k]?=some a.os[k]:=zD dP
  generalize P6:a.os[k]=x at *
  have E0:At L s.toNat k x:=⟨a,ha,hx⟩
  have e6:=vD h E0
  obtain ⟨j,g1,g2⟩:=Br HA 0 ho.1 ((ho.2 x.2.2.ref (some x.1)).2 ⟨_,_,x,E0,by omega,rfl,rfl⟩)
  rw [Nat.zero_add] at g1
  have hl9:a.os.length≤9000:=by
   obtain ⟨a',y,q1,q2,q3,q4,q5,q6,q7,q8⟩:=h.place hi E0
   rw [ha] at q1;cases q1
   have:=q6.ol
   have e:a.er.a5.length=a.os.length:=by show (a.os.map _).length=_;rw [zH]
   have:=hi.kk
   omega
  have uD:aE d7 jo=some (a.os.map fun x=>some x.1):=by
   rcases h.jo a (zG ha) with ⟨k1,_⟩ | ⟨r,k1,k2⟩
   ·rw [k1] at xi;cases xi
   ·rw [k1] at xi;cases xi;exact k2
  have aeq:nth none (a.os.map fun x=>some x.1) (nN (k:Int))=some x.1:=bj (by show (a.os.map _)[k]?=_;rw [zL,hx];rfl)
  have b5:=wD h
  have oJ:nth [] Nx N.mp=HA:=bj h5
  have jI:D8 L s.toNat (k+1) (HA.eraseIdx j):=by
   refine ⟨?_,fun r v=>?_⟩
   ·exact ho.1.sublist ((List.eraseIdx_sublist HA j).map _)
   ·rw [zr ho.1 g2,ho.2]
    constructor
    ·rintro ⟨⟨i,p,y,hy,hn,h1,h2⟩,h3⟩
     refine ⟨i,p,y,hy,fun ⟨e1,e2⟩=>?_,h1,h2⟩
     by_cases e3:p=k
     ·rw [e1,e3] at hy
      obtain ⟨a2,w1,w2⟩:=hy
      rw [ha] at w1;cases w1
      rw [hx] at w2;cases w2
      exact h3 h1
     ·exact hn ⟨e1,by omega⟩
    ·rintro ⟨i,p,y,hy,hn,h1,h2⟩
     refine ⟨⟨i,p,y,hy,fun ⟨e1,e2⟩=>hn ⟨e1,by omega⟩,h1,h2⟩,fun e=>hn ?_⟩
     rw [h1] at e
     obtain ⟨a1,y1,q1,q2,q3,q4,q5,q6,q7,q8⟩:=h.place hi hy
     obtain ⟨a2,y2,w1,w2,w3,w4,w5,w6,w7,w8⟩:=h.place hi E0
     rw [e,w8] at q8
     have hii:i=s.toNat:=by omega
     subst hii
     rw [w1] at q1;cases q1
     exact ⟨rfl,by have:=AI.one w6 q7 w7 e;omega⟩
  have amV:=(zB.1 h5).1
  obtain ⟨qv,sY,r1,r2,r3⟩:=BY h hi hs ha xi v2 MO v3 hv3 rem (k+1) (aT Nx N.mp (HA.eraseIdx j)) (HA.eraseIdx j) (by omega) (jX h5) jI
  refine ⟨qv,sY,r1,r2,fun v4 v5=>.step (r3 v4 v5) fun G=>?_⟩
  rw [←oJ] at g1
  unfold g.gG Kx
  rw [MO]
  dsimp only
  repeat refine HS ?_
  rw [e6]
  refine Eq.trans (rV g1) ?_
  have ed:aw [] Nx N.mp (fun r7=>Je r7 j)=aT Nx N.mp (HA.eraseIdx j):=by
   unfold aw;rw [oJ];rfl
  have ei:ae IntKind.i64 (k:Int) 1=((k+1:Nat):Int):=by rw [aH (by omega)];omega
  rw [ei]
  dsimp only
  rw [ed]
end
open Go.Bm Go.jG
section
variable {c0:T0} {c1:T1} {d0:T2} {d1:T3} {d2:T4} {d3:T5} {d4:T6} {d5:T7} {d6:T8} {d7:T9} {d8:dQ} {md:Nat} {m:M} {N:Cm} {L:List NA} {es:List (jl×Option Nat)}
theorem nO {i:Nat} {us ga:Int} {j p:Nat} {y:Nat×Nat×ku} (h:At (L.set i ⟨us,ga,none,[]⟩) j p y):j≠i∧At L j p y:=by
 obtain ⟨c,h1,h2⟩:=h
 rcases getSet h1 with ⟨e1,e2⟩ | ⟨e,g⟩
 ·rw [e2] at h2;cases h2
 ·exact ⟨e,c,g,h2⟩
theorem N6 {i:Nat} {us ga:Int} {j p:Nat} {y:Nat×Nat×ku} (hn:j≠i) (h:At L j p y):At (L.set i ⟨us,ga,none,[]⟩) j p y:=by
 obtain ⟨c,h1,h2⟩:=h
 exact ⟨c,by rw [List.getElem?_set,if_neg (fun e=>hn e.symm)];exact h1,h2⟩
theorem MR.clear (h:MR c0 c1 d0 d1 d2 d3 d4 d5 d6 d7 d8 md m N L es) {i:Nat} {a:NA} (ha:L[i]?=some a) {sL:T3} {Yb:List eY} (hsr:mH c1 d0 sL d2 N.sc m.fr m.en Yb m.fl) {qv:T7} {sY:List (jl×Option Nat)} (h5:qv[N.mp]?=some sY) (ho:D8 L i a.os.length sY) :
  MR c0 c1 d0 sL d2 (aT d3 N.ja (some ((L.set i ⟨0,0,none,[]⟩).map fun a=>(a.used,(a.gate,a.jo))))) d4 qv d6 d7 d8 md { m with sc:=Yb,ar:=m.ar.set i uI } N (L.set i ⟨0,0,none,[]⟩) sY:=by
 refine ⟨h.box,hsr,h.th,aB h.ar,?_,?_,?_,?_,?_,?_,h5,ho.1,?_⟩
 ·show m.ar.set i _=_
  rw [h.er]
  exact (kj (f:=NA.er) (x:=⟨0,0,none,[]⟩) rfl).symm
 ·intro b hb
  rcases qU ha hb with rfl | hb
  ·exact .inl ⟨rfl,rfl⟩
  ·exact h.jo b hb
 ·intro j p y hy
  exact h.ob j p y (nO hy).2
 ·intro j j' p p' y y' hy qW e
  exact h.n6 _ _ _ _ y y' (nO hy).2 (nO qW).2 e
 ·intro j j' p p' y y' hy qW e
  exact h.n8 _ _ _ _ y y' (nO hy).2 (nO qW).2 e
 ·intro j l b c r hb hc h1 h2
  rcases getSet hb with ⟨e1,e2⟩ | ⟨_,g1⟩
  ·rw [e2] at h1;cases h1
  ·rcases getSet hc with ⟨e3,e4⟩ | ⟨_,g2⟩
   ·rw [e4] at h2;cases h2
   ·exact h.n7 j l b c r g1 g2 h1 h2
 ·intro r v
  rw [ho.2]
  constructor
  ·rintro ⟨j,p,y,hy,hn,h1,h2⟩
   refine ⟨j,p,y,N6 (fun e=>hn ⟨e,?_⟩) hy,h1,h2⟩
   obtain ⟨b,w1,w2⟩:=hy
   rw [e,ha] at w1;cases w1
   exact (zB.1 w2).1
  ·rintro ⟨j,p,y,hy,h1,h2⟩
   obtain ⟨k1,k2⟩:=nO hy
   exact ⟨j,p,y,k2,fun e=>k1 e.1,h1,h2⟩
theorem MR.scs (h:MR c0 c1 d0 d1 d2 d3 d4 d5 d6 d7 d8 md m N L es) {sL:T3} {Yb:List eY} (hsr:mH c1 d0 sL d2 N.sc m.fr m.en Yb m.fl):MR c0 c1 d0 sL d2 d3 d4 d5 d6 d7 d8 md { m with sc:=Yb } N L es:=
 ⟨h.box,hsr,h.th,h.ar,h.er,h.jo,h.ob,h.n6,h.n8,h.n7,h.mp,h.ek,h.em⟩
theorem y0 (h:MR c0 c1 d0 d1 d2 d3 d4 d5 d6 d7 d8 md m N L es) {k:Nat} (hi:MI k m) {n:Int} (hn:0≤n∧n<m.th.length) {s:Int} (h1:1≤s∧s<m.p.1) (h2:(ah m.sc s).1.1=2) (l:List cW) (nn:Int) (said:List Int) :
  bI ((fun (yv:(Unit×(Unit×(Unit×(((Int×(Int×((List Int)×Unit)))×((Int×(Int×((List Int)×Unit)))×Unit))×(T8×(dQ×Unit)))))))=>(jn (fun (Ru:(Unit×(Unit×(Unit×(Unit×(T3×(T5×(T7×Unit)))))))→_)=>(opt (nth jg c0 md).2.2.1 none (fun jH=>(bd (g.dD jH ((l,(((s,true):Int×Bool),((0:Int),()))),()).1.2.1.1 c1 d0 d2 d1) (fun gQ=>(br gQ.1.1 (opt (nth jg c0 md).2.2.1 none (fun iv=>(bd (g.eZ iv ((l,(((s,true):Int×Bool),((0:Int),()))),()).1.2.1.1 c1 d0 d2 gQ.2.1) (fun iu=>(opt (nth jg c0 md).2.2.2.1 none (fun kO=>(bd (aE d3 kO) (fun mE=>(gd (bf ((l,(((s,true):Int×Bool),((0:Int),()))),()).1.2.1.1) (gd (bl (nN ((l,(((s,true):Int×Bool),((0:Int),()))),()).1.2.1.1) (len mE)) (bd (aE d3 kO) (fun gh=>(opt (nth (0,(0,none)) gh (nN ((l,(((s,true):Int×Bool),((0:Int),()))),()).1.2.1.1)).2.2 (loop (g.kH md c0 d3 ((l,(((s,true):Int×Bool),((0:Int),()))),()) Ru iu) ((0,()),((),((),((),(d5,())))))) (fun iG=>(bd (aE d7 iG) (fun nP=>(loop (g.gG md c0 d3 d7 nP iG yv ((l,(((s,true):Int×Bool),((0:Int),()))),()) Ru iu) ((0,()),((),((),((),(d5,())))))))))))))))))))))) (Ru ((),((),((),((),(gQ.2.1,(d3,(d5,())))))))))))))) (fun (H9:(Unit×(Unit×(Unit×(Unit×(T3×(T5×(T7×Unit))))))))=>(bd (aE d4 N.jt) (fun lL=>(some (((yv.2.2.2.1.2.1.1,(yv.2.2.2.1.2.1.2.1,yv.2.2.2.1.2.1.2.2.1)),(0,())),(d0,(H9.2.2.2.2.1,(d2,(H9.2.2.2.2.2.1,((aT d4 N.jt (some (aw ([0,0,0,0],[]) lL (nN n) (fun nX=>(nX.1,((l,(((s,true):Int×Bool),((0:Int),()))),()).1.1))))),(H9.2.2.2.2.2.2.1,(yv.2.2.2.2.1,(d7,(yv.2.2.2.2.2.1,())))))))))))))))) (Np 0 nn said d6 d8)) c0 c1 md (m.leave n s l (0,nn,said)):=by
 have hx:=hi.te (i:=s) (by omega)
 have hr:=hi.si.cr _ _ hx
 have hc:=gM hr h2
 have vT:=hi.ls
 have zf:=hi.si.len
 have uC:=h.th
 have BG:=h.ar
 have b2:=rp h
 have b3:=rq h
 have Ls:=pM h hi
 obtain ⟨sL,k1,k2⟩:=CQ h.sr s (by omega)
 rw [M.pa h1.1 (by rw [hi.ls];exact h1.2) hr h2]
 rw [rL h1.1 (by omega) hr h2] at k1 k2
 obtain ⟨na,xg,BD⟩:=yi h hi (s:=s) (by omega)
 have JE:aw ([0,0,0,0],[]) (m.th.map fun t=>(t.cP,t.aF)) (nN n) (fun nX=>(nX.1,l))=(m.fS n ⟨(m.aA n).cP,l⟩).th.map fun t=>(t.cP,t.aF):=nT hn ⟨(m.aA n).cP,l⟩ _ rfl
 by_cases h3:(ah m.sc s).1.2.1=1
 ·rw [if_pos h3] at k1 k2 ⊢
  have hc3:bc (3,0,(ah m.sc s).1.2.2.1,(ah m.sc s).1.2.2.2)=true:=oV (by omega)
  obtain ⟨Ny,q1,q2⟩:=FQ k2 s (by show (m.sc.set _ _).length≤_;rw [zM];omega)
  have eu:cZ (m.sc.set s.toNat ((3,0,(ah m.sc s).1.2.2.1,(ah m.sc s).1.2.2.2),(ah m.sc s).2)) s dZ=(m.sc.set s.toNat ((1,0,-1,cO (ah m.sc s).1.2.2.2),(ah m.sc s).2),0):=by
   unfold cZ
   rw [if_pos (cg.2 ⟨h1.1,by rw [zM];omega⟩),jK (by omega) (by omega),oy hc3 rfl,if_pos rfl,List.set_set]
  have Tn:g.eZ N.sc s c1 d0 d2 sL=some ((0,()),(Ny,())):=by
   have e2:=congrArg Prod.snd eu
   rw [q1]
   exact congrArg (fun z=>some ((z,()),(Ny,()))) e2
  have q2':mH c1 d0 Ny d2 N.sc m.fr m.en (m.sc.set s.toNat ((1,0,-1,cO (ah m.sc s).1.2.2.2),(ah m.sc s).2)) m.fl:=by
   have e2:=congrArg Prod.fst eu
   rw [show (cZ (m.sc.set s.toNat ((3,0,(ah m.sc s).1.2.2.1,(ah m.sc s).1.2.2.2),(ah m.sc s).2),true,(0:Int)).1 s dZ).1=_ from e2] at q2
   exact q2
  have xi:(nth (0,(0,none)) (L.map fun a=>(a.used,(a.gate,a.jo))) (nN s)).2.2=na.jo:=by rw [pL xg]
  have k1':g.dD N.sc s c1 d0 d2 d1=some ((true,(0,())),(sL,())):=k1
  have tI:∀(qv:T7) (sY:List (jl×Option Nat)),qv[N.mp]?=some sY→D8 L s.toNat na.os.length sY →
    bI (some (((0,(nn,said)),(0,())),(d0,(Ny,(d2,((aT d3 N.ja (some ((L.set s.toNat ⟨0,0,none,[]⟩).map fun a=>(a.used,(a.gate,a.jo))))),((aT d4 N.jt (some (aw ([0,0,0,0],[]) (m.th.map fun t=>(t.cP,t.aF)) (nN n) (fun nX=>(nX.1,l))))),(qv,(d6,(d7,(d8,()))))))))))) c0 c1 md
     ((M.dm { m with sc:=m.sc.set s.toNat ((1,0,-1,cO (ah m.sc s).1.2.2.2),(ah m.sc s).2) } s uI).dy n l,(0,nn,said)):=by
   intro qv sY g1 g2
   rw [JE]
   exact ⟨_,_,_,_,_,_,_,_,_,rfl,N,_,sY,(h.clear xg q2' g1 g2).fS n ⟨(m.aA n).cP,l⟩⟩
  rcases h.jo na (zG xg) with ⟨j1,j2⟩ | ⟨j,j1,j2⟩
  ·rw [j1] at xi
   have sw:D8 L s.toNat na.os.length es:=⟨h.ek,fun r v=>by
    rw [h.em]
    constructor
    ·rintro ⟨i,p,y,hy,e1,e2⟩
     refine ⟨i,p,y,hy,fun ⟨_,hp⟩=>?_,e1,e2⟩
     rw [j2] at hp;cases hp
    ·rintro ⟨i,p,y,hy,_,e1,e2⟩
     exact ⟨i,p,y,hy,e1,e2⟩⟩
   have hf:=tI d5 es h.mp sw
   repeat refine DS ?_
   rw [xQ]
   unfold g.kH
   dsimp only
   repeat refine DS ?_
   have e:aT (L.map fun a=>(a.used,(a.gate,a.jo))) (nN s) (0,(0,none))=(L.set s.toNat ⟨0,0,none,[]⟩).map fun a=>(a.used,(a.gate,a.jo)):=by
    rw [kj (f:=fun a:NA=>(a.used,(a.gate,a.jo))) rfl];rfl
   rw [e]
   exact hf
  ·rw [j1] at xi
   have sw:D8 L s.toNat 0 es:=⟨h.ek,fun r v=>by
    rw [h.em]
    constructor
    ·rintro ⟨i,p,y,hy,e1,e2⟩
     exact ⟨i,p,y,hy,fun ⟨_,hp⟩=>(by cases hp),e1,e2⟩
    ·rintro ⟨i,p,y,hy,_,e1,e2⟩
     exact ⟨i,p,y,hy,e1,e2⟩⟩
   obtain ⟨qv,sY,r1,r2,r3⟩:=BY h hi (s:=s) (by omega) xg j1 (Np 0 nn said d6 d8) rfl ((l,(((s,true):Int×Bool),((0:Int),()))),()) rfl na.os.length 0 d5 es (by omega) h.mp sw
   have hf:=tI qv sY r1 r2
   have hl9:na.os.length<lD:=by
    have:=(hi.wO (i:=s) (by omega)).2.ol
    rw [BD] at this
    have e:na.er.a5.length=na.os.length:=by show (na.os.map _).length=_;rw [zH]
    have:=hi.kk
    unfold lD;omega
   repeat refine DS ?_
   refine bI.of ((r3 _ _).loop hl9) ?_
   repeat refine DS ?_
   exact hf
 ·rw [if_neg h3] at k1 k2 ⊢
  have k1':g.dD N.sc s c1 d0 d2 d1=some ((false,(0,())),(sL,())):=k1
  repeat refine DS ?_
  rw [JE]
  exact ⟨_,_,_,_,_,_,_,_,_,rfl,N,L,es,(h.scs k2).fS n ⟨(m.aA n).cP,l⟩⟩
end
open Go.Bm Go.jG
section
variable {c0:T0} {c1:T1} {d0:T2} {d1:T3} {d2:T4} {d3:T5} {d4:T6} {d5:T7} {d6:T8} {d7:T9} {d8:dQ} {md:Nat} {m:M} {N:Cm} {L:List NA} {es:List (jl×Option Nat)}
theorem MI.mono {k k':Nat} (h:MI k m) (hk:k≤k') (Dw:k'≤9000):MI k' m:=
 ⟨Dw,h.pr,h.ff,h.si,by have:=h.fk;omega,h.ls,h.la,h.lt,h.th,fun i x a h1 h2=>by
  have:=h.ai i x a h1 h2
  exact ⟨this.us,this.ga,by have:=this.ol;omega,this.ob,this.od,this.id⟩⟩
theorem Rs (K:NY→Option FG):loop (g.kG d0 d1 d2 d3 d4 d5 d7 K) (x7 (-1) 0 0 [] d6 d8)=K (Np 0 0 [] d6 d8):=by
 refine (yk.stop 0 fun G=>?_).loop (by unfold lD;omega)
 unfold g.kG x7
 dsimp only
 repeat refine HS ?_
 rfl
theorem Tc (h:MR c0 c1 d0 d1 d2 d3 d4 d5 d6 d7 d8 md m N L es) {k:Nat} (hi:MI k m) (DA:CT m) {n:Int} (hn:0≤n∧n<m.th.length) {r gg v a b t:Int} :
  bI (g.ib md n (5,r,gg,v,a,b,t) c0 c1 d0 d1 d2 d3 d4 d5 d6 d7 d8 N.jt) c0 c1 md (m.exit n):=by
 have ht:=hi.aA hn
 have uC:=h.th
 have BG:=h.ar
 have b2:=rp h
 have b3:=rq h
 have zf:=hi.si.len
 have Al:=hi.kk
 have Ls:=pM h hi
 have zh:=ht.2.2.len
 unfold g.ib
 refine bI.of (ke (c:=(5,r,gg,v,a,b,t)) rfl) ?_
 dsimp only
 cases hx:(m.aA n).aF.getLast? with
 | none=>
  have he:(m.aA n).aF=[]:=List.getLast?_eq_none_iff.1 hx
  have hP:g.kr (nth ([0,0,0,0],[]) (m.th.map fun t=>(t.cP,t.aF)) (nN n)).2=some (([],((0,false),(23,()))),()):=by
   rw [mW hn,he];exact xm
  unfold M.exit
  rw [hx]
  repeat refine DS ?_
  rw [nT hn ⟨(m.aA n).cP,[]⟩ _ rfl]
  have e2:m.fS n ⟨(m.aA n).cP,[]⟩=m:=by
   rw [←he]
   unfold M.fS
   have:=j8 (M.pV hn)
   show { m with th:=m.th.set n.toNat (m.aA n) }=m
   rw [this]
  have h2:=h.fS n ⟨(m.aA n).cP,[]⟩
  rw [e2] at h2 ⊢
  exact bI.code h2.rel 23
 | some x=>
  obtain ⟨s,bb⟩:=x
  have hP:g.kr (nth ([0,0,0,0],[]) (m.th.map fun t=>(t.cP,t.aF)) (nN n)).2=some (((m.aA n).aF.dropLast,((s,bb),(0,()))),()):=by
   rw [mW hn];exact B_ (by show (m.aA n).aF.length≤1000;omega) hx
  unfold M.exit
  rw [hx]
  cases bb with
  | false=>
   repeat refine DS ?_
   rw [nT hn ⟨(m.aA n).cP,(m.aA n).aF.dropLast⟩ _ rfl]
   exact ⟨_,_,_,_,_,_,_,_,_,rfl,N,L,es,h.fS n _⟩
  | true=>
   have hm:=sq hx
   have kP:=hi.live DA (M.rH hn) (.inr hm)
   have h1:=(ht.2.2.PN _ hm).2.2 rfl
   simp only at h1
   have hs:0≤s∧s<m.p.1:=⟨kP.2.2.1,kP.2.2.2⟩
   have hCt:=oT h.sr s (by omega)
   have Dx:lz m.sc 0 s=true:=cg.2 ⟨hs.1,by rw [hi.ls];exact hs.2⟩
   have MT:j9 m.sc s=((ah m.sc s).1,0):=by unfold j9;rw [if_pos Dx]
   dsimp only
   rw [MT] at hCt ⊢
   obtain ⟨na,xg,BD⟩:=yi h hi hs
   have Na:=(hi.wO hs).2
   dsimp only
   rw [if_neg (by simp)]
   repeat refine DS ?_
   by_cases h3:(ah m.sc s).1.2.1=1
   ·rw [if_pos h3]
    refine bI.of (ao h3) ?_
    have xi:(nth (0,(0,none)) (L.map fun a=>(a.used,(a.gate,a.jo))) (nN s)).2.2=na.jo:=by rw [pL xg]
    have hi9:=MI.mono hi Al (Nat.le_refl _)
    have hmX:=hi9.vc hs ((hi9.wO hs).2.fin m.f)
    rcases h.jo na (zG xg) with ⟨j1,j2⟩ | ⟨j,j1,j2⟩
    ·rw [j1] at xi
     have ho:(m.bA s).a5=[]:=by rw [BD];show na.os.map _=[];rw [j2];rfl
     have YU:m.dm s { m.bA s with a5:=[] }=m:=by
      have e:({ m.bA s with a5:=[] }:mz)=m.bA s:=by
       rw [←ho]
      rw [e]
      unfold M.dm
      rw [j8 (hi.wO hs).1]
     rw [ho]
     show bI _ c0 c1 md ((m.dm s { m.bA s with a5:=[] }).leave n s (m.aA n).aF.dropLast (0,0,[]))
     rw [YU]
     repeat refine DS ?_
     refine bI.of (Rs _) ?_
     exact y0 h hi hn ⟨h1,hs.2⟩ kP.2.1 _ 0 []
    ·rw [j1] at xi
     have hMW:M.ly m s ((m.bA s).a5.take (m.bA s).a5.length++(bQ m.f ((m.bA s).a5.drop (m.bA s).a5.length)).1)=m:=by
      rw [List.take_length,List.drop_length]
      show m.dm s { m.bA s with a5:=(m.bA s).a5++[] }=m
      rw [List.append_nil]
      unfold M.dm
      rw [j8 (hi.wO hs).1]
     obtain ⟨qu,tR,L',a',r1,r2,r3,r4⟩:=wb (c0:=c0) (c1:=c1) (d0:=d0) (d1:=d1) (d2:=d2) (d3:=d3) (d4:=d4) (d5:=d5) (d7:=d7) (md:=md) (N:=N) (es:=es) hi9 hs (m.bA s).a5 rfl (m.bA s).a5.length d6 d8 L na (Nat.le_refl _) (by rw [hMW];exact h) xg j1
     rw [List.drop_length] at r4
     have hlen:(m.bA s).a5.length<lD:=by have:=Na.ol;unfold lD;omega
     have xh:(na.os.map fun x=>some x.1).length=(m.bA s).a5.length:=by
      rw [BD];show _=(na.os.map _).length;rw [zH,zH]
     have e0:aK IntKind.i64 (zN (len (na.os.map fun x=>some x.1))) 1=(((m.bA s).a5.length:Nat):Int)-1:=by
      have:=Na.ol
      rw [cz,bt,xh,aL (by omega)]
     repeat refine DS ?_
     rw [e0]
     refine bI.of ((r4 _).loop hlen) ?_
     cases hh:(bQ m.f (m.bA s).a5).2.2.2 with
     | true=>
      rw [if_pos rfl,if_pos rfl]
      exact ⟨_,_,_,_,_,_,_,_,_,rfl,N,L',es,r1⟩
     | false=>
      rw [if_neg (by simp),if_neg (by simp)]
      exact y0 r1 hmX hn ⟨h1,hs.2⟩ kP.2.1 _ _ _
   ·rw [if_neg h3]
    refine bI.of (au h3) ?_
    exact y0 h hi hn ⟨h1,hs.2⟩ kP.2.1 _ 0 []
structure wK (c:qm):Prop where
 r:0≤c.2.1
 h:0≤c.2.2.1
 v:0≤c.2.2.2.1
theorem nq {c:qm} (hr:cC c=false) {K:((Bool×Unit)×Unit)→Option FG}:bd (g.bR (c.1,(c.2.1,(c.2.2.1,(c.2.2.2.1,(c.2.2.2.2.1,(c.2.2.2.2.2.1,c.2.2.2.2.2.2))))))) K=K ((false,()),()):=by rw [Im,hr]
theorem Th (h:MR c0 c1 d0 d1 d2 d3 d4 d5 d6 d7 d8 md m N L es) {n:Int} {c:qm} (hr:cC c=false):bI (g.fc md n c c0 c1 d0 d1 d2 d3 d4 d5 d6 d7 d8 N.jt) c0 c1 md (m.code 1):=by
 unfold g.fc
 refine bI.of (nq hr) ?_
 repeat refine DS ?_
 exact bI.code h.rel 1
theorem S9 (h:MR c0 c1 d0 d1 d2 d3 d4 d5 d6 d7 d8 md m N L es) {n:Int} {c:qm} (hr:cC c=false):bI (g.fb md n c c0 c1 d0 d1 d2 d3 d4 d5 d6 d7 d8 N.jt) c0 c1 md (m.code 1):=by
 unfold g.fb
 refine bI.of (nq hr) ?_
 repeat refine DS ?_
 exact bI.code h.rel 1
theorem S7 (h:MR c0 c1 d0 d1 d2 d3 d4 d5 d6 d7 d8 md m N L es) {n:Int} {c:qm} (hr:cC c=false):bI (g.fa md n c c0 c1 d0 d1 d2 d3 d4 d5 d6 d7 d8 N.jt) c0 c1 md (m.code 1):=by
 unfold g.fa
 refine bI.of (nq hr) ?_
 repeat refine DS ?_
 exact bI.code h.rel 1
theorem S4 (h:MR c0 c1 d0 d1 d2 d3 d4 d5 d6 d7 d8 md m N L es) {n:Int} {c:qm} (hr:cC c=false):bI (g.e_ md n c c0 c1 d0 d1 d2 d3 d4 d5 d6 d7 d8 N.jt) c0 c1 md (m.code 1):=by
 unfold g.e_
 refine bI.of (nq hr) ?_
 repeat refine DS ?_
 exact bI.code h.rel 1
theorem N3 (h:MR c0 c1 d0 d1 d2 d3 d4 d5 d6 d7 d8 md m N L es) {n:Int} {c:qm} (hr:cC c=false):bI (g.eF md n c c0 c1 d0 d1 d2 d3 d4 d5 d6 d7 d8 N.jt) c0 c1 md (m.code 1):=by
 unfold g.eF
 refine bI.of (nq hr) ?_
 repeat refine DS ?_
 exact bI.code h.rel 1
theorem N1 (h:MR c0 c1 d0 d1 d2 d3 d4 d5 d6 d7 d8 md m N L es) {n:Int} {c:qm} (hr:cC c=false):bI (g.ev md n c c0 c1 d0 d1 d2 d3 d4 d5 d6 d7 d8 N.jt) c0 c1 md (m.code 1):=by
 unfold g.ev
 refine bI.of (nq hr) ?_
 repeat refine DS ?_
 exact bI.code h.rel 1
theorem SQ (h:MR c0 c1 d0 d1 d2 d3 d4 d5 d6 d7 d8 md m N L es) {k:Nat} (hi:MI k m) (DA:CT m) {n:Int} (hn:0≤n∧n<m.th.length) {c:qm} (hc:wK c) :
  bI (br (aj c.1 0) (g.ik md n c c0 c1 d0 d1 d2 d3 d4 d5 d6 d7 d8) (br (aj c.1 1) (g.fc md n c c0 c1 d0 d1 d2 d3 d4 d5 d6 d7 d8 N.jt) (br (aj c.1 2) (g.ij md n c c0 c1 d0 d1 d2 d3 d4 d5 d6 d7 d8) (br (aj c.1 3) (g.ig md n c c0 c1 d0 d1 d2 d3 d4 d5 d6 d7 d8) (br (aj c.1 4) (g.ic md n c c0 c1 d0 d1 d2 d3 d4 d5 d6 d7 d8 N.jt) (br (aj c.1 5) (g.ib md n c c0 c1 d0 d1 d2 d3 d4 d5 d6 d7 d8 N.jt) (br (aj c.1 6) (g.ia md n c c0 c1 d0 d1 d2 d3 d4 d5 d6 d7 d8 N.jt) (br (aj c.1 7) (g.fb md n c c0 c1 d0 d1 d2 d3 d4 d5 d6 d7 d8 N.jt) (br (aj c.1 8) (g.fa md n c c0 c1 d0 d1 d2 d3 d4 d5 d6 d7 d8 N.jt) (br (aj c.1 9) (g.e_ md n c c0 c1 d0 d1 d2 d3 d4 d5 d6 d7 d8 N.jt) (br (aj c.1 10) (g.eF md n c c0 c1 d0 d1 d2 d3 d4 d5 d6 d7 d8 N.jt) (br (aj c.1 11) (g.ev md n c c0 c1 d0 d1 d2 d3 d4 d5 d6 d7 d8 N.jt) (bd (g.aQ 1) (fun C9=>(some (((C9.1.1.1,(C9.1.1.2.1,C9.1.1.2.2)),(0,())),(d0,(d1,(d2,(d3,(d4,(d5,(d6,(d7,(d8,())))))))))))))))))))))))))
   c0 c1 md (if cC c=false then m.code 1 else m.act n c):=by
 obtain ⟨op,r,gg,v,a,b,t⟩:=c
 obtain ⟨E2,Lt,y9⟩:=hc
 dsimp only at E2 Lt y9
 unfold M.act
 dsimp only
 by_cases h0:op=0
 ·subst h0
  refine bI.of (ao rfl) ?_
  rw [show cC (0,r,gg,v,a,b,t)=true from rfl,if_neg (by simp),if_pos rfl]
  exact Ti h.rel n rfl
 refine bI.of (au h0) ?_
 rw [if_neg h0]
 by_cases h1:op=1
 ·subst h1
  refine bI.of (ao rfl) ?_
  rw [if_pos rfl]
  cases hf:cC (1,r,gg,v,a,b,t) with
  | false=>rw [if_pos rfl];exact Th h hf
  | true=>rw [if_neg (by simp)];exact Tg h hi hn hf E2
 refine bI.of (au h1) ?_
 rw [if_neg h1]
 by_cases h2:op=2
 ·subst h2
  refine bI.of (ao rfl) ?_
  rw [show cC (2,r,gg,v,a,b,t)=true from rfl,if_neg (by simp),if_pos rfl]
  exact Tf h hi n
 refine bI.of (au h2) ?_
 rw [if_neg h2]
 by_cases h3:op=3
 ·subst h3
  refine bI.of (ao rfl) ?_
  rw [show cC (3,r,gg,v,a,b,t)=true from rfl,if_neg (by simp),if_pos rfl]
  exact Te h hi n
 refine bI.of (au h3) ?_
 rw [if_neg h3]
 by_cases h4:op=4
 ·subst h4
  refine bI.of (ao rfl) ?_
  rw [show cC (4,r,gg,v,a,b,t)=true from rfl,if_neg (by simp),if_pos rfl]
  exact Td h hi hn
 refine bI.of (au h4) ?_
 rw [if_neg h4]
 by_cases h5:op=5
 ·subst h5
  refine bI.of (ao rfl) ?_
  rw [show cC (5,r,gg,v,a,b,t)=true from rfl,if_neg (by simp),if_pos rfl]
  exact Tc h hi DA hn
 refine bI.of (au h5) ?_
 rw [if_neg h5]
 by_cases h6:op=6
 ·subst h6
  refine bI.of (ao rfl) ?_
  rw [show cC (6,r,gg,v,a,b,t)=true from rfl,if_neg (by simp),if_pos rfl]
  exact S_ h hi hn
 refine bI.of (au h6) ?_
 rw [if_neg h6]
 by_cases h7:op=7
 ·subst h7
  refine bI.of (ao rfl) ?_
  rw [if_pos rfl]
  cases hf:cC (7,r,gg,v,a,b,t) with
  | false=>rw [if_pos rfl];exact S9 h hf
  | true=>rw [if_neg (by simp)];exact S8 h hi DA hn hf E2
 refine bI.of (au h7) ?_
 rw [if_neg h7]
 by_cases h8:op=8
 ·subst h8
  refine bI.of (ao rfl) ?_
  rw [if_pos rfl]
  cases hf:cC (8,r,gg,v,a,b,t) with
  | false=>rw [if_pos rfl];exact S7 h hf
  | true=>rw [if_neg (by simp)];exact S6 h hi hn hf E2 Lt
 refine bI.of (au h8) ?_
 rw [if_neg h8]
 by_cases h9:op=9
 ·subst h9
  refine bI.of (ao rfl) ?_
  rw [if_pos rfl]
  cases hf:cC (9,r,gg,v,a,b,t) with
  | false=>rw [if_pos rfl];exact S4 h hf
  | true=>rw [if_neg (by simp)];exact SZ h hi hn hf y9 Lt
 refine bI.of (au h9) ?_
 rw [if_neg h9]
 by_cases CA:op=10
 ·subst CA
  refine bI.of (ao rfl) ?_
  rw [if_pos rfl]
  cases hf:cC (10,r,gg,v,a,b,t) with
  | false=>rw [if_pos rfl];exact N3 h hf
  | true=>rw [if_neg (by simp)];exact N2 h hi hn hf E2
 refine bI.of (au CA) ?_
 rw [if_neg CA]
 by_cases E4:op=11
 ·subst E4
  refine bI.of (ao rfl) ?_
  rw [if_pos rfl]
  cases hf:cC (11,r,gg,v,a,b,t) with
  | false=>rw [if_pos rfl];exact N1 h hf
  | true=>rw [if_neg (by simp)];exact N0 h hi hn hf y9
 refine bI.of (au E4) ?_
 rw [if_neg E4]
 have:(if cC (op,r,gg,v,a,b,t)=false then m.code 1 else m.code 1)=m.code 1:=by split<;>rfl
 rw [this]
 exact bI.code h.rel 1
theorem aiu (h:tW c0 c1 d0 d1 d2 d3 d4 d5 d6 d7 d8 md m) {k:Nat} (hi:MI k m) (DA:CT m) (n:Int) {c:qm} (hc:wK c) :
  ∃As sL Ar zw zu qv qu uF tR,g.de md n c c0 c1 d0 d1 d2 d3 d4 d5 d6 d7 d8=some ((((m.step n c).2.1.1,((m.step n c).2.1.2.1,(m.step n c).2.1.2.2)),((m.step n c).2.2,())),(As,(sL,(Ar,(zw,(zu,(qv,(qu,(uF,(tR,()))))))))))
   ∧ tW c0 c1 As sL Ar zw zu qv qu uF tR md (m.step n c).1:=by
 obtain ⟨N,L,es,h⟩:=h
 have uC:=h.th
 have b4:=D2 h
 have dP:=hi.lt
 have hp:=hi.vI
 have wM:aK IntKind.i64 (zN (len (m.th.map fun t=>(t.cP,t.aF)))) 1=(m.th.length:Int)-1:=by
  rw [cz,bt,zH,aL (by omega)]
 unfold g.de M.step
 cases hw:within n 0 ((m.th.length:Int)-1) with
 | false=>
  rw [if_pos rfl]
  refine ⟨d0,d1,d2,d3,d4,d5,d6,d7,d8,?_,h.rel⟩
  rw [←wM] at hw
  repeat refine HS ?_
  rfl
 | true=>
  rw [if_neg (by simp)]
  have hn:=bG.1 hw
  have hn:0≤n∧n<m.th.length:=⟨hn.1,by omega⟩
  rw [←wM] at hw
  obtain ⟨As,sL,Ar,zw,zu,qv,qu,uF,tR,k1,k2⟩:=SQ h hi DA hn hc
  have e:(if cC c=false then (m,((1,0,[]):LF),(0:Int)) else ((m.act n c).1,(m.act n c).2,0))=((if cC c=false then m.code 1 else m.act n c).1,(if cC c=false then m.code 1 else m.act n c).2,0):=by
   split<;>rfl
  rw [e]
  refine ⟨As,sL,Ar,zw,zu,qv,qu,uF,tR,?_,k2⟩
  refine Eq.trans (rV b4) ?_
  refine nL uC ?_
  refine nL (bB _ _ _) ?_
  refine Eq.trans bD ?_
  refine Eq.trans (oA hw) ?_
  refine Eq.trans (rV b4) ?_
  refine nL uC ?_
  refine Eq.trans bY ?_
  refine Eq.trans (aY hn.1) ?_
  refine Eq.trans bX ?_
  refine Eq.trans (aX (by rw [cH,bt,zH];omega)) ?_
  exact k1
end
open Go.Bm Go.jG
def pZ (o:iw):Prop:=(o.1=0∧0≤o.2.1∧o.2.1≤99∧o.2.2=0)∨(o.1=1∧0≤o.2.1∧o.2.1≤5∧o.2.2=0)∨(o.1=2∧0≤o.2.1∧o.2.1≤5∧0≤o.2.2∧o.2.2≤5)∨(o.1=3∧0≤o.2.1∧o.2.1≤5∧0≤o.2.2∧o.2.2≤8)∨(o.1=4∧o.2.1=0∧o.2.2=0)
def lg (f:List (List iw)):Prop:=f.length≤8∧∀l∈f,l.length≤8∧∀o∈l,pZ o
theorem lg.ok {f:List (List iw)} (h:lg f):m8 f:=⟨h.1,fun l hl=>⟨(h.2 l hl).1,fun o ho=>by
 have:=(h.2 l hl).2 o ho
 unfold pZ at this;unfold Bi;omega⟩⟩
theorem BP {f:List (List iw)} {i:Nat} {l:List iw} (hl:nth [] f i=l) (h8:l.length≤8) (ho:∀o∈l,pZ o) (v1) :
  loop (g.lW f (((i:Int),()),((),((),((),())))) v1) ((0,()),((),((),((),()))))=v1 (((ae IntKind.i64 (i:Int) 1),()),((),((),((),())))):=by
 refine (dN (fun k=>((((k:Nat):Int),()),((),((),((),()))))) (fun _=>v1 (((ae IntKind.i64 (i:Int) 1),()),((),((),((),()))))) l.length (by unfold lD;omega) (fun K=>?_) (fun k hk=>.inr ⟨rfl,fun K=>?_⟩))
 ·unfold g.lW
  dsimp only
  rw [show nth [] f (nN (i:Int))=l from hl]
  repeat refine HS ?_
  rfl
 ·have hp:=ho l[k] (List.getElem_mem hk)
  have e:∀d,nth d l (nN (k:Int))=l[k]:=fun d=>gA hk
  unfold g.lW
  dsimp only
  rw [show nth [] f (nN (i:Int))=l from hl]
  rw [e]
  generalize l[k]=o at *
  have ei:ae IntKind.i64 (k:Int) 1=((k+1:Nat):Int):=by rw [aH (by omega)];omega
  have ew:kQ IntKind.i64 o.1=o.1:=bM (by unfold pZ at hp;omega)
  rw [ei,ew]
  obtain ⟨op,a,b⟩:=o
  unfold pZ at hp
  dsimp only at hp ⊢
  have wT:∀x lo hi:Int,lo≤x→x≤hi→within x lo hi=true:=fun x lo hi h1 h2=>bG.2 ⟨h1,h2⟩
  rcases hp with ⟨rfl,h1,h2,rfl⟩ | ⟨rfl,h1,h2,rfl⟩ | ⟨rfl,h1,h2,h3,h4⟩ | ⟨rfl,h1,h2,h3,h4⟩ | ⟨rfl,rfl,rfl⟩
  ·have w1:=wT a 0 99 (by omega) (by omega)
   have w2:=wT 0 0 0 (by omega) (by omega)
   repeat refine HS ?_
   rfl
  ·have w1:=wT a 0 5 (by omega) (by omega)
   have w2:=wT 0 0 0 (by omega) (by omega)
   repeat refine HS ?_
   rfl
  ·have w1:=wT a 0 5 (by omega) (by omega)
   have w2:=wT b 0 5 (by omega) (by omega)
   repeat refine HS ?_
   rfl
  ·have w1:=wT a 0 5 (by omega) (by omega)
   have w2:=wT b 0 8 (by omega) (by omega)
   repeat refine HS ?_
   rfl
  ·have w2:=wT 0 0 0 (by omega) (by omega)
   repeat refine HS ?_
   rfl
theorem BN {f:List (List iw)} (h:lg f):g.qe f=some ((true,()),()):=by
 have h8:=h.1
 unfold g.qe
 refine (dN (fun k=>((((k:Nat):Int),()),((),((),((),()))))) (fun _=>some ((true,()),())) f.length (by unfold lD;omega) (fun K=>?_) (fun k hk=>.inr ⟨rfl,fun K=>?_⟩))
 ·unfold g.ot
  dsimp only
  repeat refine HS ?_
  have:cX (zN (len f)) 8=true:=decide_eq_true (by rw [cz,bt];omega)
  rw [this]
 ·have hl:=h.2 f[k] (List.getElem_mem hk)
  unfold g.ot
  dsimp only
  repeat refine HS ?_
  refine Eq.trans (BP (gA hk) hl.1 hl.2 K) ?_
  have ei:ae IntKind.i64 (k:Int) 1=((k+1:Nat):Int):=by rw [aH (by omega)];omega
  rw [ei]
theorem zl {r2:T2} {r4:T4} {a n:Int} (ha:0≤a∧a≤65536∧a%8=0) (hn:0≤n∧n≤65536∧n%8=0) :
  ∃mD mC,g.ld a n r2 r4=some (((some r2.length),(0,())),(mD,(mC,())))∧oC mD mC r2.length a (a+n) (if 0<n then [(a,n)] else []):=by
 have w1:within a 0 65536=true:=bG.2 ⟨ha.1,ha.2.1⟩
 have w2:within n 0 65536=true:=bG.2 ⟨hn.1,hn.2.1⟩
 have hb:=(EC (a:=a) (b:=n) (by omega) (by omega)).2 ⟨ha.2.2,hn.2.2⟩
 have es:ae IntKind.i64 a n=a+n:=aH (by omega)
 by_cases h0:0<n
 ·rw [if_pos h0]
  refine ⟨?r2,?r4,?eq,?rel⟩
  case eq=>
   unfold g.ld
   repeat refine HS ?_
   rfl
  case rel=>
   rw [es]
   refine ⟨some r4.length,?_,.inr ⟨_,rfl,dn⟩⟩
   unfold aw
   rw [jR]
   exact jX (by show (r2++[_])[r2.length]?=_;simp;rfl)
 ·rw [if_neg h0]
  refine ⟨?s2,?s4,?eq2,?rel2⟩
  case eq2=>
   unfold g.ld
   repeat refine HS ?_
   rfl
  case rel2=>
   rw [es]
   exact ⟨none,by show (r2++[_])[r2.length]?=_;simp,.inl ⟨rfl,rfl⟩⟩
abbrev lI:eY:=((0,0,-1,0),(0,0))
abbrev rK:eY:=((0,0,0,0),(0,0))
theorem Il {n k:Nat} (hk:k<n):(List.replicate k lI++List.replicate (n-k) rK).set k lI=List.replicate (k+1) lI++List.replicate (n-(k+1)) rK:=by
 rw [List.set_append_right _ _ (by simp),List.length_replicate,Nat.sub_self]
 obtain ⟨m,hm⟩:∃m,n-k=m+1:=⟨n-k-1,by omega⟩
 rw [hm,List.replicate_succ,List.set_cons_zero,List.replicate_succ',show n-(k+1)=m by omega]
 simp
theorem uN {α:Type} {l:List α} {x y:α}:aT (cat l [x]) (len l) y=cat l [y]:=by
 show (l++[x]).set l.length y=l++[y]
 rw [List.set_append_right _ _ (Nat.le_refl _),Nat.sub_self];rfl
theorem yr {p:rA} (hp:dz p=true) (r1:T1) (r2:T2) (r3:T3) (r4:T4) :
  ∃r1' mD A7 mC,g.nU p r1 r2 r3 r4=some (((some r1.length),(0,())),(r1',(mD,(A7,(mC,()))))) ∧
   mH r1' mD A7 mC r1.length (p.1*64+p.2.2.1) (p.1*64+p.2.2.1+p.2.2.2) (((2,1,-1,0),(p.1*64,p.2.2.1))::List.replicate (p.1-1).toNat lI) (if 0<p.2.2.2 then [(p.1*64+p.2.2.1,p.2.2.2)] else []):=by
 have h:=cL.1 hp
 obtain ⟨mD,mC,g1,g2⟩:=zl (r2:=r2) (r4:=r4) (a:=p.1*64+p.2.2.1) (n:=p.2.2.2) (by omega) (by omega)
 obtain ⟨n,hn⟩:∃n:Nat,p.1=((n+1:Nat):Int):=⟨(p.1-1).toNat,by omega⟩
 have MZ:(p.1-1).toNat=n:=by omega
 have JN:nN p.1=n+1:=by rw [cH];omega
 have hI:=oG hp
 have hH:=A_ hp
 have hR:=nZ p
 rw [hp] at hR
 have eI:p=(p.1,(p.2.1,(p.2.2.1,p.2.2.2))):=rfl
 have MT:(nth (none,none) (cat r1 [((some (len r3)),(none:Option Nat))]) (len r1)).1=some (len r3):=by rw [jR]
 have uD:∀X:List eY,aE (cat r3 [some X]) (len r3)=some X:=fun X=>dn
 refine ⟨aw (none,none) (cat r1 [((some (len r3)),none)]) (len r1) (fun oN=>(oN.1,(some r2.length))),mD,cat r3 [some (((2,1,-1,0),(p.1*64,p.2.2.1))::List.replicate n lI)],mC,?_,?_⟩
 ·unfold g.nU
  refine nL hR ?_
  repeat refine HS ?_
  rw [JN]
  have hgd:((n+1:Nat):Int)≤((16777216:Nat):Int):=by omega
  have qF:rep (α:=eY) (n+1) ((0,(0,(0,0))),(0,0))=List.replicate 0 lI++List.replicate (n+1-0) rK:=rfl
  repeat refine HS ?_
  have tI:∀(v0:List eY),v0.length=n+1→loop (g.lq p r1 r2 r3 r4 v0) ((0,()),((),((),((),((cat r3 [(some (List.replicate 0 lI++List.replicate (n+1-0) rK))]),())))))=some (((some r1.length),(0,())),(aw (none,none) (cat r1 [((some (len r3)),none)]) (len r1) (fun oN=>(oN.1,(some r2.length))),(mD,(cat r3 [some (((2,1,-1,0),(p.1*64,p.2.2.1))::List.replicate n lI)],(mC,()))))):=by
   intro v0 y9
   refine (dN (fun k=>((((k:Nat):Int),()),((),((),((),((cat r3 [(some (List.replicate k lI++List.replicate (n+1-k) rK))]),())))))) (fun _=>_) (n+1) (by unfold lD;omega) (fun K=>?_) (fun k hk=>.inr ⟨rfl,fun K=>?_⟩))
   ·have Qa:=uD (List.replicate (n+1) lI++List.replicate (n+1-(n+1)) rK)
    have eX:List.replicate (n+1) lI++List.replicate (n+1-(n+1)) rK=lI::List.replicate n lI:=by
     rw [Nat.sub_self];simp [List.replicate_succ]
    rw [eX] at Qa ⊢
    have TH:(lI::List.replicate n lI).length=n+1:=by simp
    have akw:=uD (aw ((0,(0,(0,0))),(0,0)) (lI::List.replicate n lI) 0 (fun mB=>((2,(1,((-1),0))),mB.2)))
    have xh:(aw ((0,(0,(0,0))),(0,0)) (lI::List.replicate n lI) 0 (fun mB=>((2,(1,((-1),0))),mB.2))).length=n+1:=by
     show (List.set _ _ _).length=_;rw [zM];exact TH
    unfold g.lq
    dsimp only
    refine Eq.trans (a6 (by rw [cz,bt,y9];omega)) ?_
    repeat refine HS ?_
    rw [ym,uN]
    rfl
   ·have Qa:=uD (List.replicate k lI++List.replicate (n+1-k) rK)
    have TH:(List.replicate k lI++List.replicate (n+1-k) rK).length=n+1:=by simp;omega
    have ei:ae IntKind.i64 (k:Int) 1=((k+1:Nat):Int):=by rw [aH (by omega)];omega
    have eN:nth ((0,(0,(0,0))),(0,0)) (List.replicate k lI++List.replicate (n+1-k) rK) (nN (k:Int))=rK:=by
     refine bj ?_
     show (List.replicate k lI++List.replicate (n+1-k) rK)[k]?=_
     rw [zJ (by simp),List.length_replicate,Nat.sub_self,List.getElem?_replicate,if_pos (by omega)]
    have eU:aw ((0,(0,(0,0))),(0,0)) (List.replicate k lI++List.replicate (n+1-k) rK) (nN (k:Int)) (fun r3=>((r3.1.1,(r3.1.2.1,((-1),r3.1.2.2.2))),r3.2))=List.replicate (k+1) lI++List.replicate (n+1-(k+1)) rK:=by
     unfold aw
     rw [eN]
     exact Il hk
    unfold g.lq
    dsimp only
    refine Eq.trans (aX (by rw [cz,bt,y9];omega)) ?_
    repeat refine HS ?_
    rw [ei,eU,uN]
  rw [qF]
  refine nL (uD _) ?_
  exact tI _ (by simp)
 ·rw [MZ]
  refine ⟨len r3,r2.length,?_,uD _,g2⟩
  unfold aw
  rw [jR]
  exact jX (by show (r1++[_])[r1.length]?=_;simp;rfl)
theorem vb {l:List iw} (hl:l.length≤1000):g.kB l=some ((l,()),()):=by
 unfold g.kB
 repeat refine HS ?_
 rfl
theorem HV {α:Type} {f:List α} {z:α} {k:Nat} (hk:k<f.length):(f.take k++List.replicate (f.length-k) z).set k f[k]=f.take (k+1)++List.replicate (f.length-(k+1)) z:=by
 have hl:(f.take k).length=k:=by rw [List.length_take];omega
 rw [List.set_append_right _ _ (by omega),hl,Nat.sub_self]
 obtain ⟨m,hm⟩:∃m,f.length-k=m+1:=⟨f.length-k-1,by omega⟩
 rw [hm,List.replicate_succ,List.set_cons_zero,List.take_add_one,zD hk,show f.length-(k+1)=m by omega]
 rw [List.append_assoc];rfl
theorem Bo {p:rA} (hp:dz p=true) {f:List (List iw)} (hf:lg f) (c0:T8) (c1:T9) (c2:dQ) (d0:T0) (d1:T1) (d2:T2) (d3:T3) (d4:T4) (d5:T5) (d6:T6) (d7:T7) :
  ∃As sL Ar zw zu qv qu uF,g.l8 p f c0 c1 c2 d0 d1 d2 d3 d4 d5 d6 d7=some (((some d0.length),(0,())),(As,(sL,(Ar,(zw,(zu,(qv,(qu,(uF,())))))))))
   ∧ tW As sL Ar zw zu qv qu uF c0 c1 c2 d0.length (M.new p f):=by
 have h:=cL.1 hp
 have h8:=hf.1
 have hR:=nZ p
 rw [hp] at hR
 have hF:=BN hf
 obtain ⟨r1,r2,r3,r4,k1,k2⟩:=yr hp d1 d2 d3 d4
 refine ⟨cat d0 [(p,(f,((some d1.length),((some (len d5)),((some (len d6)),(some (len d7)))))))],r1,r2,r3,r4,cat d5 [(some (rep (α:=(Int×(Int×(Option Nat)))) (nN p.1) (0,(0,none))))],cat d6 [(some (rep (α:=((List Int)×(List (Int×Bool)))) (nN p.2.1) ([0,0,0,0],[])))],cat d7 [[]],?_,?_⟩
 ·unfold g.l8
  repeat refine HS ?_
  have qF:rep (α:=List iw) (nN (zN (len f))) []=f.take 0++List.replicate (f.length-0) []:=rfl
  rw [qF]
  refine (dN (fun k=>((((k:Nat):Int),()),(((f.take k++List.replicate (f.length-k) []),()),((),((),()))))) (fun _=>_) f.length (by unfold lD;omega) (fun K=>?_) (fun k hk=>.inr ⟨rfl,fun K=>?_⟩))
  ·unfold g.n9
   dsimp only
   rw [List.take_length,Nat.sub_self]
   repeat refine HS ?_
   simp only [List.replicate_zero,List.append_nil]
   rfl
  ·have hl:=hf.2 f[k] (List.getElem_mem hk)
   have e:nth [] f (nN (k:Int))=f[k]:=gA hk
   have hc:=vb (l:=f[k]) (by omega)
   have hlen:(f.take k++List.replicate (f.length-k) ([]:List iw)).length=f.length:=by simp;omega
   have ei:ae IntKind.i64 (k:Int) 1=((k+1:Nat):Int):=by rw [aH (by omega)];omega
   unfold g.n9
   dsimp only
   rw [e]
   repeat refine HS ?_
   rw [ei]
   have eu:aT (f.take k++List.replicate (f.length-k) ([]:List iw)) (nN (k:Int)) f[k]=f.take (k+1)++List.replicate (f.length-(k+1)) []:=HV hk
   rw [eu]
 ·have hn:nN p.1=p.1.toNat:=rfl
  have hAt:∀i q x,¬At (List.replicate p.1.toNat (⟨0,0,none,[]⟩:NA)) i q x:=by
   rintro i q x ⟨a,h1,h2⟩
   have:=List.eq_of_mem_replicate (zG h1)
   subst this;cases h2
  refine ⟨⟨d1.length,len d5,len d6,len d7⟩,List.replicate p.1.toNat ⟨0,0,none,[]⟩,[],?_,k2,?_,?_,?_,?_,?_,?_,?_,?_,?_,List.nodup_nil,?_⟩
  ·show (d0++[_])[d0.length]?=_
   rw [zJ (Nat.le_refl _),Nat.sub_self];rfl
  ·refine Eq.trans dn ?_
   show _=some ((List.replicate p.2.1.toNat _).map _)
   rw [List.map_replicate];rfl
  ·refine Eq.trans dn ?_
   rw [List.map_replicate];rfl
  ·show List.replicate p.1.toNat uI=_
   rw [List.map_replicate];rfl
  ·intro a ha
   have:=List.eq_of_mem_replicate ha
   subst this;exact .inl ⟨rfl,rfl⟩
  ·intro i q x hx;exact absurd hx (hAt i q x)
  ·intro i j q q' x y hx;exact absurd hx (hAt i q x)
  ·intro i j q q' x y hx;exact absurd hx (hAt i q x)
  ·intro i j a b r ha hb h1
   have:=List.eq_of_mem_replicate (zG ha)
   subst this;cases h1
  ·show (d7++[_])[d7.length]?=_
   simp
  ·intro r v
   constructor
   ·intro hv;cases hv
   ·rintro ⟨i,q,x,hx,_⟩;exact absurd hx (hAt i q x)
open Go.Bm Go.jG
def pP {β:Type} (x:Option ((Bool×Unit)×β)):Prop:=∃d,x=some ((true,()),d)
theorem pP.of {β:Type} {x y:Option ((Bool×Unit)×β)} (e:x=y) (h:pP y):pP x:=by rw [e];exact h
theorem YS {β:Type} {x y:Option ((Bool×Unit)×β)} (k:pP y) (h:x=y:=by (first | with_reducible exact (cJ _ _) | with_reducible exact a8 | with_reducible exact ba | with_reducible exact bh | with_reducible exact (rV (by assumption)) | with_reducible exact (tZ (by assumption)) | with_reducible exact (oA (by assumption)) | with_reducible exact (uH (by assumption)) | with_reducible exact a7 | with_reducible exact aO | with_reducible exact bY | with_reducible exact bX | with_reducible exact b6 | with_reducible exact b7 | with_reducible exact b9 | with_reducible exact b8 | with_reducible exact bD | with_reducible exact z8 | (with_reducible apply Cg;with_reducible (first | exact bB _ _ _ | assumption | exact aB (by assumption) | exact aB (aB (by assumption)) | exact aB (aB (aB (by assumption))) | exact aB (aB (aB (aB (by assumption)))) | exact aB (aB (aB (aB (aB (by assumption))))))) | (with_reducible refine aX ?qh;case qh=>first | omega | (simp (disch:=omega) only [aH,aL,aZ,bM,bS,aS,a9,cz,bt,cK,cH,aU,aG,zE,List.length_nil,zO,zR,zH,fF,fK,dL,lA,db,zM]<;>omega)) | (with_reducible refine a6 ?qh;case qh=>first | omega | (simp (disch:=omega) only [aH,aL,aZ,bM,bS,aS,a9,cz,bt,cK,cH,aU,aG,zE,List.length_nil,zO,zR,zH,fF,fK,dL,lA,db,zM]<;>omega)) | (with_reducible refine aY ?qh;case qh=>first | omega | (simp (disch:=omega) only [aH,aL,aZ,bM,bS,aS,a9,cz,bt,cK,cH,aU,aG,zE,List.length_nil,zO,zR,zH,fF,fK,dL,lA,db,zM]<;>omega)) | (with_reducible refine a_ ?qh;case qh=>first | omega | (simp (disch:=omega) only [aH,aL,aZ,bM,bS,aS,a9,cz,bt,cK,cH,aU,aG,zE,List.length_nil,zO,zR,zH,fF,fK,dL,lA,db,zM]<;>omega)) | (with_reducible refine ao ?qh;case qh=>first | omega | (simp (disch:=omega) only [aH,aL,aZ,bM,bS,aS,a9,cz,bt,cK,cH,aU,aG,zE,List.length_nil,zO,zR,zH,fF,fK,dL,lA,db,zM]<;>omega)) | (with_reducible refine au ?qh;case qh=>first | omega | (simp (disch:=omega) only [aH,aL,aZ,bM,bS,aS,a9,cz,bt,cK,cH,aU,aG,zE,List.length_nil,zO,zR,zH,fF,fK,dL,lA,db,zM]<;>omega)))):pP x:=by rw [h];exact k
theorem uo {α β:Type} {x:Option α} {f:α→Option ((Bool×Unit)×β)} {a:α} (h:x=some a) (k:pP (f a)):pP (bd x f):=by rw [h];exact k
theorem pP.mk {β:Type} {d:β}:pP (some ((true,()),d)):=⟨d,rfl⟩
theorem pP.mk' {β:Type} {b:Bool} {d:β} (h:b=true):pP (some ((b,()),d)):=by subst h;exact ⟨d,rfl⟩
structure St (c0:T0) (c1:T1) (d0:T2) (d1:T3) (d2:T4) (d3:T5) (d4:T6) (d5:T7) (d6:T8) (d7:T9) (d8:dQ) (md:Nat) (k:Nat) (m:M):Prop where
 rel:tW c0 c1 d0 d1 d2 d3 d4 d5 d6 d7 d8 md m
 mi:MI k m
 ct:CT m
section
variable {c0:T0} {c1:T1} {d0:T2} {d1:T3} {d2:T4} {d3:T5} {d4:T6} {d5:T7} {d6:T8} {d7:T9} {d8:dQ} {md:Nat} {m:M} {k:Nat}
theorem St.step (h:St c0 c1 d0 d1 d2 d3 d4 d5 d6 d7 d8 md k m) (hk:k<9000) (n:Int) {c:qm} (hc:wK c) :
  ∃As sL Ar zw zu qv qu uF tR,g.de md n c c0 c1 d0 d1 d2 d3 d4 d5 d6 d7 d8=some ((((m.step n c).2.1.1,((m.step n c).2.1.2.1,(m.step n c).2.1.2.2)),((m.step n c).2.2,())),(As,(sL,(Ar,(zw,(zu,(qv,(qu,(uF,(tR,()))))))))))
   ∧ St c0 c1 As sL Ar zw zu qv qu uF tR md (k+1) (m.step n c).1:=by
 obtain ⟨e0,e1,e2,e3,e4,e5,e6,e7,e8,k1,k2⟩:=aiu h.rel h.mi h.ct n hc
 exact ⟨e0,e1,e2,e3,e4,e5,e6,e7,e8,k1,k2,h.mi.step hk h.ct n c,h.ct.step h.mi n c⟩
theorem St.yes {β:Type} (h:St c0 c1 d0 d1 d2 d3 d4 d5 d6 d7 d8 md k m) (hk:k<9000) (n:Int) {c:qm} (hc:wK c) {f:FG→Option ((Bool×Unit)×β)}
  (K:∀As sL Ar zw zu qv qu uF tR,St c0 c1 As sL Ar zw zu qv qu uF tR md (k+1) (m.step n c).1→pP (f ((((m.step n c).2.1.1,((m.step n c).2.1.2.1,(m.step n c).2.1.2.2)),((m.step n c).2.2,())),(As,(sL,(Ar,(zw,(zu,(qv,(qu,(uF,(tR,())))))))))))) :
  pP (bd (g.de md n c c0 c1 d0 d1 d2 d3 d4 d5 d6 d7 d8) f):=by
 obtain ⟨e0,e1,e2,e3,e4,e5,e6,e7,e8,k1,k2⟩:=h.step hk n hc
 exact uo k1 (K _ _ _ _ _ _ _ _ _ k2)
end
theorem St.new {p:rA} (hp:dz p=true) {f:List (List iw)} (hf:lg f) (c0:T8) (c1:T9) (c2:dQ) (d0:T0) (d1:T1) (d2:T2) (d3:T3) (d4:T4) (d5:T5) (d6:T6) (d7:T7) :
  ∃As sL Ar zw zu qv qu uF,g.l8 p f c0 c1 c2 d0 d1 d2 d3 d4 d5 d6 d7=some (((some d0.length),(0,())),(As,(sL,(Ar,(zw,(zu,(qv,(qu,(uF,())))))))))
   ∧ St As sL Ar zw zu qv qu uF c0 c1 c2 d0.length 0 (M.new p f):=by
 obtain ⟨e0,e1,e2,e3,e4,e5,e6,e7,k1,k2⟩:=Bo hp hf c0 c1 c2 d0 d1 d2 d3 d4 d5 d6 d7
 obtain ⟨i1,i2⟩:=MI.new hp hf.ok
 exact ⟨e0,e1,e2,e3,e4,e5,e6,e7,k1,k2,i1,i2⟩
abbrev PS:rA:=(4,(2,(128,512)))
theorem Gw:lg []:=⟨by simp,fun l hl=>by cases hl⟩
theorem FN (d0:T0) (d1:T1) (d2:T2) (d3:T3) (d4:T4) (d5:T5) (d6:T6) (d7:T7) (d8:T8) (d9:T9) (d10:dQ):pP (g.iF d0 d1 d2 d3 d4 d5 d6 d7 d8 d9 d10):=by
 have hp:dz PS=true:=by decide
 obtain ⟨e0,e1,e2,e3,e4,e5,e6,e7,k1,h⟩:=St.new hp Gw d8 d9 d10 d0 d1 d2 d3 d4 d5 d6 d7
 unfold g.iF
 refine uo (rfl:g.kD=some ((PS,()),())) ?_
 refine uo k1 ?_
 repeat refine YS ?_
 dsimp only
 refine h.yes (by omega) 0 ⟨by decide,by decide,by decide⟩ fun _ _ _ _ _ _ _ _ _ h=>?_
 dsimp only
 refine h.yes (by omega) 0 ⟨by decide,by decide,by decide⟩ fun _ _ _ _ _ _ _ _ _ h=>?_
 dsimp only
 refine h.yes (by omega) 0 ⟨by decide,by decide,by decide⟩ fun _ _ _ _ _ _ _ _ _ h=>?_
 dsimp only
 refine h.yes (by omega) 0 ⟨by decide,by decide,by decide⟩ fun _ _ _ _ _ _ _ _ _ h=>?_
 dsimp only
 refine h.yes (by omega) 0 ⟨by decide,by decide,by decide⟩ fun _ _ _ _ _ _ _ _ _ h=>?_
 dsimp only
 refine pP.of (ao (by decide +kernel)) ?_
 refine pP.of (ao (by decide +kernel)) ?_
 refine pP.of (ao (by decide +kernel)) ?_
 refine pP.of (aX (by decide +kernel)) ?_
 refine pP.of (ao (by decide +kernel)) ?_
 exact pP.mk' (decide_eq_true (by decide +kernel))
end Go.Proofs.YtihiooaimdoapaaGreat
namespace Go.jG
open Go.Bm
end Go.jG