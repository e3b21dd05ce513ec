/- Texts of one proof, put together: see each part. -/
import Derived.Test.YtihiooaimdoapaaGreatUD
noncomputable section
set_option linter.unusedVariables false
set_option linter.unusedSimpArgs false
namespace Go.jJ
open Go.Bm
def cq (o:h_) (sl:List Int):Nat×List Int×List Int×Bool:=
 if o.1=0 then (0,sl,[o.2.1],false)
 else if o.1=1 then (0,sl.set o.2.1.toNat 0,[],false)
 else if o.1=2 then (0,if o.2.1.toNat<sl.length∧o.2.2.toNat<sl.length then sl.set o.2.1.toNat (sl.getD o.2.2.toNat 0) else sl,[],false)
 else if o.1=3 then (if o.2.1.toNat<sl.length∧sl.getD o.2.1.toNat 0=0 then o.2.2.toNat else 0,sl,[],false)
 else (0,sl,[],decide (o.1=4))
def ke (ops:List h_):Nat→Nat→List Int→List Int→Bool→Int→List Int×List Int×Bool×Int
 | 0,_,sl,sd,h,n=>(sl,sd,h,n)
 | f+1,ck,sl,sd,h,n=>if ck<ops.length then
   ke ops f (ck+1+(cq (ops.getD ck (0,0,0)) sl).1) (cq (ops.getD ck (0,0,0)) sl).2.1 (sd++(cq (ops.getD ck (0,0,0)) sl).2.2.1) (h || (cq (ops.getD ck (0,0,0)) sl).2.2.2) (n+1)
  else (sl,sd,h,n)
def fZ (ops:List h_) (sl:List Int):List Int×List Int×Bool×Int:=ke ops ops.length 0 sl [] false 0
def BF (o:h_):Prop:=(0≤o.1∧o.1≤4)∧(0≤o.2.1∧o.2.1≤99)∧(0≤o.2.2∧o.2.2≤8)
def xY (l:List h_):Prop:=l.length≤8∧∀o∈l,BF o
def m9 (l:List (List h_)):Prop:=l.length≤8∧∀x∈l,xY x
theorem qo {ops:List h_} {f a:Nat} (h:¬a<ops.length) (sl sd:List Int) (hd:Bool) (n:Int):ke ops f a sl sd hd n=(sl,sd,hd,n):=by
 cases f with
 | zero=>rfl
 | succ f=>unfold ke;rw [if_neg h]
theorem oB {ops:List h_} {f a:Nat} (h:a<ops.length) (sl sd:List Int) (hd:Bool) (n:Int):ke ops (f+1) a sl sd hd n =
  ke ops f (a+1+(cq (ops.getD a (0,0,0)) sl).1) (cq (ops.getD a (0,0,0)) sl).2.1 (sd++(cq (ops.getD a (0,0,0)) sl).2.2.1) (hd || (cq (ops.getD a (0,0,0)) sl).2.2.2) (n+1):=by
 rw [ke,if_pos h]
theorem pM (o:h_) (sl:List Int):(cq o sl).2.1.length=sl.length:=by
 unfold cq
 repeat' split
 all_goals simp
theorem sS {o:h_} (h:BF o) (sl:List Int):(cq o sl).1≤8:=by
 obtain ⟨_,_,h⟩:=h
 unfold cq
 repeat' split
 all_goals simp only
 all_goals omega
theorem oA (o:h_) (sl:List Int):(cq o sl).2.2.1.length≤1:=by
 unfold cq
 repeat' split
 all_goals simp
theorem yu {ops:List h_}:∀(f a:Nat) (sl sd:List Int) (hd:Bool) (n:Int),(ke ops f a sl sd hd n).1.length=sl.length
 | 0,a,sl,sd,hd,n=>rfl
 | f+1,a,sl,sd,hd,n=>by
  unfold ke
  split
  ·rw [yu,pM]
  ·rfl
theorem Ek (ops:List h_) (sl:List Int):(fZ ops sl).1.length=sl.length:=yu _ _ _ _ _ _
theorem wv {ops:List h_}:∀(f a:Nat) (sl sd:List Int) (hd:Bool) (n:Int),(ke ops f a sl sd hd n).2.1.length≤sd.length+f
 | 0,a,sl,sd,hd,n=>Nat.le_refl _
 | f+1,a,sl,sd,hd,n=>by
  unfold ke
  split
  ·refine Nat.le_trans (wv _ _ _ _ _ _) ?_
   have:=oA (ops.getD a (0,0,0)) sl
   rw [zY];omega
  ·simp
theorem mU (ops:List h_) (sl:List Int):(fZ ops sl).2.1.length≤ops.length:=by
 have:=wv (ops:=ops) ops.length 0 sl [] false 0
 simpa [fZ] using this
end Go.jJ
namespace Go.Proofs.YtihiooaimdoapaaGreat
open Go.Bm Go.jJ
theorem KH (a0:List h_) (v0:((Bool×(Int×(Int×Unit)))×(((List Int)×((List Int)×Unit))×(Unit×(Unit×Unit))))) (v1) (hl:v0.2.1.1.length≤100) (o:h_) (ho:nth (0,(0,0)) a0 (nN v0.1.2.2.1)=o) (hA:BF o) :
  loop (g.rz a0 v0 v1) ((0,()),((),((),((),()))))=v1 ((decide (o.2.1.toNat<v0.2.1.1.length),()),((),((),((),())))):=by
 obtain ⟨_,hA,_⟩:=hA
 rw [x9]
 unfold g.rz
 simp only [ho]
 have e:cat [] v0.2.1.1=v0.2.1.1:=rfl
 simp only [e]
 by_cases h:o.2.1.toNat<v0.2.1.1.length
 ·have hw:within o.2.1 0 ((v0.2.1.1.length:Int)-1)=true:=bF.2 (by omega)
  simp (disch:=omega) only [↓bZ,↓bY,↓b7,↓b8,↓b_,↓b9,zE,aZ,a7,a4,ba,ak,ao,bJ,a8,aO,a9,bc,bh,↓cP,aG,aN,a5,bP,bU,aT,a_,cF,bB,cQ,cM,aY,aF,bD,zO,nth,List.getD_cons_zero,hw]
  simp (disch:=omega) only [↓bZ,↓bY,↓b7,↓b8,↓b_,↓b9,zE,aZ,a7,a4,ba,ak,ao,bJ,a8,aO,a9,bc,bh,↓cP,aG,aN,a5,bP,bU,aT,a_,cF,bB,cQ,cM,aY,aF,bD,zO,nth,List.getD_cons_zero,hw,Int.toNat_zero]
  simp [h]
 ·have hw:within o.2.1 0 ((v0.2.1.1.length:Int)-1)=false:=kz.2 (by omega)
  simp (disch:=omega) only [↓bZ,↓bY,↓b7,↓b8,↓b_,↓b9,zE,aZ,a7,a4,ba,ak,ao,bJ,a8,aO,a9,bc,bh,↓cP,aG,aN,a5,bP,bU,aT,a_,cF,bB,cQ,cM,aY,aF,bD,zO,nth,List.getD_cons_zero,hw]
  simp (disch:=omega) only [↓bZ,↓bY,↓b7,↓b8,↓b_,↓b9,zE,aZ,a7,a4,ba,ak,ao,bJ,a8,aO,a9,bc,bh,↓cP,aG,aN,a5,bP,bU,aT,a_,cF,bB,cQ,cM,aY,aF,bD,zO,nth,List.getD_cons_zero,hw,Int.toNat_zero]
  simp [h,aH,cZ]
theorem KI (a0:List h_) (v0:((Bool×(Int×(Int×Unit)))×(((List Int)×((List Int)×Unit))×(Unit×(Unit×Unit))))) (v1) (hl:v0.2.1.1.length≤100) (o:h_) (ho:nth (0,(0,0)) a0 (nN v0.1.2.2.1)=o) (hA:BF o) :
  loop (g.rA a0 v0 v1) ((0,()),((),((),((),()))))=v1 ((decide (o.2.1.toNat<v0.2.1.1.length∧o.2.2.toNat<v0.2.1.1.length),()),((),((),((),())))):=by
 obtain ⟨_,hA,hB⟩:=hA
 rw [x9]
 unfold g.rA
 simp only [ho]
 have e:cat [] v0.2.1.1=v0.2.1.1:=rfl
 simp only [e]
 have hlen:[o.2.1,o.2.2].length=2:=rfl
 by_cases h:o.2.1.toNat<v0.2.1.1.length
 ·have hw:within o.2.1 0 ((v0.2.1.1.length:Int)-1)=true:=bF.2 (by omega)
  by_cases h2:o.2.2.toNat<v0.2.1.1.length
  ·have hw2:within o.2.2 0 ((v0.2.1.1.length:Int)-1)=true:=bF.2 (by omega)
   simp (disch:=omega) only [↓bZ,↓bY,↓b7,↓b8,↓b_,↓b9,zE,aZ,a7,a4,ba,ak,ao,bJ,a8,aO,a9,bc,bh,↓cP,aG,aN,a5,bP,bU,aT,a_,cF,bB,cQ,cM,aY,aF,bD,hlen,nth,List.getD_cons_zero,hw]
   simp (disch:=omega) only [↓bZ,↓bY,↓b7,↓b8,↓b_,↓b9,zE,aZ,a7,a4,ba,ak,ao,bJ,a8,aO,a9,bc,bh,↓cP,aG,aN,a5,bP,bU,aT,a_,cF,bB,cQ,cM,aY,aF,bD,hlen,nth,List.getD_cons_zero,hw,Int.toNat_zero]
   simp (disch:=omega) only [↓bZ,↓bY,↓b7,↓b8,↓b_,↓b9,zE,aZ,a7,a4,ba,ak,ao,bJ,a8,aO,a9,bc,bh,↓cP,aG,aN,a5,bP,bU,aT,a_,cF,bB,cQ,cM,aY,aF,bD,hlen,nth,List.getD_cons_zero,hw,Int.toNat_zero,Int.zero_add,Int.toNat_one,List.getD_cons_succ,hw2]
   simp [h,h2]
  ·have hw2:within o.2.2 0 ((v0.2.1.1.length:Int)-1)=false:=kz.2 (by omega)
   simp (disch:=omega) only [↓bZ,↓bY,↓b7,↓b8,↓b_,↓b9,zE,aZ,a7,a4,ba,ak,ao,bJ,a8,aO,a9,bc,bh,↓cP,aG,aN,a5,bP,bU,aT,a_,cF,bB,cQ,cM,aY,aF,bD,hlen,nth,List.getD_cons_zero,hw]
   simp (disch:=omega) only [↓bZ,↓bY,↓b7,↓b8,↓b_,↓b9,zE,aZ,a7,a4,ba,ak,ao,bJ,a8,aO,a9,bc,bh,↓cP,aG,aN,a5,bP,bU,aT,a_,cF,bB,cQ,cM,aY,aF,bD,hlen,nth,List.getD_cons_zero,hw,Int.toNat_zero]
   simp (disch:=omega) only [↓bZ,↓bY,↓b7,↓b8,↓b_,↓b9,zE,aZ,a7,a4,ba,ak,ao,bJ,a8,aO,a9,bc,bh,↓cP,aG,aN,a5,bP,bU,aT,a_,cF,bB,cQ,cM,aY,aF,bD,hlen,nth,List.getD_cons_zero,hw,Int.toNat_zero,Int.zero_add,Int.toNat_one,List.getD_cons_succ,hw2]
   simp [h,h2,aH,cZ]
 ·have hw:within o.2.1 0 ((v0.2.1.1.length:Int)-1)=false:=kz.2 (by omega)
  simp (disch:=omega) only [↓bZ,↓bY,↓b7,↓b8,↓b_,↓b9,zE,aZ,a7,a4,ba,ak,ao,bJ,a8,aO,a9,bc,bh,↓cP,aG,aN,a5,bP,bU,aT,a_,cF,bB,cQ,cM,aY,aF,bD,hlen,nth,List.getD_cons_zero,hw]
  simp (disch:=omega) only [↓bZ,↓bY,↓b7,↓b8,↓b_,↓b9,zE,aZ,a7,a4,ba,ak,ao,bJ,a8,aO,a9,bc,bh,↓cP,aG,aN,a5,bP,bU,aT,a_,cF,bB,cQ,cM,aY,aF,bD,hlen,nth,List.getD_cons_zero,hw,Int.toNat_zero]
  simp [h,aH,cZ]
theorem KJ (a0:List h_) (v0:((Bool×(Int×(Int×Unit)))×(((List Int)×((List Int)×Unit))×(Unit×(Unit×Unit))))) (v1) (hl:v0.2.1.1.length≤100) (o:h_) (ho:nth (0,(0,0)) a0 (nN v0.1.2.2.1)=o) (hA:BF o) :
  loop (g.rB a0 v0 v1) ((0,()),((),((),((),()))))=v1 ((decide (o.2.1.toNat<v0.2.1.1.length∧v0.2.1.1.getD o.2.1.toNat 0=0),()),((),((),((),())))):=by
 obtain ⟨_,hA,_⟩:=hA
 rw [x9]
 unfold g.rB
 simp only [ho]
 have e:cat [] v0.2.1.1=v0.2.1.1:=rfl
 simp only [e]
 by_cases h:o.2.1.toNat<v0.2.1.1.length
 ·have hw:within o.2.1 0 ((v0.2.1.1.length:Int)-1)=true:=bF.2 (by omega)
  simp (disch:=omega) only [↓bZ,↓bY,↓b7,↓b8,↓b_,↓b9,zE,aZ,a7,a4,ba,ak,ao,bJ,a8,aO,a9,bc,bh,↓cP,aG,aN,a5,bP,bU,aT,a_,cF,bB,cQ,cM,aY,aF,bD,zO,nth,List.getD_cons_zero,hw]
  simp (disch:=omega) only [↓bZ,↓bY,↓b7,↓b8,↓b_,↓b9,zE,aZ,a7,a4,ba,ak,ao,bJ,a8,aO,a9,bc,bh,↓cP,aG,aN,a5,bP,bU,aT,a_,cF,bB,cQ,cM,aY,aF,bD,zO,nth,List.getD_cons_zero,hw,Int.toNat_zero]
  simp [h,aj]
 ·have hw:within o.2.1 0 ((v0.2.1.1.length:Int)-1)=false:=kz.2 (by omega)
  simp (disch:=omega) only [↓bZ,↓bY,↓b7,↓b8,↓b_,↓b9,zE,aZ,a7,a4,ba,ak,ao,bJ,a8,aO,a9,bc,bh,↓cP,aG,aN,a5,bP,bU,aT,a_,cF,bB,cQ,cM,aY,aF,bD,zO,nth,List.getD_cons_zero,hw]
  simp (disch:=omega) only [↓bZ,↓bY,↓b7,↓b8,↓b_,↓b9,zE,aZ,a7,a4,ba,ak,ao,bJ,a8,aO,a9,bc,bh,↓cP,aG,aN,a5,bP,bU,aT,a_,cF,bB,cQ,cM,aY,aF,bD,zO,nth,List.getD_cons_zero,hw,Int.toNat_zero,aH,cZ,decide_true,Bool.not_true,aO]
  simp [h]
theorem Ej {ops:List h_} (kV:xY ops) (d0:dT):∀(m a:Nat) (sl sd:List Int) (hd:Bool) (n:Int),ops.length≤a+m→sl.length≤100→sd.length+m≤100→(0≤n∧n+m≤1000)→(a≤100) →
  xF (g.lx ops d0) ((hd,(n,((a:Int),()))),((sl,(sd,())),((),((),()))))
   (some (((some (len d0)),((ke ops m a sl sd hd n).2.1,((ke ops m a sl sd hd n).2.2.1,((ke ops m a sl sd hd n).2.2.2,())))),((cat d0 [(some (ke ops m a sl sd hd n).1)]),()))) m:=by
 obtain ⟨hlen,tj⟩:=kV
 intro m
 induction m with
 | zero=>
  intro a sl sd hd n h1 h2 h3 h4 h5
  refine .stop 0 (fun K=>?_)
  unfold g.lx
  simp (disch:=omega) only [↓bZ,↓bY,↓b7,↓b8,↓b_,↓b9,zE,aZ,a7,a4,ba,ak,ao,bJ,a8,aO,a9,bc,bh,↓cP,aG,aN,a5,bP,bU,aT,a_,cF,bB,cQ,cM,aY,aF]
  rfl
 | succ m ih=>
  intro a sl sd hd n h1 h2 h3 h4 h5
  by_cases ha:a<ops.length
  ·have ho:BF (ops.getD a (0,0,0)):=by
    rw [zA,zD ha]
    exact tj _ (List.getElem_mem ha)
   rw [oB ha]
   generalize hoo:ops.getD a (0,0,0)=o at ho
   have hn:nth (0,(0,0)) ops a=o:=by rw [←hoo];rfl
   have No:=pM o sl
   have hs2:=oA o sl
   refine .step (s':=((hd || (cq o sl).2.2.2,(n+1,(((a+1+(cq o sl).1:Nat):Int),()))),(((cq o sl).2.1,((sd++(cq o sl).2.2.1),())),((),((),()))))) ?_ (fun K=>?_)
   ·have hs3:=sS ho sl
    exact ih _ _ _ _ _ (by omega) (by omega) (by rw [zY];omega) (by omega) (by omega)
   ·have Kb:=ho
    obtain ⟨k1,k2,k3⟩:=ho
    unfold g.lx
    have hw:within (a:Int) 0 ((ops.length:Int)-1)=true:=bF.2 (by omega)
    have e:cat [] sl=sl:=rfl
    simp (disch:=omega) only [↓bZ,↓bY,↓b7,↓b8,↓b_,↓b9,zE,aZ,a7,a4,ba,ak,ao,bJ,a8,aO,a9,bc,bh,↓cP,aG,aN,a5,bP,bU,aT,a_,cF,bB,cQ,cM,aY,aF,bD,hw,e,hn]
    have Hj:nth (0,(0,0)) ops (nN (a:Int))=o:=hn
    have z0:((sd.length+([]:List Int).length:Nat):Int)≤((16777216:Nat):Int):=by simp;omega
    have ZE:o.1=0∨o.1=1∨o.1=2∨o.1=3∨o.1=4:=by omega
    have c0:cat sd []=sd:=List.append_nil _
    have q0:(a:Int)+1+0=((a+1+0:Nat):Int):=by omega
    rcases ZE with h | h | h | h | h
    ·have z1:(([o.2.1].length:Nat):Int)≤((16777216:Nat):Int):=by simp
     have z2:((sd.length+[o.2.1].length:Nat):Int)≤((16777216:Nat):Int):=by simp;omega
     rw [ak h,a4 z1,a4 z2]
     unfold cq
     cases hd<;>simp only [h,if_true,a8,aO,q0,Bool.true_or,Bool.false_or]<;>rfl
    ·rw [ao (by omega),ak h,KH ops _ _ (by simp only;omega) o Hj Kb]
     simp only
     unfold cq
     rw [if_neg (by omega),if_pos h]
     by_cases hx:o.2.1.toNat<sl.length
     ·simp (disch:=omega) only [↓bZ,↓bY,↓b7,↓b8,↓b_,↓b9,zE,aZ,a7,a4,ba,ak,ao,bJ,a8,aO,a9,bc,bh,↓cP,aG,aN,a5,bP,bU,aT,a_,cF,bB,cQ,cM,aY,aF,hx,decide_true,c0,q0]
      cases hd<;>simp only [a8,aO,List.append_nil]<;>rfl
     ·have hs:sl.set o.2.1.toNat 0=sl:=List.set_eq_of_length_le (by omega)
      simp (disch:=omega) only [↓bZ,↓bY,↓b7,↓b8,↓b_,↓b9,zE,aZ,a7,a4,ba,ak,ao,bJ,a8,aO,a9,bc,bh,↓cP,aG,aN,a5,bP,bU,aT,a_,cF,bB,cQ,cM,aY,aF,hx,decide_false,c0,q0,hs]
      cases hd<;>simp only [a8,aO,List.append_nil]<;>rfl
    ·rw [ao (by omega),ao (by omega),ak h,KI ops _ _ (by simp only;omega) o Hj Kb]
     simp only
     unfold cq
     rw [if_neg (by omega),if_neg (by omega),if_pos h]
     by_cases hx:o.2.1.toNat<sl.length∧o.2.2.toNat<sl.length
     ·have Ze:=hx.1
      have Sh:=hx.2
      simp (disch:=omega) only [↓bZ,↓bY,↓b7,↓b8,↓b_,↓b9,zE,aZ,a7,a4,ba,ak,ao,bJ,a8,aO,a9,bc,bh,↓cP,aG,aN,a5,bP,bU,aT,a_,cF,bB,cQ,cM,aY,aF,hx,Ze,Sh,and_self,decide_true,c0,q0,if_true]
      cases hd<;>simp only [a8,aO,List.append_nil]<;>rfl
     ·simp (disch:=omega) only [↓bZ,↓bY,↓b7,↓b8,↓b_,↓b9,zE,aZ,a7,a4,ba,ak,ao,bJ,a8,aO,a9,bc,bh,↓cP,aG,aN,a5,bP,bU,aT,a_,cF,bB,cQ,cM,aY,aF,hx,decide_false,c0,q0,if_false]
      cases hd<;>simp only [a8,aO,List.append_nil]<;>rfl
    ·rw [ao (by omega),ao (by omega),ao (by omega),ak h,KJ ops _ _ (by simp only;omega) o Hj Kb]
     simp only
     unfold cq
     rw [if_neg (by omega),if_neg (by omega),if_neg (by omega),if_pos h]
     have q1:(a:Int)+1+o.2.2=((a+1+o.2.2.toNat:Nat):Int):=by omega
     by_cases hx:o.2.1.toNat<sl.length∧sl.getD o.2.1.toNat 0=0
     ·simp (disch:=omega) only [↓bZ,↓bY,↓b7,↓b8,↓b_,↓b9,zE,aZ,a7,a4,ba,ak,ao,bJ,a8,aO,a9,bc,bh,↓cP,aG,aN,a5,bP,bU,aT,a_,cF,bB,cQ,cM,aY,aF,hx,and_self,decide_true,c0,q1,if_true]
      cases hd<;>simp only [a8,aO,List.append_nil]<;>rfl
     ·simp (disch:=omega) only [↓bZ,↓bY,↓b7,↓b8,↓b_,↓b9,zE,aZ,a7,a4,ba,ak,ao,bJ,a8,aO,a9,bc,bh,↓cP,aG,aN,a5,bP,bU,aT,a_,cF,bB,cQ,cM,aY,aF,hx,decide_false,c0,q0,if_false]
      cases hd<;>simp only [a8,aO,List.append_nil]<;>rfl
    ·rw [ao (by omega),ao (by omega),ao (by omega),ao (by omega),ak h]
     unfold cq
     rw [if_neg (by omega),if_neg (by omega),if_neg (by omega),if_neg (by omega)]
     simp (disch:=omega) only [↓bZ,↓bY,↓b7,↓b8,↓b_,↓b9,zE,aZ,a7,a4,ba,ak,ao,bJ,a8,aO,a9,bc,bh,↓cP,aG,aN,a5,bP,bU,aT,a_,cF,bB,cQ,cM,aY,aF,h,decide_true,c0,q0]
     cases hd<;>simp only [a8,aO,List.append_nil]<;>rfl
  ·rw [qo ha]
   refine .stop _ (fun K=>?_)
   unfold g.lx
   simp (disch:=omega) only [↓bZ,↓bY,↓b7,↓b8,↓b_,↓b9,zE,aZ,a7,a4,ba,ak,ao,bJ,a8,aO,a9,bc,bh,↓cP,aG,aN,a5,bP,bU,aT,a_,cF,bB,cQ,cM,aY,aF]
theorem Hy {ops:List h_} (kV:xY ops) {d0:dT} {j:Nat} {sl:List Int} (hj:aD d0 j=some sl) (hl:sl.length≤100) :
  g.sR ops (some j) d0=some (((some d0.length),((fZ ops sl).2.1,((fZ ops sl).2.2.1,((fZ ops sl).2.2.2,())))),((d0++[some (fZ ops sl).1]),())):=by
 have h8:=kV.1
 unfold g.sR
 have e:cat [] sl=sl:=rfl
 have z:((0+sl.length:Nat):Int)≤((16777216:Nat):Int):=by omega
 simp (disch:=omega) only [↓bZ,↓bY,↓b7,↓b8,↓b_,↓b9,zE,aZ,a7,a4,ba,ak,ao,bJ,a8,aO,a9,bc,bh,↓cP,aG,aN,a5,bP,bU,aT,a_,cF,bB,cQ,cM,aY,aF,hj,e]
 exact (Ej kV d0 ops.length 0 sl [] false 0 (by omega) hl (by simp;omega) (by omega) (by omega)).loop (by unfold lG;omega)
end Go.Proofs.YtihiooaimdoapaaGreat
namespace Go.jJ
open Go.Bm
def lI (x:Xt):Prop:=0≤x.1∧0≤x.2∧x.1+x.2≤131072
def jz:List Xt→Int→Option Nat
 | [],_=>none
 | x::l,n=>if n≤x.2 then some 0 else (jz l n).map (· + 1)
def jy (l:List Xt) (n:Int):Option (Int×List Xt):=match jz l n with
 | none=>none
 | some i=>some ((l.getD i (0,0)).1,if (l.getD i (0,0)).2=n then l.eraseIdx i else l.set i ((l.getD i (0,0)).1+n,(l.getD i (0,0)).2-n))
def behind:List Xt→Int→Nat
 | [],_=>0
 | x::l,a=>if a<x.1+x.2 then 0 else behind l a+1
def jG (acc:List Xt) (x:Xt):List Xt:=match acc.getLast? with
 | some y=>if y.1+y.2=x.1 then acc.dropLast++[(y.1,y.2+x.2)] else acc++[x]
 | none=>[x]
def gP (acc l:List Xt):List Xt:=l.foldl jG acc
def tV (fr en:Int) (l:List Xt) (a n:Int):Option (List Xt):=
 if n<1∨n%8≠0∨a%8≠0∨¬(fr≤a∧a≤en-1)∨en-a<n then none
 else if behind l a<l.length∧(l.getD (behind l a) (0,0)).1<a+n then none
 else some (gP [] (l.take (behind l a)++[(a,n)]++l.drop (behind l a)))
theorem mC:∀{l:List Xt} {n:Int} {i:Nat},jz l n=some i→i<l.length∧n≤(l.getD i (0,0)).2
 | [],_,_,h=>by cases h
 | x::l,n,i,h=>by
  unfold jz at h
  split at h
  ·cases h;exact ⟨by simp,by simpa⟩
  ·cases hh:jz l n with
   | none=>rw [hh] at h;cases h
   | some j=>
    rw [hh] at h
    have h:j+1=i:=by simpa using h
    have:=mC hh
    subst h
    exact ⟨by simp;omega,by simpa using this.2⟩
theorem Ew (l:List Xt) (n:Int) (k:Nat) (h:k<l.length):jz (l.drop k) n=if n≤l[k].2 then some 0 else (jz (l.drop (k+1)) n).map (· + 1):=by
 rw [List.drop_eq_getElem_cons h];rfl
theorem CH (l:List Xt) (a:Int) (k:Nat) (h:k<l.length):behind (l.drop k) a=if a<l[k].1+l[k].2 then 0 else behind (l.drop (k+1)) a+1:=by
 rw [List.drop_eq_getElem_cons h];rfl
theorem qv:∀(l:List Xt) (a:Int),behind l a≤l.length
 | [],_=>Nat.le_refl _
 | x::l,a=>by
  unfold behind
  split
  ·omega
  ·have:=qv l a;simp;omega
theorem JU {acc:List Xt} {x:Xt} (h:∀y∈acc,lI y) (hx:lI x):∀y∈jG acc x,lI y:=by
 intro y hy
 unfold jG at hy
 split at hy
 ·rename_i z hz
  have hz':=h z (List.mem_of_getLast? hz)
  split at hy
  ·rcases zX.1 hy with hy | hy
   ·exact h y (List.dropLast_subset _ hy)
   ·rcases zF.1 hy with rfl
    unfold lI at *
    simp only
    omega
  ·rcases zX.1 hy with hy | hy
   ·exact h y hy
   ·rcases zF.1 hy with rfl;exact hx
 ·rcases zF.1 hy with rfl;exact hx
theorem G9 (acc:List Xt) (x:Xt):(jG acc x).length≤acc.length+1:=by
 unfold jG
 split
 ·split
  ·simp
  ·simp
 ·simp
theorem BQ (l:List Xt) (k:Nat) (h:k<l.length):gP [] (l.take (k+1))=jG (gP [] (l.take k)) l[k]:=by
 unfold gP
 rw [List.take_add_one,zD h,List.foldl_append]
 rfl
theorem x8:∀(l acc:List Xt),(∀y∈acc,lI y)→(∀y∈l,lI y)→∀y∈gP acc l,lI y
 | [],acc,h,_=>h
 | x::l,acc,h,hl=>x8 l _ (JU h (hl x (zV ..))) (fun y hy=>hl y (zT _ hy))
theorem rj:∀(l acc:List Xt),(gP acc l).length≤acc.length+l.length
 | [],acc=>Nat.le_refl _
 | x::l,acc=>by
  have:=rj l (jG acc x)
  have:=G9 acc x
  show (gP (jG acc x) l).length≤_
  simp;omega
end Go.jJ
namespace Go.Proofs.YtihiooaimdoapaaGreat
open Go.Bm Go.jJ
theorem HS {α:Type} {x y r:Option α} (k:y=r) (h:x=y:=by (first | with_reducible exact (cP _ _) | with_reducible exact a9 | with_reducible exact bc | with_reducible exact bh | with_reducible exact (sh (by assumption)) | with_reducible exact (uj (by assumption)) | with_reducible exact (oG (by assumption)) | with_reducible exact (uR (by assumption)) | with_reducible exact a8 | with_reducible exact aO | with_reducible exact bZ | with_reducible exact bY | with_reducible exact b7 | with_reducible exact b8 | with_reducible exact b_ | with_reducible exact b9 | with_reducible exact bJ | with_reducible exact Ao | (with_reducible apply CI;with_reducible (first | exact bD _ _ _ | assumption | exact aC (by assumption) | exact aC (aC (by assumption)) | exact aC (aC (aC (by assumption))) | exact aC (aC (aC (aC (by assumption)))) | exact aC (aC (aC (aC (aC (by assumption))))))) | (with_reducible refine aZ ?qh;case qh=>first | omega | (simp (disch:=omega) only [aG,aN,a5,bP,bU,aT,a_,cF,bB,cQ,cM,aY,aF,zE,List.length_nil,zO,zR,zH,fU,f_,dQ,lK,dg,zM]<;>omega)) | (with_reducible refine a7 ?qh;case qh=>first | omega | (simp (disch:=omega) only [aG,aN,a5,bP,bU,aT,a_,cF,bB,cQ,cM,aY,aF,zE,List.length_nil,zO,zR,zH,fU,f_,dQ,lK,dg,zM]<;>omega)) | (with_reducible refine a4 ?qh;case qh=>first | omega | (simp (disch:=omega) only [aG,aN,a5,bP,bU,aT,a_,cF,bB,cQ,cM,aY,aF,zE,List.length_nil,zO,zR,zH,fU,f_,dQ,lK,dg,zM]<;>omega)) | (with_reducible refine ba ?qh;case qh=>first | omega | (simp (disch:=omega) only [aG,aN,a5,bP,bU,aT,a_,cF,bB,cQ,cM,aY,aF,zE,List.length_nil,zO,zR,zH,fU,f_,dQ,lK,dg,zM]<;>omega)) | (with_reducible refine ak ?qh;case qh=>first | omega | (simp (disch:=omega) only [aG,aN,a5,bP,bU,aT,a_,cF,bB,cQ,cM,aY,aF,zE,List.length_nil,zO,zR,zH,fU,f_,dQ,lK,dg,zM]<;>omega)) | (with_reducible refine ao ?qh;case qh=>first | omega | (simp (disch:=omega) only [aG,aN,a5,bP,bU,aT,a_,cF,bB,cQ,cM,aY,aF,zE,List.length_nil,zO,zR,zH,fU,f_,dQ,lK,dg,zM]<;>omega)))):x=r:=h.trans k
def oJ (r2:T2) (r4:T4) (gr:Nat) (fr en:Int) (l:List Xt):Prop:=∃fo:Option Nat,r2[gr]?=some (fr,(en,fo))∧((fo=none∧l=[])∨∃j,fo=some j∧aD r4 j=some l)
theorem jZ {α:Type} {l:List α} {i:Nat} {y x:α} (h:l[i]?=some y):(aU l i x)[i]?=some x:=by
 unfold aU
 rw [List.getElem?_set,if_pos rfl,if_pos (zB.1 h).1]
theorem rH (d1:T4) (n:Int) (l:List Xt) (j:Nat) (v2) (hj:aD d1 j=some l) (hl:l.length≤10000) :
  loop (g.fa n d1 l j v2) ((0,()),((),((),((),()))))=v2 (((match jz l n with | some i=>(i:Int) | none=>-1),()),((),((),((),())))):=by
 refine (dJ (fun k=>((((k:Nat):Int),()),((),((),((),()))))) (fun k=>v2 (((match jz (l.drop k) n with | some i=>((k+i:Nat):Int) | none=>-1),()),((),((),((),()))))) l.length (by unfold lG;omega) (fun K=>?_) (fun k hk=>?_)).trans ?_
 ·simp (disch:=omega) only [g.fa,↓bZ,↓bY,↓b7,↓b8,↓b_,↓b9,zE,aZ,a7,a4,ba,ak,ao,bJ,a8,aO,a9,bc,bh,↓cP,aG,aN,a5,bP,bU,aT,a_,cF,bB,cQ,cM,aY,aF]
  rw [List.drop_of_length_le (by omega)]
  rfl
 ·rw [Ew l n k hk]
  have e:nth (0,0) l k=l[k]:=gE hk
  by_cases he:n≤l[k].2
  ·refine .inl (fun K=>?_)
   simp (disch:=omega) only [g.fa,↓bZ,↓bY,↓b7,↓b8,↓b_,↓b9,zE,aZ,a7,a4,ba,ak,ao,bJ,a8,aO,a9,bc,bh,↓cP,aG,aN,a5,bP,bU,aT,a_,cF,bB,cQ,cM,aY,aF,hj,e]
   rw [if_pos he];rfl
  ·refine .inr ⟨?_,fun K=>?_⟩
   ·rw [if_neg he]
    cases jz (l.drop (k+1)) n with
    | none=>rfl
    | some i=>simp only [Option.map_some];congr 3;omega
   ·simp (disch:=omega) only [g.fa,↓bZ,↓bY,↓b7,↓b8,↓b_,↓b9,zE,aZ,a7,a4,ba,ak,ao,bJ,a8,aO,a9,bc,bh,↓cP,aG,aN,a5,bP,bU,aT,a_,cF,bB,cQ,cM,aY,aF,hj,e]
    rfl
 ·simp
theorem EF {r2:T2} {r4:T4} {gr:Nat} {fr en:Int} {l:List Xt} (h:oJ r2 r4 gr fr en l) {n:Int} (hn:1≤n∧n≤65536∧n%8=0) (hl:l.length≤10000) (hb:jz l n=none) :
  g.dn gr n r2 r4=some ((0,(false,())),(r2,(r4,()))):=by
 obtain ⟨fo,h2,h4⟩:=h
 have e2:∀d,nth d r2 gr=(fr,(en,fo)):=fun d=>bj h2
 have hr:dU n 8=0:=by rw [aT (by omega)];exact hn.2.2
 unfold g.dn
 rcases h4 with ⟨rfl,rfl⟩ | ⟨j,rfl,hj⟩
 ·rw [e2,hr]
  repeat refine HS ?_
  rw [x9]
  unfold g.kO
  repeat refine HS ?_
  rfl
 ·rw [e2,hr]
  repeat refine HS ?_
  refine Eq.trans (rH r4 n l j _ hj hl) ?_
  rw [hb]
  repeat refine HS ?_
  rfl
theorem EE {r2:T2} {r4:T4} {gr:Nat} {fr en:Int} {l:List Xt} (h:oJ r2 r4 gr fr en l) {n:Int} (hn:1≤n∧n≤65536∧n%8=0) (hx:∀x∈l,lI x) (hl:l.length≤10000) {i:Nat} (hb:jz l n=some i) :
  ∃mK mJ,g.dn gr n r2 r4=some (((l.getD i (0,0)).1,(true,())),(mK,(mJ,())))∧oJ mK mJ gr fr en (if (l.getD i (0,0)).2=n then l.eraseIdx i else l.set i ((l.getD i (0,0)).1+n,(l.getD i (0,0)).2-n)):=by
 obtain ⟨fo,h2,h4⟩:=h
 have e2:∀d,nth d r2 gr=(fr,(en,fo)):=fun d=>bj h2
 have hr:dU n 8=0:=by rw [aT (by omega)];exact hn.2.2
 obtain ⟨hi,Hn⟩:=mC hb
 have Zd:lI (l.getD i (0,0)):=by rw [zA,zD hi];exact hx _ (List.getElem_mem hi)
 generalize hg:l.getD i (0,0)=x at *
 have e0:nth (0,0) l i=x:=hg
 obtain ⟨k1,k2,k3⟩:=Zd
 rcases h4 with ⟨rfl,rfl⟩ | ⟨j,rfl,hj⟩
 ·cases hi
 ·unfold g.dn
  rw [e2,hr]
  have nni:nN (i:Int)=i:=rfl
  have eU:aw (0,0) (aw (0,0) l i fun kr=>(af IntKind.i64 (nth (0,0) l i).1 n,kr.2)) i (fun l_=>(l_.1,aK IntKind.i64 (nth (0,0) l i).2 n))=l.set i (x.1+n,x.2-n):=by
   unfold aw
   rw [sn hi,e0,aG (by omega),aN (by omega)]
   simp only [aU,List.set_set]
  have e1:nth (0,0) (l.set i (x.1+n,x.2-n)) i=(x.1+n,x.2-n):=sn hi
  have sl:(l.set i (x.1+n,x.2-n)).length=l.length:=zM
  by_cases hz:x.2=n
  ·refine ⟨?r2,?r4,?eq,?rel⟩
   case eq=>
    repeat refine HS ?_
    refine Eq.trans (rH r4 n l j _ hj hl) ?_
    rw [hb]
    simp only [nni,e0]
    repeat refine HS ?_
    rw [eU]
    rw [e1,ak (show (x.1+n,x.2-n).2=0 by simp only;omega)]
    repeat refine HS ?_
    rw [e0]
   case rel=>
    refine ⟨some _,(jZ h2).trans (by rw [e2]),.inr ⟨_,rfl,?_⟩⟩
    have ti:((i:Int)+1).toNat=i+1:=by omega
    simp (disch:=omega) only [aG,aN,a5,bP,bU,aT,a_,cF,bB,cQ,cM,aY,aF,zE,List.length_nil,zO,zR,zH,fU,f_,dQ,lK,dg,zM,sl,ti,Nat.sub_zero,Nat.min_self,Nat.zero_add]
    rw [mO,if_pos (by simp [aU]),if_pos hz]
    rw [KZ (by rw [sl];exact hi) (by rw [sl]) rfl rfl,List.eraseIdx_set_eq]
  ·refine ⟨?s2,?s4,?eq2,?rel2⟩
   case eq2=>
    repeat refine HS ?_
    refine Eq.trans (rH r4 n l j _ hj hl) ?_
    rw [hb]
    simp only [nni,e0]
    repeat refine HS ?_
    rw [eU]
    rw [e1,ao (show ¬(x.1+n,x.2-n).2=0 by simp only;omega)]
    repeat refine HS ?_
    rw [e0]
   case rel2=>
    refine ⟨some j,h2,.inr ⟨j,rfl,?_⟩⟩
    rw [if_neg hz]
    exact aC (aC hj)
open Go.Bm Go.jJ
def gG (a0:Nat) (all:List Xt) (k:(((Int×Unit)×(Unit×(Unit×(Unit×(T2×(T4×Unit))))))→(Option ((Int×Unit)×(T2×(T4×Unit)))))) (s:((Int×Unit)×(Unit×(Unit×(Unit×(T2×(T4×Unit))))))):(Option ((Int×Unit)×(T2×(T4×Unit)))):=(br (bz s.1.1 (zN (len all))) (gd (bl s.1.1) (gd (bn (nN s.1.1) (len all)) (opt (nth (0,(0,none)) s.2.2.2.2.1 a0).2.2 (jn (fun (k0:((Bool×Unit)×(Unit×(Unit×(Unit×Unit))))→_)=>(k0 ((false,()),((),((),((),())))))) (fun (s1:((Bool×Unit)×(Unit×(Unit×(Unit×Unit)))))=>(br s1.1.1 (opt (nth (0,(0,none)) s.2.2.2.2.1 a0).2.2 none (fun p2=>(bd (aD s.2.2.2.2.2.1 p2) (fun p3=>(gd (bl (-1)) (gd (bn 0 (len p3)) (bd (aD s.2.2.2.2.2.1 p2) (fun p4=>(bd (aD s.2.2.2.2.2.1 p2) (fun p5=>(gd (bl (-1)) (gd (bn 0 (len p5)) (bd (aD s.2.2.2.2.2.1 p2) (fun p6=>(k (((af IntKind.i64 s.1.1 1),()),((),((),((),(s.2.2.2.2.1,((aU s.2.2.2.2.2.1 p2 (some (aw (0,0) p6 0 (fun r7=>(r7.1,(af IntKind.i64 (nth (0,0) p4 0).2 (nth (0,0) all (nN s.1.1)).2)))))),()))))))))))))))))))))) (opt (nth (0,(0,none)) s.2.2.2.2.1 a0).2.2 (gd (dD (len [((nth (0,0) all (nN s.1.1)).1,(nth (0,0) all (nN s.1.1)).2)]) 16777216) (k (((af IntKind.i64 s.1.1 1),()),((),((),((),((aw (0,(0,none)) s.2.2.2.2.1 a0 (fun r8=>(r8.1,(r8.2.1,(some (len s.2.2.2.2.2.1)))))),((cat s.2.2.2.2.2.1 [(some [((nth (0,0) all (nN s.1.1)).1,(nth (0,0) all (nN s.1.1)).2)])]),())))))))) (fun p9=>(bd (aD s.2.2.2.2.2.1 p9) (fun gO=>(gd (dD (aY (len gO) (len [((nth (0,0) all (nN s.1.1)).1,(nth (0,0) all (nN s.1.1)).2)])) 16777216) (gd (bn p9 (len s.2.2.2.2.2.1)) (k (((af IntKind.i64 s.1.1 1),()),((),((),((),((aw (0,(0,none)) s.2.2.2.2.1 a0 (fun jA=>(jA.1,(jA.2.1,(some (len (aU s.2.2.2.2.2.1 p9 none))))))),((cat (aU s.2.2.2.2.2.1 p9 none) [(some (cat gO [((nth (0,0) all (nN s.1.1)).1,(nth (0,0) all (nN s.1.1)).2)]))]),())))))))))))))))) (fun du=>(bd (aD s.2.2.2.2.2.1 du) (fun cY=>(jn (fun (Fo:((Bool×Unit)×(Unit×(Unit×(Unit×Unit))))→_)=>(br (cZ 0 (aK IntKind.i64 (zN (len cY)) 1)) (opt (nth (0,(0,none)) s.2.2.2.2.1 a0).2.2 none (fun fM=>(bd (aD s.2.2.2.2.2.1 fM) (fun gZ=>(gd (bl (aK IntKind.i64 (zN (len cY)) 1)) (gd (bn (nN (aK IntKind.i64 (zN (len cY)) 1)) (len gZ)) (bd (aD s.2.2.2.2.2.1 fM) (fun eK=>(opt (nth (0,(0,none)) s.2.2.2.2.1 a0).2.2 none (fun dG=>(bd (aD s.2.2.2.2.2.1 dG) (fun fL=>(gd (bl (aK IntKind.i64 (zN (len cY)) 1)) (gd (bn (nN (aK IntKind.i64 (zN (len cY)) 1)) (len fL)) (bd (aD s.2.2.2.2.2.1 dG) (fun ia=>(Fo (((aj (af IntKind.i64 (nth (0,0) eK (nN (aK IntKind.i64 (zN (len cY)) 1))).1 (nth (0,0) ia (nN (aK IntKind.i64 (zN (len cY)) 1))).2) (nth (0,0) all (nN s.1.1)).1),()),((),((),((),()))))))))))))))))))))) (Fo ((false,()),((),((),((),()))))))) (fun (AB:((Bool×Unit)×(Unit×(Unit×(Unit×Unit)))))=>(br AB.1.1 (opt (nth (0,(0,none)) s.2.2.2.2.1 a0).2.2 none (fun iy=>(bd (aD s.2.2.2.2.2.1 iy) (fun kC=>(gd (bl (aK IntKind.i64 (zN (len cY)) 1)) (gd (bn (nN (aK IntKind.i64 (zN (len cY)) 1)) (len kC)) (bd (aD s.2.2.2.2.2.1 iy) (fun mq=>(bd (aD s.2.2.2.2.2.1 iy) (fun gD=>(gd (bl (aK IntKind.i64 (zN (len cY)) 1)) (gd (bn (nN (aK IntKind.i64 (zN (len cY)) 1)) (len gD)) (bd (aD s.2.2.2.2.2.1 iy) (fun iQ=>(k (((af IntKind.i64 s.1.1 1),()),((),((),((),(s.2.2.2.2.1,((aU s.2.2.2.2.2.1 iy (some (aw (0,0) iQ (nN (aK IntKind.i64 (zN (len cY)) 1)) (fun yV=>(yV.1,(af IntKind.i64 (nth (0,0) mq (nN (aK IntKind.i64 (zN (len cY)) 1))).2 (nth (0,0) all (nN s.1.1)).2)))))),()))))))))))))))))))))) (opt (nth (0,(0,none)) s.2.2.2.2.1 a0).2.2 (gd (dD (len [((nth (0,0) all (nN s.1.1)).1,(nth (0,0) all (nN s.1.1)).2)]) 16777216) (k (((af IntKind.i64 s.1.1 1),()),((),((),((),((aw (0,(0,none)) s.2.2.2.2.1 a0 (fun jA=>(jA.1,(jA.2.1,(some (len s.2.2.2.2.2.1)))))),((cat s.2.2.2.2.2.1 [(some [((nth (0,0) all (nN s.1.1)).1,(nth (0,0) all (nN s.1.1)).2)])]),())))))))) (fun oc=>(bd (aD s.2.2.2.2.2.1 oc) (fun lS=>(gd (dD (aY (len lS) (len [((nth (0,0) all (nN s.1.1)).1,(nth (0,0) all (nN s.1.1)).2)])) 16777216) (gd (bn oc (len s.2.2.2.2.2.1)) (k (((af IntKind.i64 s.1.1 1),()),((),((),((),((aw (0,(0,none)) s.2.2.2.2.1 a0 (fun n9=>(n9.1,(n9.2.1,(some (len (aU s.2.2.2.2.2.1 oc none))))))),((cat (aU s.2.2.2.2.2.1 oc none) [(some (cat lS [((nth (0,0) all (nN s.1.1)).1,(nth (0,0) all (nN s.1.1)).2)]))]),())))))))))))))))))))))) (some ((0,()),(s.2.2.2.2.1,(s.2.2.2.2.2.1,())))))
theorem FG (a0:Nat) (a1 a2:Int) (v0 v1 v2 v3):g.kY a0 a1 a2 v0 v1 v2 v3=gG a0 (cat (cat (tk (aF (nN v0.1.1) 0) (dr 0 v1)) [(a1,a2)]) (tk (aF (len v2) (nN v0.1.1)) (dr (nN v0.1.1) v3))):=rfl
theorem FF (a0:Nat) (a1 a2:Int) (v0 v1 v2):g.jl a0 a1 a2 v0 v1 v2=gG a0 (cat [(a1,a2)] (tk (aF (len v0) (nN v1.1.1)) (dr (nN v1.1.1) v2))):=rfl
theorem NN (a0:Nat) (a1 a2:Int):g.jk a0 a1 a2=gG a0 (cat [(a1,a2)] []):=rfl
theorem DO (init:List Xt) (y x:Xt):jG (init++[y]) x=if y.1+y.2=x.1 then init++[(y.1,y.2+x.2)] else init++[y]++[x]:=by
 unfold jG;simp
theorem BI {α:Type} {d y:α} {l:List α} {i:Nat} (h:i=l.length):nth d (l++[y]) i=y:=by subst h;exact sq
theorem AU {α:Type} {x y:α} {l:List α} {i:Nat} (h:i=l.length):aU (l++[y]) i x=l++[x]:=by subst h;unfold aU;simp
theorem xy {r2:T2} {r4:T4} {gr:Nat} {fr en:Int} {acc all:List Xt} {k:Nat} (h:oJ r2 r4 gr fr en acc) (hk:k<all.length) (hl:all.length≤10001) (ha:acc.length≤k) (hx:lI all[k]) (DU:∀y∈acc,lI y) :
  ∃mK mJ,oJ mK mJ gr fr en (jG acc all[k])∧∀K,gG gr all K (((k:Int),()),((),((),((),(r2,(r4,()))))))=K ((((k+1:Nat):Int),()),((),((),((),(mK,(mJ,())))))):=by
 obtain ⟨fo,h2,h4⟩:=h
 have e2:∀d,nth d r2 gr=(fr,(en,fo)):=fun d=>bj h2
 have e:∀d,nth d all (nN (k:Int))=all[k]:=fun d=>gE hk
 have ek:af IntKind.i64 (k:Int) 1=((k+1:Nat):Int):=by rw [aG (by omega)];omega
 rcases h4 with ⟨rfl,rfl⟩ | ⟨j,rfl,hj⟩
 ·refine ⟨?r2,?r4,?rel,fun K=>?eq⟩
  case eq=>
   unfold gG
   simp only [e2,e,ek]
   repeat refine HS ?_
   rfl
  case rel=>
   refine ⟨some r4.length,jZ h2 |>.trans (by rw [e2];rfl),.inr ⟨_,rfl,?_⟩⟩
   exact dw
 ·have hjl:=j5 hj
  rcases List.eq_nil_or_concat acc with rfl | ⟨init,y,rfl⟩
  ·refine ⟨?s2,?s4,?rel2,fun K=>?eq2⟩
   case eq2=>
    unfold gG
    simp only [e2,e,ek]
    repeat refine HS ?_
    rfl
   case rel2=>
    refine ⟨some (len (aU r4 j none)),jZ h2 |>.trans (by rw [e2]),.inr ⟨_,rfl,?_⟩⟩
    exact dw
  ·simp only [List.concat_eq_append] at *
   have hle:(init++[y]).length=init.length+1:=by simp
   have il:aK IntKind.i64 (zN (len (init++[y]))) 1=(init.length:Int):=by
    rw [cF,bB,hle,aN (by omega)];omega
   have hy:=DU y (by simp)
   have ey:∀d,nth d (init++[y]) (nN (init.length:Int))=y:=fun d=>BI (cQ _)
   have ea:af IntKind.i64 y.1 y.2=y.1+y.2:=aG (by unfold lI at hy;omega)
   have eb:af IntKind.i64 y.2 all[k].2=y.2+all[k].2:=aG (by unfold lI at hy hx;omega)
   rw [DO]
   by_cases hq:y.1+y.2=all[k].1
   ·rw [if_pos hq]
    refine ⟨?u2,?u4,?rel3,fun K=>?eq3⟩
    case eq3=>
     unfold gG
     simp only [e2,e,ek]
     iterate 12 (try (refine HS ?_))
     simp only [il]
     repeat refine HS ?_
     simp only [ey,ea,eb]
     repeat refine HS ?_
     rfl
    case rel3=>
     refine ⟨some j,h2,.inr ⟨j,rfl,(aC hj).trans ?_⟩⟩
     unfold aw
     rw [ey,AU (cQ _)]
     show some (init++[(y.1,af IntKind.i64 y.2 all[k].2)])=_
     rw [eb]
   ·rw [if_neg hq]
    refine ⟨?v2,?v4,?rel4,fun K=>?eq4⟩
    case eq4=>
     unfold gG
     simp only [e2,e,ek]
     iterate 12 (try (refine HS ?_))
     simp only [il]
     repeat refine HS ?_
     simp only [ey,ea,eb]
     repeat refine HS ?_
     rfl
    case rel4=>
     refine ⟨some (len (aU r4 j none)),jZ h2 |>.trans (by rw [e2]),.inr ⟨_,rfl,?_⟩⟩
     exact dw
theorem B5 {gr:Nat} {fr en:Int} {all:List Xt} (hl:all.length≤10001) (hx:∀y∈all,lI y):∀(m k:Nat) (r2:T2) (r4:T4),k+m=all.length→oJ r2 r4 gr fr en (gP [] (all.take k)) →
  ∃mK mJ,oJ mK mJ gr fr en (gP [] all)∧xF (gG gr all) (((k:Int),()),((),((),((),(r2,(r4,())))))) (some ((0,()),(mK,(mJ,())))) m
 | 0,k,r2,r4,hk,h=>by
  obtain rfl:k=all.length:=by omega
  rw [List.take_length] at h
  refine ⟨r2,r4,h,xF.stop 0 fun K=>?_⟩
  unfold gG
  repeat refine HS ?_
  rfl
 | m+1,k,r2,r4,hk,h=>by
  have D0:k<all.length:=by omega
  have ho:∀y∈gP [] (all.take k),lI y:=x8 _ _ (by simp) (fun y hy=>hx y (List.mem_of_mem_take hy))
  have hn:(gP [] (all.take k)).length≤k:=by have:=rj (all.take k) [];simp at this;omega
  obtain ⟨mK,mJ,h',e⟩:=xy h D0 hl hn (hx _ (List.getElem_mem D0)) ho
  rw [←BQ all k D0] at h'
  obtain ⟨adL,adI,h'',r⟩:=B5 hl hx m (k+1) mK mJ (by omega) h'
  exact ⟨adL,adI,h'',xF.step r e⟩
theorem D9 {gr:Nat} {fr en:Int} {all:List Xt} {r2:T2} {r4:T4} (h:oJ r2 r4 gr fr en []) (hl:all.length≤10001) (hx:∀y∈all,lI y) :
  ∃mK mJ,oJ mK mJ gr fr en (gP [] all)∧loop (gG gr all) ((0,()),((),((),((),(r2,(r4,()))))))=some ((0,()),(mK,(mJ,()))):=by
 obtain ⟨mK,mJ,h',r⟩:=B5 hl hx all.length 0 r2 r4 (by omega) h
 exact ⟨mK,mJ,h',r.loop (by unfold lG;omega)⟩
theorem Hr (a1:Int) (d1:T4) (l:List Xt) (j:Nat) (v2) (hj:aD d1 j=some l) (hl:l.length≤10000) (hx:∀x∈l,lI x) :
  loop (g.fp a1 d1 l j v2) ((0,()),((),((),((),()))))=v2 (((if behind l a1<l.length then (behind l a1:Int) else -1),()),((),((),((),())))):=by
 refine (dJ (fun k=>((((k:Nat):Int),()),((),((),((),()))))) (fun k=>v2 (((if k+behind (l.drop k) a1<l.length then ((k+behind (l.drop k) a1:Nat):Int) else -1),()),((),((),((),()))))) l.length (by unfold lG;omega) (fun K=>?_) (fun k hk=>?_)).trans ?_
 ·simp (disch:=omega) only [g.fp,↓bZ,↓bY,↓b7,↓b8,↓b_,↓b9,zE,aZ,a7,a4,ba,ak,ao,bJ,a8,aO,a9,bc,bh,↓cP,aG,aN,a5,bP,bU,aT,a_,cF,bB,cQ,cM,aY,aF]
  rw [if_neg (by omega)]
 ·rw [CH l a1 k hk]
  have e:nth (0,0) l k=l[k]:=gE hk
  have sE:=hx _ (List.getElem_mem hk)
  unfold lI at sE
  by_cases he:a1<l[k].1+l[k].2
  ·refine .inl (fun K=>?_)
   simp (disch:=omega) only [g.fp,↓bZ,↓bY,↓b7,↓b8,↓b_,↓b9,zE,aZ,a7,a4,ba,ak,ao,bJ,a8,aO,a9,bc,bh,↓cP,aG,aN,a5,bP,bU,aT,a_,cF,bB,cQ,cM,aY,aF,hj,e]
   rw [if_pos he,if_pos (by omega)];rfl
  ·refine .inr ⟨?_,fun K=>?_⟩
   ·rw [if_neg he]
    have e3:k+(behind (l.drop (k+1)) a1+1)=k+1+behind (l.drop (k+1)) a1:=by omega
    rw [e3]
   ·simp (disch:=omega) only [g.fp,↓bZ,↓bY,↓b7,↓b8,↓b_,↓b9,zE,aZ,a7,a4,ba,ak,ao,bJ,a8,aO,a9,bc,bh,↓cP,aG,aN,a5,bP,bU,aT,a_,cF,bB,cQ,cM,aY,aF,hj,e]
    rfl
 ·simp
theorem oJ.nil {r2:T2} {r4:T4} {gr:Nat} {fr en:Int} {l:List Xt} (h:oJ r2 r4 gr fr en l):oJ (aw (0,(0,none)) r2 gr (fun r=>(r.1,(r.2.1,none)))) r4 gr fr en []:=by
 obtain ⟨fo,h2,_⟩:=h
 have e2:∀d,nth d r2 gr=(fr,(en,fo)):=fun d=>bj h2
 exact ⟨none,jZ h2 |>.trans (by rw [e2]),.inl ⟨rfl,rfl⟩⟩
theorem TB {r2:T2} {r4:T4} {gr:Nat} {fr en:Int} {l l':List Xt} {a n:Int} (h:oJ r2 r4 gr fr en l) (hf:0≤fr∧0≤en∧en≤131072) (ha:0≤a∧a≤1048576) (hn:0≤n∧n≤1048576) (hx:∀x∈l,lI x) (hl:l.length≤10000) (hg:tV fr en l a n=some l') :
  ∃mK mJ,g.gF gr a n r2 r4=some ((0,()),(mK,(mJ,())))∧oJ mK mJ gr fr en l':=by
 have DY:=h.nil
 obtain ⟨fo,h2,h4⟩:=h
 have e2:∀d,nth d r2 gr=(fr,(en,fo)):=fun d=>bj h2
 unfold tV at hg
 split at hg
 ·cases hg
 rename_i hc
 split at hg
 ·cases hg
 rename_i hd
 cases hg
 have ZF:1≤n:=by omega
 have Uu:n%8=0:=by omega
 have hc3:a%8=0:=by omega
 have hc4:fr≤a∧a≤en-1:=by omega
 have hc5:n≤en-a:=by omega
 have hw:within a fr (aK IntKind.i64 en 1)=true:=by
  rw [aN (by omega)];simp [within,hc4.1,hc4.2]
 have ll:∀y∈l.take (behind l a)++[(a,n)]++l.drop (behind l a),lI y:=by
  intro y hy
  simp only [zX,zF] at hy
  rcases hy with (hy | rfl) | hy
  ·exact hx _ (List.mem_of_mem_take hy)
  ·unfold lI;simp only;omega
  ·exact hx _ (List.mem_of_mem_drop hy)
 have hlen:(l.take (behind l a)++[(a,n)]++l.drop (behind l a)).length≤10001:=by
  have:=qv l a
  simp;omega
 obtain ⟨mK,mJ,hr,B2⟩:=D9 DY hlen ll
 refine ⟨mK,mJ,?_,hr⟩
 unfold g.gF
 rcases h4 with ⟨rfl,rfl⟩ | ⟨j,rfl,hj⟩
 ·simp only [e2]
  repeat refine HS ?_
  try rw [hw]
  repeat refine HS ?_
  rw [x9]
  unfold g.kX
  repeat refine HS ?_
  rw [NN]
  exact B2
 ·have hb:=qv l a
  simp only [e2]
  repeat refine HS ?_
  try rw [hw]
  repeat refine HS ?_
  refine Eq.trans (Hr a r4 l j _ hj hl hx) ?_
  generalize hi:behind l a=i at *
  have a0:cat (cat (tk (aF (nN (i:Int)) 0) (dr 0 l)) [(a,n)]) (tk (aF (len l) (nN (i:Int))) (dr (nN (i:Int)) l))=l.take i++[(a,n)]++l.drop i:=by
   unfold cat tk dr aF len nN
   rw [zE,Nat.sub_zero,List.drop_zero,za (l:=l.drop i) (by simp)]
  have a2:i=0→cat [(a,n)] (tk (aF (len l) (nN (i:Int))) (dr (nN (i:Int)) l))=l.take i++[(a,n)]++l.drop i:=by
   rintro rfl
   unfold cat tk dr aF len nN
   simp
  have k0:(fun r:Int×(Int×Option Nat)=>(r.1,(r.2.1,(none:Option Nat))))=(fun r=>(r.1,(r.2.1,none))):=rfl
  have hs:af IntKind.i64 a n=a+n:=aG (by omega)
  by_cases eh:i<l.length
  ·rw [if_pos eh]
   have e:∀d,nth d l (nN (i:Int))=l[i]:=fun d=>gE eh
   have qC:¬l[i].1<a+n:=by
    intro hh
    refine hd ⟨eh,?_⟩
    rw [zA,zD eh]
    exact hh
   by_cases h0:i=0
   ·repeat refine HS ?_
    rw [e,hs]
    repeat refine HS ?_
    rw [FF]
    exact (congrArg (fun al=>loop (gG gr al) _) (a2 h0)).trans B2
   ·repeat refine HS ?_
    rw [e,hs]
    repeat refine HS ?_
    rw [FG]
    exact (congrArg (fun al=>loop (gG gr al) _) a0).trans B2
  ·rw [if_neg eh]
   obtain rfl:i=l.length:=by omega
   by_cases h0:l.length=0
   ·repeat refine HS ?_
    rw [FF]
    exact (congrArg (fun al=>loop (gG gr al) _) (a2 h0)).trans B2
   ·repeat refine HS ?_
    rw [FG]
    exact (congrArg (fun al=>loop (gG gr al) _) a0).trans B2
end Go.Proofs.YtihiooaimdoapaaGreat
namespace Go.jJ
open Go.Bm
abbrev dW:=nO×Xt
def ab (l:List dW) (i:Int):dW:=nth ((0,(0,(0,0))),(0,0)) l (nN i)
def lb (l:List dW) (first i:Int):Bool:=within i first ((l.length:Int)-1)
def kq (l:List dW) (i:Int):nO×Int:=if lb l 0 i=true then ((ab l i).1,0) else (Cr,11)
def ph (l:List dW) (i:Int):Xt×Int:=if lb l 0 i=true then ((ab l i).2,0) else ((0,0),11)
def cS (l:List dW) (i:Int) (f:nO→nO×Int):List dW×Int:=
 if lb l 1 i=true then (if (f (ab l i).1).2=0 then (l.set i.toNat ((f (ab l i).1).1,(ab l i).2),0) else (l,(f (ab l i).1).2)) else (l,11)
def jm (l:List dW) (i:Int):List dW×Bool×Int:=
 if (cS l i bG).2=0 then ((cS l i bG).1,decide ((ab (cS l i bG).1 i).1.1=3),0) else (l,false,(cS l i bG).2)
def g_:List dW→Option Nat
 | []=>none
 | x::l=>if x.1.1=0 then some 0 else (g_ l).map (· + 1)
def bC (l:List dW) (fl:List Xt) (n:Int):List dW×List Xt×Int×Int:=
 if within n 1 8192=false then (l,fl,0,1)
 else match g_ l with
  | none=>(l,fl,0,13)
  | some i=>match jy fl (rK n) with
   | none=>(l,fl,0,14)
   | some (a,tW)=>(l.set i ((1,(ab l i).1.2),(a,rK n)),tW,(i:Int),0)
def bg (fr en:Int) (l:List dW) (fl:List Xt) (i:Int):List dW×List Xt×Int:=
 if lb l 1 i=false then (l,fl,11)
 else if (ab l i).1.1=0 then (l,fl,11)
 else if (ab l i).1.1≠1 then (l,fl,12)
 else (l.set i.toNat ((0,0,-1,b6 (ab l i).1.2.2.2),(0,0)),(tV fr en fl (ab l i).2.1 (ab l i).2.2).getD fl,0)
theorem getSet {α:Type} {l:List α} {i j:Nat} {x y:α} (h:(l.set i x)[j]?=some y):(j=i∧y=x)∨(j≠i∧l[j]?=some y):=by
 rw [List.getElem?_set] at h
 by_cases e:i=j
 ·rw [if_pos e] at h
  by_cases e2:i<l.length
  ·rw [if_pos e2] at h;cases h;exact .inl ⟨e.symm,rfl⟩
  ·rw [if_neg e2] at h;cases h
 ·rw [if_neg e] at h;exact .inr ⟨fun h=>e h.symm,h⟩
def dj (x y:Xt):Prop:=x.1+x.2≤y.1∨y.1+y.2≤x.1
def lX (fr en:Int) (x:Xt):Prop:=fr≤x.1∧8≤x.2∧x.1+x.2≤en∧x.1%8=0∧x.2%8=0
structure SI (fr en:Int) (l:List dW) (fl:List Xt):Prop where
 Eb:0≤fr∧fr%8=0∧en≤16384
 len:1≤l.length∧l.length≤8
 fx:∀x∈fl,lX fr en x
 pw:fl.Pairwise dj
 cr:∀(i:Nat) (x:dW),l[i]?=some x→bf x.1=true
 ux:∀(i:Nat) (x:dW),1≤i→l[i]?=some x→x.1.1≠0→lX fr en x.2
 fu:∀(i:Nat) (x:dW),1≤i→l[i]?=some x→x.1.1≠0→∀y∈fl,dj x.2 y
 uu:∀(i j:Nat) (x y:dW),1≤i→1≤j→i≠j→l[i]?=some x→l[j]?=some y→x.1.1≠0→y.1.1≠0→dj x.2 y.2
 im:∀x:dW,l[0]?=some x→x.1=(2,1,-1,0)∧0≤x.2.1∧x.2.1%8=0∧0≤x.2.2∧x.2.2%8=0∧x.2.1+x.2.2≤fr∧8≤x.2.1
theorem lX.ok {fr en:Int} {x:Xt} (h0:0≤fr∧fr%8=0∧en≤16384) (h:lX fr en x):lI x:=by
 unfold lX at h;unfold lI;omega
theorem ld {l:List dW} {i:Nat} {x:dW} (h:l[i]?=some x):ab l (i:Int)=x:=by
 unfold ab nth nN
 rw [zE,zA,h];rfl
theorem bX {l:List dW} {f i:Int}:lb l f i=true↔f≤i∧i<l.length:=by
 unfold lb;rw [bF];omega
theorem Iy {l:List dW} {f i:Int}:lb l f i=false↔¬(f≤i∧i<l.length):=by
 rw [←bX];simp
theorem iX {l:List dW} {i:Int} (h0:0≤i) (h:i<l.length):l[i.toNat]?=some (ab l i):=by
 unfold ab nth nN
 rw [zA,zD (by omega)];rfl
theorem SI.aU {fr en:Int} {l:List dW} {fl:List Xt} (h:SI fr en l fl) {i:Nat} {x:dW} (hi:1≤i) (hx:l[i]?=some x) (hu:x.1.1≠0) {c:nO} (hc:bf c=true):SI fr en (l.set i (c,x.2)) fl:=by
 have key:∀(j:Nat) (y:dW),1≤j→(l.set i (c,x.2))[j]?=some y→y.1.1≠0→∃z:dW,l[j]?=some z∧z.1.1≠0∧z.2=y.2:=by
  intro j y hj hy h0
  rw [List.getElem?_set] at hy
  split at hy
  ·rename_i e;subst e
   split at hy
   ·cases hy;exact ⟨x,hx,hu,rfl⟩
   ·cases hy
  ·exact ⟨y,hy,h0,rfl⟩
 refine ⟨h.Eb,by simpa using h.len,h.fx,h.pw,?_,?_,?_,?_,?_⟩
 ·intro j y hy
  rw [List.getElem?_set] at hy
  split at hy
  ·split at hy
   ·cases hy;exact hc
   ·cases hy
  ·exact h.cr j y hy
 ·intro j y hj hy h0
  obtain ⟨z,h1,h2,h3⟩:=key j y hj hy h0
  rw [←h3];exact h.ux j z hj h1 h2
 ·intro j y hj hy h0 w hw
  obtain ⟨z,h1,h2,h3⟩:=key j y hj hy h0
  rw [←h3];exact h.fu j z hj h1 h2 w hw
 ·intro j k y z hj hk hn hy hz h0 h1
  obtain ⟨y',a1,a2,a3⟩:=key j y hj hy h0
  obtain ⟨z',b1,b2,b3⟩:=key k z hk hz h1
  rw [←a3,←b3];exact h.uu j k y' z' hj hk hn a1 b1 a2 b2
 ·intro y hy
  rw [List.getElem?_set] at hy
  rw [if_neg (by omega)] at hy
  exact h.im y hy
theorem Cq (fr:Int) (c:nO) (h:bf c=true) (h0:(bS c fr).2=0):bf (bS c fr).1=true∧c.1≠0:=by
 obtain ⟨s,n,p,e⟩:=c
 unfold bS at h0 ⊢
 by_cases h1:within fr 0 7=true
 ·rw [if_neg (by rw [h,h1];simp)] at h0 ⊢
  rw [bF] at h1
  simp only at h0 ⊢
  by_cases s0:s=0
  ·rw [if_pos s0] at h0;cases h0
  ·rw [if_neg s0] at h0 ⊢
   refine ⟨?_,s0⟩
   unfold bf at h ⊢
   simp only [zC,bF] at h ⊢
   obtain ⟨he,h⟩:=h
   by_cases s3:s=3
   ·rw [if_pos s3] at h0;cases h0
   ·rw [if_neg s3] at h0 ⊢
    by_cases s1:s=1
    ·rw [if_pos s1]
     rw [if_pos (.inr s1)] at h
     simp only [zC,decide_eq_true_eq] at h
     refine ⟨he,?_⟩
     simp [bF];omega
    ·rw [if_neg s1] at h0 ⊢
     rw [if_neg (by omega)] at h
     split at h0
     ·cases h0
     ·rename_i hp
      split at h0
      ·cases h0
      ·rename_i hn
       rw [if_neg hp,if_neg hn]
       refine ⟨he,?_⟩
       simp only
       by_cases s2:s=2
       ·rw [if_pos s2] at h
        simp only [zC,bF] at h
        rw [if_neg (by omega),if_pos s2]
        simp only [zC,bF]
        omega
       ·rw [if_neg s2,if_neg s3] at h;cases h
 ·rw [if_pos (.inr (by simpa using h1))] at h0;cases h0
theorem K2 {c:nO} {s:Int} (h:jd c s=0):bf c=true∧c.1=s:=by
 unfold jd at h
 split at h
 ·cases h
 ·rename_i h1
  split at h
  ·cases h
  ·rename_i h2
   exact ⟨by simpa using h1,by simpa using h2⟩
theorem lF {c:nO} (h:bf c=true) (h2:c.1=2):(bG c).2=0∧(bG c).1=if c.2.1=1 then (3,0,c.2.2.1,c.2.2.2) else (2,c.2.1-1,c.2.2.1,c.2.2.2):=by
 obtain ⟨s,n,p,e⟩:=c
 obtain rfl:s=2:=h2
 have e0:jd (2,n,p,e) 2=0:=by unfold jd;rw [if_neg (by rw [h];simp)];simp
 unfold bG
 rw [if_neg (by rw [e0];simp)]
 simp only
 split<;>exact ⟨rfl,rfl⟩
theorem fH {c:nO} (h:bf c=true) (h2:c.1=2):1≤c.2.1∧c.2.1≤7∧-1≤c.2.2.1∧c.2.2.1≤7∧0≤c.2.2.2∧c.2.2.2≤16777215:=by
 unfold bf at h
 rw [h2] at h
 simp [bF] at h
 omega
theorem Dq {n p e:Int} (h:1≤n∧n≤7∧-1≤p∧p≤7∧0≤e∧e≤16777215):bf (2,n,p,e)=true:=by
 unfold bf
 simp [bF];omega
theorem pk {p e:Int} (h : -1≤p∧p≤7∧0≤e∧e≤16777215):bf (3,0,p,e)=true:=by
 unfold bf
 simp [bF];omega
theorem Dr {e:Int} (h:0≤e∧e≤16777215):bf (1,0,-1,e)=true:=by
 unfold bf
 simp [bF];omega
theorem jD {c:nO} (h:bf c=true):((c.1=0∨c.1=1)∧c.2.1=0∧c.2.2.1 = -1)∨(c.1=2)∨(c.1=3∧c.2.1=0):=by
 unfold bf at h
 simp only [zC] at h
 obtain ⟨_,h⟩:=h
 by_cases h1:c.1=0∨c.1=1
 ·rw [if_pos h1] at h
  simp only [zC,decide_eq_true_eq] at h
  exact .inl ⟨h1,h.1,h.2⟩
 ·rw [if_neg h1] at h
  by_cases h2:c.1=2
  ·exact .inr (.inl h2)
  ·rw [if_neg h2] at h
   by_cases h3:c.1=3
   ·rw [if_pos h3] at h
    simp only [zC,decide_eq_true_eq] at h
    exact .inr (.inr ⟨h3,h.1⟩)
   ·rw [if_neg h3] at h;cases h
theorem kf {c:nO} {f:Int} (hr:bf c=true) (h:(bS c f).2=0):(bS c f).1=(2,c.2.1+1,f,c.2.2.2)∧(c.1=1∨(c.1=2∧c.2.2.1=f∧c.2.1<7)):=by
 unfold bS at h ⊢
 split at h
 ·cases h
 ·rename_i c1
  split at h
  ·cases h
  ·rename_i c2
   split at h
   ·cases h
   ·rename_i c3
    split at h
    ·rename_i c4
     rw [if_neg c1,if_neg c2,if_neg c3,if_pos c4];exact ⟨rfl,.inl c4⟩
    ·rename_i c4
     split at h
     ·cases h
     ·rename_i c5
      split at h
      ·cases h
      ·rename_i c6
       rw [if_neg c1,if_neg c2,if_neg c3,if_neg c4,if_neg c5,if_neg c6]
       have h2:c.1=2:=by
        rcases jD hr with ⟨h3,_⟩ | h3 | ⟨h3,_⟩
        ·omega
        ·exact h3
        ·exact absurd h3 c3
       have h5:c.2.2.1=f:=by simpa using c5
       have:=fH hr h2
       refine ⟨by rw [h2,h5],.inr ⟨h2,h5,by omega⟩⟩
theorem ss {e:Int}:0≤b6 e∧b6 e≤16777215:=by unfold b6;omega
theorem gW:∀{l:List dW} {i:Nat},g_ l=some i→∃x,l[i]?=some x∧x.1.1=0
 | [],_,h=>by cases h
 | x::l,i,h=>by
  unfold g_ at h
  split at h
  ·rename_i h0;cases h;exact ⟨x,rfl,h0⟩
  ·cases hh:g_ l with
   | none=>rw [hh] at h;cases h
   | some j=>
    rw [hh] at h
    have h:j+1=i:=by simpa using h
    subst h
    obtain ⟨y,h1,h2⟩:=gW hh
    exact ⟨y,by simpa using h1,h2⟩
theorem B6 (l:List dW) (k:Nat) (h:k<l.length):g_ (l.drop k)=if l[k].1.1=0 then some 0 else (g_ (l.drop (k+1))).map (· + 1):=by
 rw [List.drop_eq_getElem_cons h];rfl
theorem Ii {n:Int} (h:1≤n∧n≤8192):8≤rK n∧rK n≤8192∧rK n%8=0∧n≤rK n:=by unfold rK;omega
theorem Ea {l:List Xt} {i:Nat} (hi:i<l.length):l=l.take i++l[i]::l.drop (i+1):=by
 rw [←List.drop_eq_getElem_cons hi,zP]
theorem mV {x y:Xt} (h:dj x y):dj y x:=h.symm
theorem K_ {fr en:Int} {fl tW:List Xt} {a n:Int} (hx:∀x∈fl,lX fr en x) (hp:fl.Pairwise dj) (hn:8≤n∧n%8=0) (h:jy fl n=some (a,tW)) :
  lX fr en (a,n)∧(∀y∈tW,lX fr en y)∧tW.Pairwise dj∧(∀y∈tW,dj (a,n) y)∧(∀u:Xt,(∀y∈fl,dj u y)→dj u (a,n)∧∀y∈tW,dj u y)∧tW.length≤fl.length:=by
 unfold jy at h
 split at h
 ·cases h
 ·rename_i i hb
  obtain ⟨hi,Hn⟩:=mC hb
  have hg:fl.getD i (0,0)=fl[i]:=by rw [zA,zD hi];rfl
  rw [hg] at h Hn
  have qO:=hx _ (List.getElem_mem hi)
  have DV:=Ea hi
  have e1:fl.eraseIdx i=fl.take i++fl.drop (i+1):=List.eraseIdx_eq_take_drop_succ _ _
  have e2:∀z,fl.set i z=fl.take i++z::fl.drop (i+1):=fun z=>by
   rw [List.set_eq_take_append_cons_drop,if_pos hi]
  rw [e1,e2] at h
  generalize fl[i]=x at *
  generalize fl.take i=A at *
  generalize fl.drop (i+1)=B at *
  simp only [zI,zU] at h
  obtain ⟨rfl,rfl⟩:=h
  subst DV
  have ana:fr≤x.1∧8≤x.2∧x.1+x.2≤en∧x.1%8=0∧x.2%8=0:=qO
  rw [List.pairwise_append,List.pairwise_cons] at hp
  obtain ⟨p1,⟨p2,p3⟩,p4⟩:=hp
  have pA:∀y∈A,dj x y:=fun y hy=>mV (p4 y hy x (by simp))
  have sub:∀y,dj x y→n≤x.2→dj (x.1,n) y:=fun y hy hn=>by unfold dj at *;simp only;omega
  have Rj:∀y,dj y x→x.2≠n→dj y (x.1+n,x.2-n):=fun y hy jB=>by unfold dj at *;simp only;omega
  refine ⟨by unfold lX;simp only;omega,?_,?_,?_,?_,?_⟩
  ·intro y hy
   split at hy
   ·exact hx y (by simp at hy ⊢;rcases hy with h | h<;>simp [h])
   ·simp only [zX,List.mem_cons] at hy
    rcases hy with hy | rfl | hy
    ·exact hx y (by simp [hy])
    ·unfold lX;simp only;omega
    ·exact hx y (by simp [hy])
  ·split
   ·rw [List.pairwise_append]
    exact ⟨p1,p3,fun a ha b hb=>p4 a ha b (by simp [hb])⟩
   ·rename_i jB
    rw [List.pairwise_append,List.pairwise_cons]
    refine ⟨p1,⟨fun y hy=>mV (Rj y (mV (p2 y hy)) jB),p3⟩,fun a ha b hb=>?_⟩
    simp only [List.mem_cons] at hb
    rcases hb with rfl | hb
    ·exact Rj a (p4 a ha x (by simp)) jB
    ·exact p4 a ha b (by simp [hb])
  ·intro y hy
   split at hy
   ·simp only [zX] at hy
    rcases hy with hy | hy
    ·exact sub y (pA y hy) Hn
    ·exact sub y (p2 y hy) Hn
   ·simp only [zX,List.mem_cons] at hy
    rcases hy with hy | rfl | hy
    ·exact sub y (pA y hy) Hn
    ·unfold dj;simp only;omega
    ·exact sub y (p2 y hy) Hn
  ·intro u hu
   have h1:=hu x (by simp)
   refine ⟨by unfold dj at *;simp only;omega,fun y hy=>?_⟩
   split at hy
   ·exact hu y (by simp at hy ⊢;rcases hy with h | h<;>simp [h])
   ·rename_i jB
    simp only [zX,List.mem_cons] at hy
    rcases hy with hy | rfl | hy
    ·exact hu y (by simp [hy])
    ·exact Rj u h1 jB
    ·exact hu y (by simp [hy])
  ·split<;>simp
theorem oh {fr en:Int}:∀(l acc:List Xt),(acc++l).Pairwise dj→(∀y∈acc++l,lX fr en y) →
  (gP acc l).Pairwise dj∧(∀y∈gP acc l,lX fr en y)∧∀u:Xt,0<u.2→(∀y∈acc++l,dj u y)→∀y∈gP acc l,dj u y
 | [],acc,h1,h2=>by
  rw [List.append_nil] at h1 h2
  exact ⟨h1,h2,fun u _ hu=>by rw [List.append_nil] at hu;exact hu⟩
 | x::l,acc,h1,h2=>by
  have e:gP acc (x::l)=gP (jG acc x) l:=rfl
  rw [e]
  have plain:acc++x::l=acc++[x]++l:=by simp
  rcases List.eq_nil_or_concat acc with rfl | ⟨init,y,rfl⟩
  ·have e2:jG [] x=[x]:=rfl
   rw [e2]
   exact oh l [x] h1 h2
  ·have e2:jG (init++[y]) x=if y.1+y.2=x.1 then init++[(y.1,y.2+x.2)] else init++[y]++[x]:=by
    unfold jG
    simp
   rw [List.concat_eq_append] at *
   rw [e2]
   split
   ·rename_i hj
    have hx:=h2 x (by simp)
    have hy:=h2 y (by simp)
    unfold lX at hx hy
    simp only [List.append_assoc,List.singleton_append,List.cons_append,List.nil_append,List.pairwise_append,List.pairwise_cons,List.mem_cons] at h1
    obtain ⟨q1,⟨q2,q3,q4⟩,q5⟩:=h1
    have un:∀u:Xt,0<u.2→dj u y→dj u x→dj u (y.1,y.2+x.2):=fun u h0 a b=>by unfold dj at *;simp only;omega
    have inw:∀w,w∈init∨w∈l→0<w.2:=fun w hw=>by
     have:=h2 w (by rcases hw with h | h<;>simp [h])
     unfold lX at this;omega
    obtain ⟨r1,r2,r3⟩:=oh l (init++[(y.1,y.2+x.2)]) (by
     rw [List.append_assoc,List.pairwise_append]
     refine ⟨q1,?_,?_⟩
     ·rw [List.singleton_append,List.pairwise_cons]
      exact ⟨fun w hw=>mV (un w (inw w (.inr hw)) (mV (q2 w (.inr hw))) (mV (q3 w hw))),q4⟩
     ·intro a ha b hb
      simp only [List.singleton_append,List.mem_cons] at hb
      rcases hb with rfl | hb
      ·exact un a (inw a (.inl ha)) (q5 a ha y (.inl rfl)) (q5 a ha x (.inr (.inl rfl)))
      ·exact q5 a ha b (.inr (.inr hb))) (by
     intro w hw
     simp only [List.append_assoc,List.singleton_append,zX,List.mem_cons] at hw
     rcases hw with hw | rfl | hw
     ·exact h2 w (by simp [hw])
     ·unfold lX;simp only;omega
     ·exact h2 w (by simp [hw]))
    refine ⟨r1,r2,fun u h0 hu=>r3 u h0 fun w hw=>?_⟩
    simp only [List.append_assoc,List.singleton_append,zX,List.mem_cons] at hw
    rcases hw with hw | rfl | hw
    ·exact hu w (by simp [hw])
    ·exact un u h0 (hu y (by simp)) (hu x (by simp))
    ·exact hu w (by simp [hw])
   ·rw [plain] at h1 h2
    rw [plain]
    exact oh l (init++[y]++[x]) h1 h2
theorem uF:∀(l:List Xt) (a:Int),behind l a<l.length→a<(l.getD (behind l a) (0,0)).1+(l.getD (behind l a) (0,0)).2
 | [],_,h=>by cases h
 | x::l,a,h=>by
  unfold behind at h ⊢
  split
  ·simpa using by assumption
  ·rename_i hh
   rw [if_neg hh] at h
   have:=uF l a (by simpa using h)
   simpa using this
theorem z9 {fr en:Int} {fl:List Xt} {x:Xt} (h0:0≤fr∧fr%8=0∧en≤16384) (hf:∀y∈fl,lX fr en y) (hp:fl.Pairwise dj) (hx:lX fr en x) (hd:∀y∈fl,dj x y) :
  ∃tW,tV fr en fl x.1 x.2=some tW∧(∀y∈tW,lX fr en y)∧tW.Pairwise dj∧(∀u:Xt,0<u.2→dj u x→(∀y∈fl,dj u y)→∀y∈tW,dj u y)∧tW.length≤fl.length+1:=by
 have hb:=qv fl x.1
 unfold tV
 have sE:fr≤x.1∧8≤x.2∧x.1+x.2≤en∧x.1%8=0∧x.2%8=0:=hx
 rw [if_neg (by omega)]
 rw [if_neg (by
  rintro ⟨k1,k2⟩
  have k3:=uF fl x.1 k1
  have hm:fl.getD (behind fl x.1) (0,0)∈fl:=by
   rw [zA,zD k1];exact List.getElem_mem k1
  have:=hd _ hm
  unfold dj at this
  omega)]
 have DV:fl=fl.take (behind fl x.1)++fl.drop (behind fl x.1):=(zP _ _).symm
 generalize hA:fl.take (behind fl x.1)=A at *
 generalize hB:fl.drop (behind fl x.1)=B at *
 clear hA hB hb
 subst DV
 rw [List.pairwise_append] at hp
 obtain ⟨p1,p2,p3⟩:=hp
 obtain ⟨r1,r2,r3⟩:=oh (fr:=fr) (en:=en) (A++[x]++B) [] (by
  rw [List.nil_append,List.append_assoc,List.pairwise_append,List.singleton_append,List.pairwise_cons]
  refine ⟨p1,⟨fun y hy=>hd y (by simp [hy]),p2⟩,fun a ha b hb=>?_⟩
  simp only [List.mem_cons] at hb
  rcases hb with rfl | hb
  ·exact mV (hd a (by simp [ha]))
  ·exact p3 a ha b hb) (by
  intro y hy
  simp only [List.nil_append,zX,zF] at hy
  rcases hy with (hy | rfl) | hy
  ·exact hf y (by simp [hy])
  ·exact hx
  ·exact hf y (by simp [hy]))
 refine ⟨_,rfl,r2,r1,fun u h0 hu ye=>r3 u h0 fun y hy=>?_,?_⟩
 ·simp only [List.nil_append,zX,zF] at hy
  rcases hy with (hy | rfl) | hy
  ·exact ye y (by simp [hy])
  ·exact hu
  ·exact ye y (by simp [hy])
 ·have:=rj (A++[x]++B) []
  simp at this ⊢;omega
theorem SI.create {fr en:Int} {l:List dW} {fl:List Xt} (h:SI fr en l fl) (n:Int):SI fr en (bC l fl n).1 (bC l fl n).2.1∧(bC l fl n).2.1.length≤fl.length:=by
 unfold bC
 split
 ·exact ⟨h,Nat.le_refl _⟩
 ·rename_i hn
  have hn:1≤n∧n≤8192:=by rw [←bF];simpa using hn
  cases hf:g_ l with
  | none=>exact ⟨h,Nat.le_refl _⟩
  | some i=>
   simp only
   cases hc:jy fl (rK n) with
   | none=>exact ⟨h,Nat.le_refl _⟩
   | some r=>
    obtain ⟨a,tW⟩:=r
    simp only
    obtain ⟨x,hx,HW⟩:=gW hf
    have hu:=Ii hn
    obtain ⟨c1,c2,c3,c4,c5,c6⟩:=K_ h.fx h.pw ⟨hu.1,hu.2.2.1⟩ hc
    have hi:1≤i:=by
     rcases Nat.eq_zero_or_pos i with rfl | h1
     ·have:=(h.im x hx).1
      rw [this] at HW;cases HW
     ·exact h1
    have hg:=ld hx
    rw [hg]
    have qP:=h.cr i x hx
    have LW:=(zB.1 hx).1
    have key:∀(j:Nat) (y:dW),(l.set i ((1,x.1.2),(a,rK n)))[j]?=some y→(j=i∧y=((1,x.1.2),(a,rK n)))∨(j≠i∧l[j]?=some y):=by
     intro j y hy
     exact getSet hy
    refine ⟨⟨h.Eb,by simpa using h.len,c2,c3,?_,?_,?_,?_,?_⟩,c6⟩
    ·intro j y hy
     rcases key j y hy with ⟨rfl,rfl⟩ | ⟨hj,hy⟩
     ·unfold bf at qP ⊢
      rw [HW] at qP
      simpa using qP
     ·exact h.cr j y hy
    ·intro j y hj hy h0
     rcases key j y hy with ⟨rfl,rfl⟩ | ⟨Nx,hy⟩
     ·exact c1
     ·exact h.ux j y hj hy h0
    ·intro j y hj hy h0 w hw
     rcases key j y hy with ⟨rfl,rfl⟩ | ⟨Nx,hy⟩
     ·exact c4 w hw
     ·exact (c5 _ (h.fu j y hj hy h0)).2 w hw
    ·intro j k y z hj hk hn hy hz h0 h1
     rcases key j y hy with ⟨e1,e2⟩ | ⟨Nx,gy⟩
     ·rcases key k z hz with ⟨e3,e4⟩ | ⟨D0,gz⟩
      ·exact absurd (e1.trans e3.symm) hn
      ·rw [e2];exact mV (c5 _ (h.fu k z hk gz h1)).1
     ·rcases key k z hz with ⟨e3,e4⟩ | ⟨D0,gz⟩
      ·rw [e4];exact (c5 _ (h.fu j y hj gy h0)).1
      ·exact h.uu j k y z hj hk hn gy gz h0 h1
    ·intro y hy
     rcases key 0 y hy with ⟨e,_⟩ | ⟨_,hy⟩
     ·omega
     ·exact h.im y hy
theorem SI.lE {fr en:Int} {l:List dW} {fl:List Xt} (h:SI fr en l fl) (i:Int):SI fr en (bg fr en l fl i).1 (bg fr en l fl i).2.1∧(bg fr en l fl i).2.1.length≤fl.length+1∧((bg fr en l fl i).2.2=0→tV fr en fl (ab l i).2.1 (ab l i).2.2=some (bg fr en l fl i).2.1):=by
 unfold bg
 split
 ·exact ⟨h,Nat.le_succ _,fun h=>by cases h⟩
 ·rename_i hi
  have hi:1≤i∧i<l.length:=by rw [←bX];simpa using hi
  split
  ·exact ⟨h,Nat.le_succ _,fun h=>by cases h⟩
  ·rename_i h0
   split
   ·exact ⟨h,Nat.le_succ _,fun h=>by cases h⟩
   ·rename_i h1
    have hx:=iX (l:=l) (i:=i) (by omega) hi.2
    have qP:=h.cr _ _ hx
    generalize Qz:ab l i=x at *
    have qO:=h.ux _ x (by omega) hx (by omega)
    obtain ⟨tW,g1,g2,g3,g4,g5⟩:=z9 h.Eb h.fx h.pw qO (h.fu _ x (by omega) hx (by omega))
    rw [g1]
    simp only [Option.getD_some]
    have key:∀(j:Nat) (y:dW),(l.set i.toNat ((0,0,-1,b6 x.1.2.2.2),(0,0)))[j]?=some y→(j=i.toNat∧y=((0,0,-1,b6 x.1.2.2.2),(0,0)))∨(j≠i.toNat∧l[j]?=some y):=by
     intro j y hy
     exact getSet hy
    refine ⟨⟨h.Eb,by simpa using h.len,g2,g3,?_,?_,?_,?_,?_⟩,g5,fun _=>by simp⟩
    ·intro j y hy
     rcases key j y hy with ⟨rfl,rfl⟩ | ⟨hj,hy⟩
     ·have:=ss (e:=x.1.2.2.2)
      unfold bf
      simp [bF,this]
     ·exact h.cr j y hy
    ·intro j y hj hy h0
     rcases key j y hy with ⟨rfl,rfl⟩ | ⟨Nx,hy⟩
     ·exact absurd rfl h0
     ·exact h.ux j y hj hy h0
    ·intro j y hj hy h0 w hw
     rcases key j y hy with ⟨rfl,rfl⟩ | ⟨Nx,hy⟩
     ·exact absurd rfl h0
     ·have hy2:=h.ux j y hj hy h0
      unfold lX at hy2
      exact g4 _ (by omega) (h.uu _ _ _ _ hj (by omega) Nx hy hx h0 (by omega)) (h.fu j y hj hy h0) w hw
    ·intro j k y z hj hk hn hy hz h0 h1
     rcases key j y hy with ⟨rfl,rfl⟩ | ⟨Nx,hy⟩
     ·exact absurd rfl h0
     ·rcases key k z hz with ⟨rfl,rfl⟩ | ⟨D0,hz⟩
      ·exact absurd rfl h1
      ·exact h.uu j k y z hj hk hn hy hz h0 h1
    ·intro y hy
     rcases key 0 y hy with ⟨e,_⟩ | ⟨_,hy⟩
     ·omega
     ·exact h.im y hy
end Go.jJ
namespace Go.Proofs.YtihiooaimdoapaaGreat
open Go.Bm Go.jJ
def mM (r1:T1) (r2:T2) (r3:T3) (r4:T4) (sc:Nat) (fr en:Int) (l:List dW) (fl:List Xt):Prop:=∃j gr,r1[sc]?=some (some j,some gr)∧aD r3 j=some l∧oJ r2 r4 gr fr en fl
theorem vi {d x:dW} {l:List dW} {i:Int} {f:dW→dW} (h:f (nth d l (nN i))=x):aw d l (nN i) f=l.set i.toNat x:=by
 unfold aw aU;rw [h];rfl
theorem TU {l:List dW} (f i:Int) (hl:l.length≤1000):within i f (aK IntKind.i64 (zN (len l)) 1)=lb l f i:=by
 rw [cF,bB,aN (by omega)];rfl
theorem rV {r1:T1} {r2:T2} {r3:T3} {r4:T4} {sc:Nat} {fr en:Int} {l:List dW} {fl:List Xt} (h:mM r1 r2 r3 r4 sc fr en l fl) (i:Int) (hl:l.length≤1000) :
  g.cm sc i r1 r2 r3 r4=some (((kq l i).1,((kq l i).2,())),()):=by
 obtain ⟨j,gr,h1,h3,_⟩:=h
 have e1:∀d,nth d r1 sc=(some j,some gr):=fun d=>bj h1
 have hw:=TU 0 i hl
 unfold g.cm kq
 simp only [e1]
 repeat refine HS ?_
 cases hb:lb l 0 i with
 | false=>
  refine Eq.trans (uR (hw.trans hb)) ?_
  rfl
 | true=>
  refine Eq.trans (oG (hw.trans hb)) ?_
  rw [bX] at hb
  repeat refine HS ?_
  rfl
theorem A0 {r1:T1} {r2:T2} {r3:T3} {r4:T4} {sc:Nat} {fr en:Int} {l:List dW} {fl:List Xt} (h:mM r1 r2 r3 r4 sc fr en l fl) (i:Int) (hl:l.length≤1000) :
  g.gS sc i r1 r2 r3 r4=some (((ph l i).1,((ph l i).2,())),()):=by
 obtain ⟨j,gr,h1,h3,_⟩:=h
 have e1:∀d,nth d r1 sc=(some j,some gr):=fun d=>bj h1
 have hw:=TU 0 i hl
 unfold g.gS ph
 simp only [e1]
 repeat refine HS ?_
 cases hb:lb l 0 i with
 | false=>
  refine Eq.trans (uR (hw.trans hb)) ?_
  rfl
 | true=>
  refine Eq.trans (oG (hw.trans hb)) ?_
  rw [bX] at hb
  repeat refine HS ?_
  rfl
theorem mM.put {r1:T1} {r2:T2} {r3:T3} {r4:T4} {sc:Nat} {fr en:Int} {l l':List dW} {fl:List Xt} {j gr:Nat} (h1:r1[sc]?=some (some j,some gr)) (h3:aD r3 j=some l) (hg:oJ r2 r4 gr fr en fl):mM r1 r2 (aU r3 j (some l')) r4 sc fr en l' fl:=
 ⟨j,gr,h1,aC h3,hg⟩
theorem Dk {r1:T1} {r2:T2} {r3:T3} {r4:T4} {sc:Nat} {fr en:Int} {l:List dW} {fl:List Xt} (h:mM r1 r2 r3 r4 sc fr en l fl) (i f:Int) (hl:l.length≤1000) :
  ∃Bt,g.ic sc i f r1 r2 r4 r3=some (((cS l i (fun c=>bS c f)).2,()),(Bt,()))∧mM r1 r2 Bt r4 sc fr en (cS l i (fun c=>bS c f)).1 fl:=by
 have h':=h
 obtain ⟨j,gr,h1,h3,hg⟩:=h
 have e1:∀d,nth d r1 sc=(some j,some gr):=fun d=>bj h1
 have hw:=TU 1 i hl
 unfold g.ic cS
 simp only [e1]
 cases hb:lb l 1 i with
 | false=>
  refine ⟨r3,?_,h'⟩
  repeat refine HS ?_
  refine Eq.trans (uR (hw.trans hb)) ?_
  rfl
 | true=>
  have xx:=bX.1 hb
  by_cases h0:(bS (ab l i).1 f).2=0
  ·refine ⟨aU r3 j (some (l.set i.toNat ((bS (ab l i).1 f).1,(ab l i).2))),?_,?_⟩
   rotate_left
   ·rw [if_pos rfl,if_pos h0];exact mM.put h1 h3 hg
   ·repeat refine HS ?_
    refine Eq.trans (oG (hw.trans hb)) ?_
    repeat refine HS ?_
    refine nK (uD (ab l i).1 f) ?_
    refine Eq.trans (ak h0) ?_
    repeat refine HS ?_
    rw [if_pos rfl,if_pos h0,vi (x:=((bS (ab l i).1 f).1,(ab l i).2)) rfl]
    simp only [h0]
  ·refine ⟨r3,?_,?_⟩
   rotate_left
   ·rw [if_pos rfl,if_neg h0];exact h'
   ·repeat refine HS ?_
    refine Eq.trans (oG (hw.trans hb)) ?_
    repeat refine HS ?_
    refine nK (uD (ab l i).1 f) ?_
    refine Eq.trans (ao h0) ?_
    rw [if_pos rfl,if_neg h0]
theorem Gm {r1:T1} {r2:T2} {r3:T3} {r4:T4} {sc:Nat} {fr en:Int} {l:List dW} {fl:List Xt} (h:mM r1 r2 r3 r4 sc fr en l fl) (i:Int) (hl:l.length≤1000) :
  ∃Bt,g.fq sc i r1 r2 r4 r3=some (((cS l i eJ).2,()),(Bt,()))∧mM r1 r2 Bt r4 sc fr en (cS l i eJ).1 fl:=by
 have h':=h
 obtain ⟨j,gr,h1,h3,hg⟩:=h
 have e1:∀d,nth d r1 sc=(some j,some gr):=fun d=>bj h1
 have hw:=TU 1 i hl
 unfold g.fq cS
 simp only [e1]
 cases hb:lb l 1 i with
 | false=>
  refine ⟨r3,?_,h'⟩
  repeat refine HS ?_
  refine Eq.trans (uR (hw.trans hb)) ?_
  rfl
 | true=>
  have xx:=bX.1 hb
  by_cases h0:(eJ (ab l i).1).2=0
  ·refine ⟨aU r3 j (some (l.set i.toNat ((eJ (ab l i).1).1,(ab l i).2))),?_,?_⟩
   rotate_left
   ·rw [if_pos rfl,if_pos h0];exact mM.put h1 h3 hg
   ·repeat refine HS ?_
    refine Eq.trans (oG (hw.trans hb)) ?_
    repeat refine HS ?_
    refine nK (wH (ab l i).1) ?_
    refine Eq.trans (ak h0) ?_
    repeat refine HS ?_
    rw [if_pos rfl,if_pos h0,vi (x:=((eJ (ab l i).1).1,(ab l i).2)) rfl]
    simp only [h0]
  ·refine ⟨r3,?_,?_⟩
   rotate_left
   ·rw [if_pos rfl,if_neg h0];exact h'
   ·repeat refine HS ?_
    refine Eq.trans (oG (hw.trans hb)) ?_
    repeat refine HS ?_
    refine nK (wH (ab l i).1) ?_
    refine Eq.trans (ao h0) ?_
    rw [if_pos rfl,if_neg h0]
theorem Dj {r1:T1} {r2:T2} {r3:T3} {r4:T4} {sc:Nat} {fr en:Int} {l:List dW} {fl:List Xt} (h:mM r1 r2 r3 r4 sc fr en l fl) (i:Int) (hl:l.length≤1000) :
  ∃Bt,g.dH sc i r1 r2 r4 r3=some (((jm l i).2.1,((jm l i).2.2,())),(Bt,()))∧mM r1 r2 Bt r4 sc fr en (jm l i).1 fl:=by
 have h':=h
 obtain ⟨j,gr,h1,h3,hg⟩:=h
 have e1:∀d,nth d r1 sc=(some j,some gr):=fun d=>bj h1
 have hw:=TU 1 i hl
 unfold g.dH
 simp only [e1]
 cases hb:lb l 1 i with
 | false=>
  have e:jm l i=(l,false,11):=by unfold jm cS;rw [hb];rfl
  rw [e]
  refine ⟨r3,?_,h'⟩
  repeat refine HS ?_
  refine Eq.trans (uR (hw.trans hb)) ?_
  rfl
 | true=>
  have xx:=bX.1 hb
  by_cases h0:(bG (ab l i).1).2=0
  ·have eu:cS l i bG=(l.set i.toNat ((bG (ab l i).1).1,(ab l i).2),0):=by unfold cS;rw [hb,if_pos rfl,if_pos h0]
   have e:jm l i=(l.set i.toNat ((bG (ab l i).1).1,(ab l i).2),decide ((bG (ab l i).1).1.1=3),0):=by
    unfold jm
    rw [eu,if_pos rfl]
    have:ab (l.set i.toNat ((bG (ab l i).1).1,(ab l i).2)) i=((bG (ab l i).1).1,(ab l i).2):=by
     have hi:i=((i.toNat:Nat):Int):=by omega
     conv=>lhs;arg 2;rw [hi]
     exact ld (by rw [List.getElem?_set,if_pos rfl,if_pos (by omega)])
    simp only [this]
   rw [e]
   refine ⟨_,?_,mM.put h1 h3 hg⟩
   have h4:aD (aU r3 j (some (l.set i.toNat ((bG (ab l i).1).1,(ab l i).2)))) j=some (l.set i.toNat ((bG (ab l i).1).1,(ab l i).2)):=aC h3
   repeat refine HS ?_
   refine Eq.trans (oG (hw.trans hb)) ?_
   repeat refine HS ?_
   refine nK (uC (ab l i).1) ?_
   refine Eq.trans (ak h0) ?_
   repeat refine HS ?_
   try refine Eq.trans (ak h0) ?_
   rw [vi (x:=((bG (ab l i).1).1,(ab l i).2)) rfl]
   have hlen:(l.set i.toNat ((bG (ab l i).1).1,(ab l i).2)).length=l.length:=zM
   repeat refine HS ?_
   have hn:nth ((0,(0,(0,0))),(0,0)) (l.set i.toNat ((bG (ab l i).1).1,(ab l i).2)) (nN i)=((bG (ab l i).1).1,(ab l i).2):=bj (by show (l.set i.toNat _)[i.toNat]?=_;rw [List.getElem?_set,if_pos rfl,if_pos (by omega)])
   rw [hn]
   rfl
  ·have eu:cS l i bG=(l,(bG (ab l i).1).2):=by unfold cS;rw [hb,if_pos rfl,if_neg h0]
   have e:jm l i=(l,false,(bG (ab l i).1).2):=by
    unfold jm
    rw [eu,if_neg h0]
   rw [e]
   refine ⟨r3,?_,h'⟩
   repeat refine HS ?_
   refine Eq.trans (oG (hw.trans hb)) ?_
   repeat refine HS ?_
   refine nK (uC (ab l i).1) ?_
   refine Eq.trans (ao h0) ?_
   repeat refine HS ?_
   try refine Eq.trans (ao h0) ?_
   rfl
theorem pP (d1:T3) (l:List dW) (j:Nat) (v2) (hj:aD d1 j=some l) (hl:l.length≤1000) :
  loop (g.dX d1 l j v2) ((0,()),((),((),((),()))))=v2 (((match g_ l with | some i=>(i:Int) | none=>-1),()),((),((),((),())))):=by
 refine (dJ (fun k=>((((k:Nat):Int),()),((),((),((),()))))) (fun k=>v2 (((match g_ (l.drop k) with | some i=>((k+i:Nat):Int) | none=>-1),()),((),((),((),()))))) l.length (by unfold lG;omega) (fun K=>?_) (fun k hk=>?_)).trans ?_
 ·simp (disch:=omega) only [g.dX,↓bZ,↓bY,↓b7,↓b8,↓b_,↓b9,zE,aZ,a7,a4,ba,ak,ao,bJ,a8,aO,a9,bc,bh,↓cP,aG,aN,a5,bP,bU,aT,a_,cF,bB,cQ,cM,aY,aF]
  rw [List.drop_of_length_le (by omega)]
  rfl
 ·rw [B6 l k hk]
  have e:nth ((0,(0,(0,0))),(0,0)) l k=l[k]:=gE hk
  by_cases he:l[k].1.1=0
  ·refine .inl (fun K=>?_)
   simp (disch:=omega) only [g.dX,↓bZ,↓bY,↓b7,↓b8,↓b_,↓b9,zE,aZ,a7,a4,ba,ak,ao,bJ,a8,aO,a9,bc,bh,↓cP,aG,aN,a5,bP,bU,aT,a_,cF,bB,cQ,cM,aY,aF,hj,e]
   rw [if_pos he];rfl
  ·refine .inr ⟨?_,fun K=>?_⟩
   ·rw [if_neg he]
    cases g_ (l.drop (k+1)) with
    | none=>rfl
    | some i=>simp only [Option.map_some];congr 3;omega
   ·simp (disch:=omega) only [g.dX,↓bZ,↓bY,↓b7,↓b8,↓b_,↓b9,zE,aZ,a7,a4,ba,ak,ao,bJ,a8,aO,a9,bc,bh,↓cP,aG,aN,a5,bP,bU,aT,a_,cF,bB,cQ,cM,aY,aF,hj,e]
    rfl
 ·simp
theorem OB {r2:T2} {r4:T4} {gr:Nat} {fr en:Int} {l:List Xt} (h:oJ r2 r4 gr fr en l) {n:Int} (hn:1≤n∧n≤65536∧n%8=0) (hx:∀x∈l,lI x) (hl:l.length≤10000) :
  (jy l n=none∧g.dn gr n r2 r4=some ((0,(false,())),(r2,(r4,()))))∨∃a l' mK mJ,jy l n=some (a,l')∧g.dn gr n r2 r4=some ((a,(true,())),(mK,(mJ,())))∧oJ mK mJ gr fr en l':=by
 unfold jy
 cases hb:jz l n with
 | none=>exact .inl ⟨rfl,EF h hn hl hb⟩
 | some i=>
  obtain ⟨mK,mJ,k1,k2⟩:=EE h hn hx hl hb
  exact .inr ⟨_,_,mK,mJ,rfl,k1,k2⟩
theorem A5 {r1:T1} {r2:T2} {r3:T3} {r4:T4} {sc:Nat} {fr en:Int} {l:List dW} {fl:List Xt} (h:mM r1 r2 r3 r4 sc fr en l fl) (n:Int) (hx:∀x∈fl,lI x) (AJ:fl.length≤10000) (hl:l.length≤1000) :
  ∃mK Bt mJ,g.gT sc n r1 r2 r3 r4=some (((bC l fl n).2.2.1,((bC l fl n).2.2.2,())),(mK,(Bt,(mJ,()))))∧mM r1 mK Bt mJ sc fr en (bC l fl n).1 (bC l fl n).2.1:=by
 have h':=h
 obtain ⟨j,gr,h1,h3,hg⟩:=h
 have e1:∀d,nth d r1 sc=(some j,some gr):=fun d=>bj h1
 unfold g.gT bC
 simp only [e1]
 cases hw:within n 1 8192 with
 | false=>
  refine ⟨r2,r3,r4,?_,h'⟩
  repeat refine HS ?_
  try refine Eq.trans (uR hw) ?_
  rfl
 | true=>
  have hn:=bF.1 hw
  have hu:=Ii hn
  simp only [Bool.true_eq_false,if_false]
  cases hf:g_ l with
  | none=>
   refine ⟨r2,r3,r4,?_,h'⟩
   repeat refine HS ?_
   try refine Eq.trans (oG hw) ?_
   repeat refine HS ?_
   refine Eq.trans (pP r3 l j _ h3 hl) ?_
   rw [hf]
   repeat refine HS ?_
   rfl
  | some i=>
   obtain ⟨x,Qz,_⟩:=gW hf
   have hi:=(zB.1 Qz).1
   have hc:=OB hg (n:=rK n) (by omega) hx AJ
   rcases hc with ⟨k1,k2⟩ | ⟨a,tW,mK,mJ,k1,k2,k3⟩
   ·rw [k1]
    refine ⟨r2,r3,r4,?_,h'⟩
    repeat refine HS ?_
    try refine Eq.trans (oG hw) ?_
    repeat refine HS ?_
    refine Eq.trans (pP r3 l j _ h3 hl) ?_
    rw [hf]
    repeat refine HS ?_
    refine nK (vR (by omega)) ?_
    repeat refine HS ?_
    rfl
   ·rw [k1]
    simp only
    refine ⟨mK,aU r3 j (some (l.set i ((1,(ab l i).1.2),(a,rK n)))),mJ,?_,⟨j,gr,h1,aC h3,k3⟩⟩
    have hq:aD (aU r3 j (some (aw ((0,(0,(0,0))),(0,0)) l (nN (i:Int)) (fun jf=>((1,jf.1.2),jf.2))))) j=some (aw ((0,(0,(0,0))),(0,0)) l (nN (i:Int)) (fun jf=>((1,jf.1.2),jf.2))):=aC h3
    repeat refine HS ?_
    try refine Eq.trans (oG hw) ?_
    repeat refine HS ?_
    refine Eq.trans (pP r3 l j _ h3 hl) ?_
    rw [hf]
    dsimp only
    repeat refine HS ?_
    refine nK (vR (by omega)) ?_
    repeat refine HS ?_
    refine Eq.trans (aZ (by
     show ((i:Nat):Int)<((List.set l _ _).length:Int)
     rw [zM];omega)) ?_
    repeat refine HS ?_
    have e2:aw ((0,(0,(0,0))),(0,0)) (aw ((0,(0,(0,0))),(0,0)) l (nN (i:Int)) (fun jf=>((1,jf.1.2),jf.2))) (nN (i:Int)) (fun qI=>(qI.1,(a,rK n)))=l.set i ((1,(ab l i).1.2),(a,rK n)):=by
     have e3:nN (i:Int)=i:=rfl
     unfold aw
     rw [e3,sn hi]
     simp only [aU,List.set_set]
     rfl
    have e4:∀x y:Option (List dW),aU (aU r3 j x) j y=aU r3 j y:=fun x y=>by simp only [aU,List.set_set]
    rw [e4]
    exact congrArg (fun z=>some ((((i:Int)),((0:Int),())),(mK,(aU r3 j (some z),(mJ,()))))) e2
theorem yL {r1:T1} {r2:T2} {r3:T3} {r4:T4} {sc:Nat} {fr en:Int} {l:List dW} {fl:List Xt} (h:mM r1 r2 r3 r4 sc fr en l fl) (hs:SI fr en l fl) (i:Int) (AJ:fl.length≤10000) :
  ∃mK Bt mJ,g.gJ sc i r1 r2 r3 r4=some (((bg fr en l fl i).2.2,()),(mK,(Bt,(mJ,()))))∧mM r1 mK Bt mJ sc fr en (bg fr en l fl i).1 (bg fr en l fl i).2.1:=by
 have h':=h
 have hl:=hs.len.2
 have Ny:=(hs.lE i).2.2
 obtain ⟨j,gr,h1,h3,hg⟩:=h
 have e1:∀d,nth d r1 sc=(some j,some gr):=fun d=>bj h1
 have hw:=TU 1 i (by omega:l.length≤1000)
 unfold g.gJ
 unfold bg at Ny ⊢
 simp only [e1]
 cases hb:lb l 1 i with
 | false=>
  refine ⟨r2,r3,r4,?_,h'⟩
  repeat refine HS ?_
  refine Eq.trans (uR (hw.trans hb)) ?_
  repeat refine HS ?_
  rfl
 | true=>
  have xx:=bX.1 hb
  rw [hb] at Ny
  simp only [Bool.true_eq_false,if_false] at Ny ⊢
  by_cases h0:(ab l i).1.1=0
  ·rw [if_pos h0]
   refine ⟨r2,r3,r4,?_,h'⟩
   repeat refine HS ?_
   refine Eq.trans (oG (hw.trans hb)) ?_
   repeat refine HS ?_
   refine Eq.trans (ak h0) ?_
   rfl
  ·rw [if_neg h0] at Ny ⊢
   by_cases h2:(ab l i).1.1=1
   ·rw [if_neg (by simpa using h2)] at Ny ⊢
    obtain ⟨flg,g1,_⟩:=z9 hs.Eb hs.fx hs.pw (hs.ux i.toNat (ab l i) (by omega) (iX (by omega) xx.2) h0) (hs.fu i.toNat (ab l i) (by omega) (iX (by omega) xx.2) h0)
    clear Ny
    rw [g1]
    simp only [Option.getD_some]
    have hx:=hs.ux i.toNat (ab l i) (by omega) (iX (by omega) xx.2) h0
    unfold lX at hx
    have mz:=hs.Eb
    have ae1:=TB hg (by omega) (a:=(ab l i).2.1) (n:=(ab l i).2.2) (by omega) (by omega) (fun x hx=>(hs.fx x hx).ok hs.Eb) AJ g1
    obtain ⟨mK,mJ,k1,k2⟩:=ae1
    refine ⟨mK,aU r3 j (some (l.set i.toNat ((0,0,-1,b6 (ab l i).1.2.2.2),(0,0)))),mJ,?_,⟨j,gr,h1,aC h3,k2⟩⟩
    repeat refine HS ?_
    refine Eq.trans (oG (hw.trans hb)) ?_
    repeat refine HS ?_
    refine Eq.trans (ao h0) ?_
    repeat refine HS ?_
    refine Eq.trans (ak h2) ?_
    repeat refine HS ?_
    refine nK k1 ?_
    repeat refine HS ?_
    have hc:=hs.cr i.toNat (ab l i) (iX (by omega) xx.2)
    have he:bits BinOp.and IntKind.i64 (af IntKind.i64 (nth ((0,(0,(0,0))),(0,0)) l (nN i)).1.2.2.2 1) 16777215=b6 (ab l i).1.2.2.2:=by
     have hr:0≤(ab l i).1.2.2.2∧(ab l i).1.2.2.2≤16777215:=by
      unfold bf at hc
      simp only [zC,bF] at hc
      exact hc.1
     show bits BinOp.and IntKind.i64 (af IntKind.i64 (ab l i).1.2.2.2 1) 16777215=_
     rw [aG (by omega),lH 24 (by omega) (by decide)]
     rfl
    rw [he]
    rfl
   ·rw [if_pos (by simpa using h2)]
    refine ⟨r2,r3,r4,?_,h'⟩
    repeat refine HS ?_
    refine Eq.trans (oG (hw.trans hb)) ?_
    repeat refine HS ?_
    refine Eq.trans (ao h0) ?_
    repeat refine HS ?_
    refine Eq.trans (ao h2) ?_
    rfl
end Go.Proofs.YtihiooaimdoapaaGreat
namespace Go.jJ
open Go.Bm
structure jK where
 ref:iV
 tag:Int
 aS:List Int
 done:Bool
structure mG where
 used:Int
 gate:Int
 aX:List jK
structure yD where
 dc:List Int
 aA:List cR
structure M where
 p:rM
 f:List (List h_)
 sc:List dW
 fl:List Xt
 ar:List mG
 th:List yD
def oP:mG:=⟨0,0,[]⟩
def M.fr (m:M):Int:=m.p.1*64+m.p.2.2.1
def M.en (m:M):Int:=m.p.1*64+m.p.2.2.1+m.p.2.2.2
def M.bm (m:M) (i:Int):mG:=m.ar.getD i.toNat oP
def M.ax (m:M) (i:Int):yD:=m.th.getD i.toNat ⟨[],[]⟩
def M.cK (m:M) (i:Int) (a:mG):M:={ m with ar:=m.ar.set i.toNat a }
def M.gp (m:M) (i:Int) (t:yD):M:={ m with th:=m.th.set i.toNat t }
def M.c_ (m:M) (n r:Int):Int:=(m.ax n).dc.getD r.toNat 0
def M.fV (m:M) (n r v:Int):M:=m.gp n ⟨(m.ax n).dc.set r.toNat v,(m.ax n).aA⟩
def M.cD (m:M) (n:Int) (l:List cR):M:=m.gp n ⟨(m.ax n).dc,l⟩
def M.find (m:M) (r:iV):Option jK:=(m.bm r.1).aX.find? fun o=>decide (o.ref=r)
def M.check (m:M) (aA:List cR) (h:Int):Option jK×Int:=
 if (au h).2≠0∨m.p.1≤(au h).1.1 then (none,18)
 else if reach aA (au h).1.1=false then (none,20)
 else if (kq m.sc (au h).1.1).1.2.2.2≠(au h).1.2.1 then (none,19)
 else match m.find (au h).1 with
  | none=>(none,18)
  | some o=>(some o,0)
def M.setObj (m:M) (r:iV) (g:jK→jK):M:={ m with ar:=m.ar.map fun a=>{ a with aX:=a.aX.map fun o=>if o.ref=r then g o else o } }
def ev (f:List (List h_)) (t:Int):List h_:=if 0≤t then f.getD t.toNat [] else []
def dV (f:List (List h_)) (o:jK):jK×List Int×Int×Bool:=
 if o.done=true∨ev f o.tag=[] then (o,[],0,false)
 else ({ o with aS:=(fZ (ev f o.tag) o.aS).1,done:=true },(fZ (ev f o.tag) o.aS).2.1,1,(fZ (ev f o.tag) o.aS).2.2.1)
def bM (f:List (List h_)):List jK→List jK×List Int×Int×Bool
 | []=>([],[],0,false)
 | o::l=>((dV f o).1::(bM f l).1,(bM f l).2.1++(dV f o).2.1,(bM f l).2.2.1+(dV f o).2.2.1,(bM f l).2.2.2 || (dV f o).2.2.2)
def push (l:List cR) (e:cR):List cR×Int:=if 6≤l.length then ([],24) else (l++[e],0)
abbrev Out:=M×L9
def M.code (m:M) (e:Int):Out:=(m,(e,0,[]))
def M.QQ (m:M) (n r v:Int):Out:=(m.fV n r v,(0,kU .i64 v,[]))
def M.put (m:M) (aA:List cR) (v:Int) (scope:Int) (to:M):Out:=
 if v=0 then to.code 0
 else if (m.check aA v).2≠0 then m.code (m.check aA v).2
 else match (m.check aA v).1 with
  | none=>m.code 18
  | some o=>if nL aA o.ref.1 scope=false then m.code 22 else to.code 0
def M.enter (m:M) (n a:Int):Out:=
 if within a 1 (m.p.1-1)=false then m.code 11
 else if (push (m.ax n).aA (a,true)).2≠0 then m.code (push (m.ax n).aA (a,true)).2
 else if (cS m.sc a (fun c=>bS c (db (m.ax n).aA))).2≠0 then m.code (cS m.sc a (fun c=>bS c (db (m.ax n).aA))).2
 else M.code ({ m with sc:=(cS m.sc a (fun c=>bS c (db (m.ax n).aA))).1 }.cD n (push (m.ax n).aA (a,true)).1) 0
def M.lr (m:M) (n a:Int):Out:=
 if within a 0 (m.p.1-1)=false then m.code 11
 else if reach (m.ax n).aA a=false then m.code 20
 else if (push (m.ax n).aA (a,false)).2≠0 then m.code (push (m.ax n).aA (a,false)).2
 else M.code (m.cD n (push (m.ax n).aA (a,false)).1) 0
def M.leave (m:M) (n s:Int) (l:List cR) (a:L9):Out:=
 if (jm m.sc s).2.1=true then (({ m with sc:=(cS (jm m.sc s).1 s eJ).1 }.cK s oP).cD n l,a)
 else ({ m with sc:=(jm m.sc s).1 }.cD n l,a)
def M.exit (m:M) (n:Int):Out:=
 match (m.ax n).aA.getLast? with
 | none=>m.code 23
 | some x=>
  if x.2=false then M.code (m.cD n (m.ax n).aA.dropLast) 0
  else if (kq m.sc x.1).1.2.1=1 then
   (if (bM m.f (m.bm x.1).aX).2.2.2=true then
    (m.cK x.1 { m.bm x.1 with aX:=(bM m.f (m.bm x.1).aX).1 },(25,(bM m.f (m.bm x.1).aX).2.2.1,(bM m.f (m.bm x.1).aX).2.1))
   else (m.cK x.1 { m.bm x.1 with aX:=(bM m.f (m.bm x.1).aX).1 }).leave n x.1 (m.ax n).aA.dropLast (0,(bM m.f (m.bm x.1).aX).2.2.1,(bM m.f (m.bm x.1).aX).2.1))
  else m.leave n x.1 (m.ax n).aA.dropLast (0,0,[])
def M.ra (m:M) (n:Int):iV:=(db (m.ax n).aA,(kq m.sc (db (m.ax n).aA)).1.2.2.2,(ph m.sc (db (m.ax n).aA)).1.1+(m.bm (db (m.ax n).aA)).used)
def M.alloc (m:M) (n r a b c:Int):Out:=
 if (bo a b).2≠0∨within c 0 7=false then m.code 1
 else if (ph m.sc (db (m.ax n).aA)).1.2<(m.bm (db (m.ax n).aA)).used+(bo a b).1*8 then m.code 17
 else (m.cK (db (m.ax n).aA) ⟨(m.bm (db (m.ax n).aA)).used+(bo a b).1*8,(m.bm (db (m.ax n).aA)).gate,
   (m.bm (db (m.ax n).aA)).aX++[⟨m.ra n,c,List.replicate a.toNat 0,false⟩]⟩).QQ n r (iT (m.ra n)).1
def M.load (m:M) (n r h b:Int):Out:=
 if (m.check (m.ax n).aA (m.c_ n h)).2≠0 then m.code (m.check (m.ax n).aA (m.c_ n h)).2
 else match (m.check (m.ax n).aA (m.c_ n h)).1 with
  | none=>m.code 18
  | some o=>if within b 0 ((o.aS.length:Int)-1)=false then m.code 21 else m.QQ n r (o.aS.getD b.toNat 0)
def M.store (m:M) (n h v b:Int):Out:=
 if (m.check (m.ax n).aA (m.c_ n h)).2≠0 then m.code (m.check (m.ax n).aA (m.c_ n h)).2
 else match (m.check (m.ax n).aA (m.c_ n h)).1 with
  | none=>m.code 18
  | some o=>if within b 0 ((o.aS.length:Int)-1)=false then m.code 21
   else m.put (m.ax n).aA (m.c_ n v) o.ref.1 (m.setObj o.ref fun o=>{ o with aS:=o.aS.set b.toNat (m.c_ n v) })
def M.gm (m:M) (n r a:Int):Out:=
 if within a 1 (m.p.1-1)=false then m.code 11
 else if reach (m.ax n).aA a=false then m.code 20
 else m.QQ n r (m.bm a).gate
def M.gate (m:M) (n v a:Int):Out:=
 if within a 1 (m.p.1-1)=false then m.code 11
 else if reach (m.ax n).aA a=false then m.code 20
 else m.put (m.ax n).aA (m.c_ n v) a (m.cK a { m.bm a with gate:=m.c_ n v })
def M.act (m:M) (n:Int):oZ→Out
 | (op,r,h,v,a,b,c)=>
  if op=0 then m.code 0
  else if op=1 then M.code (m.fV n r (kU .u64 a)) 0
  else if op=2 then ({ m with sc:=(bC m.sc m.fl a).1,fl:=(bC m.sc m.fl a).2.1 },((bC m.sc m.fl a).2.2.2,(bC m.sc m.fl a).2.2.1,[]))
  else if op=3 then M.code { m with sc:=(bg m.fr m.en m.sc m.fl a).1,fl:=(bg m.fr m.en m.sc m.fl a).2.1 } (bg m.fr m.en m.sc m.fl a).2.2
  else if op=4 then m.enter n a
  else if op=5 then m.exit n
  else if op=6 then m.lr n a
  else if op=7 then m.alloc n r a b c
  else if op=8 then m.load n r h b
  else if op=9 then m.store n h v b
  else if op=10 then m.gm n r a
  else if op=11 then m.gate n v a
  else m.code 1
def rZ (c:oZ):List Int:=
 if c.1=1∨c.1=7∨c.1=10 then [c.2.1] else if c.1=8 then [c.2.1,c.2.2.1] else if c.1=9 then [c.2.2.1,c.2.2.2.1] else if c.1=11 then [c.2.2.2.1] else []
def cC (c:oZ):Bool:=(rZ c).all fun r=>decide (r<4)
def M.step (m:M) (n:Int) (c:oZ):M×L9×Int:=
 if within n 0 ((m.th.length:Int)-1)=false then (m,(0,0,[]),2)
 else if cC c=false then (m,(1,0,[]),0)
 else ((m.act n c).1,(m.act n c).2,0)
def M.new (p:rM) (f:List (List h_)):M:=
  { p:=p,f:=f,sc:=((2,1,-1,0),(p.1*64,p.2.2.1))::List.replicate (p.1-1).toNat ((0,0,-1,0),(0,0)),
    fl:=if 0<p.2.2.2 then [(p.1*64+p.2.2.1,p.2.2.2)] else [],ar:=List.replicate p.1.toNat oP,th:=List.replicate p.2.1.toNat ⟨[0,0,0,0],[]⟩ }
open Go.Bm
def u64 (v:Int):Prop:=0≤v∧v≤18446744073709551615
def AX (l:List cR):Prop:=∀(A B:List cR) (s:Int),l=A++(s,false)::B→s=0∨(s,true)∈A
structure rE (p:rM) (l:List cR):Prop where
 len:l.length≤6
 Dp:∀e∈l,0≤e.1∧e.1<p.1∧(e.2=true→1≤e.1)
 AX:AX l
def Rh (p:rM) (t:yD):Prop:=t.dc.length=4∧(∀v∈t.dc,u64 v)∧rE p t.aA
theorem nV {α:Type} {l A B:List α} {e x:α} (h:l++[e]=A++x::B):(B=[]∧e=x∧l=A)∨∃B',B=B'++[e]∧l=A++x::B':=by
 rcases List.eq_nil_or_concat B with rfl | ⟨B',y,rfl⟩
 ·have:=List.append_inj' h rfl
  exact .inl ⟨rfl,by simpa using this.2,this.1⟩
 ·rw [List.concat_eq_append] at *
  have h2:l++[e]=(A++x::B')++[y]:=by simpa using h
  have:=List.append_inj' h2 rfl
  refine .inr ⟨B',?_,this.1⟩
  have e2:e=y:=by simpa using this.2
  rw [e2]
theorem AX.DA {l:List cR} (h:AX l) (s:Int):AX (l++[(s,true)]):=by
 intro A B q e
 rcases nV e with ⟨_,e2,_⟩ | ⟨B',_,e2⟩
 ·cases e2
 ·exact h A B' q e2
theorem tY:∀{l:List cR} {s:Int},(iF l s).isSome=true↔(s,true)∈l
 | [],s=>by simp [iF]
 | e::l,s=>by
  unfold iF
  split
  ·rename_i h;subst h;simp
  ·rename_i h
   rw [Option.isSome_map,tY]
   simp only [List.mem_cons]
   exact ⟨.inr,fun h2=>h2.elim (fun h3=>absurd h3.symm h) id⟩
theorem qe {l:List cR} {s:Int}:reach l s=true↔s=0∨(s,true)∈l:=by
 unfold reach
 rw [Bool.or_eq_true,tY,decide_eq_true_eq]
theorem AX.DB {l:List cR} (h:AX l) {s:Int} (hs:reach l s=true):AX (l++[(s,false)]):=by
 intro A B q e
 rcases nV e with ⟨_,e2,e3⟩ | ⟨B',_,e2⟩
 ·obtain rfl:s=q:=by cases e2;rfl
  rw [←e3];exact qe.1 hs
 ·exact h A B' q e2
theorem AX.drop {l:List cR} (h:AX l):AX l.dropLast:=by
 rcases List.eq_nil_or_concat l with rfl | ⟨l',y,rfl⟩
 ·exact h
 ·rw [List.concat_eq_append] at *
  rw [List.dropLast_concat]
  intro A B q e
  exact h A (B++[y]) q (by rw [e];simp)
theorem rE.DA {p:rM} {l:List cR} (h:rE p l) {s:Int} (hl:l.length<6) (hs:1≤s∧s<p.1):rE p (l++[(s,true)]):=
 ⟨by simp;omega,fun e he=>by
  simp only [zX,zF] at he
  rcases he with he | rfl
  ·exact h.Dp e he
  ·exact ⟨by show 0≤s;omega,hs.2,fun _=>hs.1⟩,h.AX.DA s⟩
theorem rE.DB {p:rM} {l:List cR} (h:rE p l) {s:Int} (hl:l.length<6) (hs:0≤s∧s<p.1) (hr:reach l s=true):rE p (l++[(s,false)]):=
 ⟨by simp;omega,fun e he=>by
  simp only [zX,zF] at he
  rcases he with he | rfl
  ·exact h.Dp e he
  ·exact ⟨hs.1,hs.2,fun h=>by cases h⟩,h.AX.DB hr⟩
theorem rE.drop {p:rM} {l:List cR} (h:rE p l):rE p l.dropLast:=
 ⟨by have:=h.len;simp;omega,fun e he=>h.Dp e (List.dropLast_subset l he),h.AX.drop⟩
def BG (x:dW) (i:Nat) (us:Int) (o:jK):Prop:=
 o.ref.1=i∧o.ref.2.1=x.1.2.2.2∧x.2.1≤o.ref.2.2∧o.ref.2.2+16≤x.2.1+us∧eg o.ref=true∧(0≤o.tag∧o.tag≤7)∧o.aS.length≤6∧∀v∈o.aS,u64 v
structure AI (x:dW) (i:Nat) (k:Nat) (a:mG):Prop where
 us:0≤a.used∧a.used%8=0∧a.used≤x.2.2
 ga:u64 a.gate
 ol:a.aX.length≤k
 ob:∀o∈a.aX,BG x i a.used o
 od:a.aX.Pairwise fun o q=>o.ref.2.2<q.ref.2.2
 id:x.1.1≠2→a=oP
structure MI (k:Nat) (m:M):Prop where
 kk:k≤9000
 pr:dL m.p=true
 ff:m9 m.f
 si:SI m.fr m.en m.sc m.fl
 fk:m.fl.length≤k+1
 ls:(m.sc.length:Int)=m.p.1
 la:(m.ar.length:Int)=m.p.1
 lt:(m.th.length:Int)=m.p.2.1
 th:∀t∈m.th,Rh m.p t
 ai:∀(i:Nat) (x:dW) (a:mG),m.sc[i]?=some x→m.ar[i]?=some a→AI x i k a
theorem AI.empty {x:dW} {i k:Nat} (h:0≤x.2.2):AI x i k oP:=by
 refine ⟨?_,?_,Nat.zero_le _,?_,List.Pairwise.nil,fun _=>rfl⟩
 ·simp [oP];exact h
 ·simp [oP,u64]
 ·intro o ho;cases ho
theorem AI.more {x:dW} {i k:Nat} {a:mG} (h:AI x i k a):AI x i (k+1) a:=⟨h.us,h.ga,Nat.le_succ_of_le h.ol,h.ob,h.od,h.id⟩
theorem MI.more {k:Nat} {m:M} (h:MI k m) (hk:k<9000):MI (k+1) m:=
 ⟨hk,h.pr,h.ff,h.si,by have:=h.fk;omega,h.ls,h.la,h.lt,h.th,fun i x a h1 h2=>(h.ai i x a h1 h2).more⟩
theorem MI.u9 {k:Nat} {m:M} (h:MI k m):1≤m.p.1∧m.p.1≤8∧1≤m.p.2.1∧m.p.2.1≤4:=by
 have:=da.1 h.pr;omega
theorem MI.xok {k:Nat} {m:M} (h:MI k m):∀x∈m.fl,lI x:=fun x hx=>(h.si.fx x hx).ok h.si.Eb
theorem MI.size {k:Nat} {m:M} (h:MI k m) {i:Nat} {x:dW} (hx:m.sc[i]?=some x) (h0:x.1.1≠0):0≤x.2.2∧8≤x.2.1∧x.2.1+x.2.2≤16384∧x.2.1%8=0:=by
 have hf:=h.si.Eb
 rcases Nat.eq_zero_or_pos i with rfl | hi
 ·have:=h.si.im x hx
  have h1:=da.1 h.pr
  unfold M.fr at hf this
  omega
 ·have:=h.si.ux i x hi hx h0
  unfold lX at this
  have:64≤m.fr:=by have:=da.1 h.pr;unfold M.fr;omega
  omega
theorem MI.ax {k:Nat} {m:M} (h:MI k m) {n:Int} (hn:0≤n∧n<m.th.length):Rh m.p (m.ax n):=by
 unfold M.ax
 rw [zA,zD (by omega)]
 exact h.th _ (List.getElem_mem _)
theorem MI.gp {k:Nat} {m:M} (h:MI k m) (n:Int) {t:yD} (ht:Rh m.p t):MI k (m.gp n t) where
 kk:=h.kk
 pr:=h.pr
 ff:=h.ff
 si:=h.si
 fk:=h.fk
 ls:=h.ls
 la:=h.la
 lt:=by show ((m.th.set _ _).length:Int)=_;rw [zM];exact h.lt
 th:=fun u hu=>by
  rcases List.mem_or_eq_of_mem_set hu with h1 | rfl
  ·exact h.th u h1
  ·exact ht
 ai:=h.ai
theorem MI.fV {k:Nat} {m:M} (h:MI k m) {n:Int} (hn:0≤n∧n<m.th.length) (r:Int) {v:Int} (hv:u64 v):MI k (m.fV n r v):=by
 have ht:=h.ax hn
 refine h.gp n ⟨by simpa using ht.1,fun w hw=>?_,ht.2.2⟩
 rcases List.mem_or_eq_of_mem_set hw with h1 | rfl
 ·exact ht.2.1 w h1
 ·exact hv
theorem MI.cD {k:Nat} {m:M} (h:MI k m) {n:Int} (hn:0≤n∧n<m.th.length) {l:List cR} (hl:rE m.p l):MI k (m.cD n l):=by
 have ht:=h.ax hn
 exact h.gp n ⟨ht.1,ht.2.1,hl⟩
theorem MI.c_ {k:Nat} {m:M} (h:MI k m) {n:Int} (hn:0≤n∧n<m.th.length) (r:Int):u64 (m.c_ n r):=by
 have ht:=h.ax hn
 unfold M.c_
 rw [zA]
 cases hx:(m.ax n).dc[r.toNat]? with
 | none=>simp [u64]
 | some v=>exact ht.2.1 v (zG hx)
theorem acI (a:Int):u64 (kU .u64 a):=by unfold u64 kU;rw [wrap_u64];omega
theorem MI.cK {k:Nat} {m:M} (h:MI k m) {i:Nat} {a:mG} (ha:∀x,m.sc[i]?=some x→AI x i k a):MI k (m.cK (i:Int) a) where
 kk:=h.kk
 pr:=h.pr
 ff:=h.ff
 si:=h.si
 fk:=h.fk
 ls:=h.ls
 la:=by show ((m.ar.set _ _).length:Int)=_;rw [zM];exact h.la
 lt:=h.lt
 th:=h.th
 ai:=fun j x b h1 h2=>by
  rcases getSet (show (m.ar.set i a)[j]?=some b from h2) with ⟨e1,e2⟩ | ⟨_,g2⟩
  ·rw [e2];rw [e1] at h1 ⊢;exact ha x h1
  ·exact h.ai j x b h1 g2
theorem M.uc {m:M} {i:Nat} {a:mG} (h:m.ar[i]?=some a):m.bm (i:Int)=a:=by
 unfold M.bm;rw [zE,zA,h];rfl
theorem MI.bm {k:Nat} {m:M} (h:MI k m) {i:Nat} {x:dW} (hx:m.sc[i]?=some x):m.ar[i]?=some (m.bm (i:Int))∧AI x i k (m.bm (i:Int)):=by
 have h1:=(zB.1 hx).1
 have sI:=h.ls
 have Sr:=h.la
 have h2:m.ar[i]?=some m.ar[i]:=zD (by omega)
 rw [M.uc h2]
 exact ⟨h2,h.ai i x _ hx h2⟩
theorem MI.nX {k:Nat} {m:M} (h:MI k m) {i:Int} (hi:0≤i∧i<m.p.1):m.sc[i.toNat]?=some (ab m.sc i):=iX hi.1 (by rw [h.ls];exact hi.2)
theorem MI.xS {k:Nat} {m:M} (h:MI k m) {i:Nat} {x:dW} {y:dW} (hx:m.sc[i]?=some x) (hs:SI m.fr m.en (m.sc.set i y) m.fl) {a:mG} (ha:AI y i k a):MI k { m with sc:=m.sc.set i y,ar:=m.ar.set i a } where
 kk:=h.kk
 pr:=h.pr
 ff:=h.ff
 si:=hs
 fk:=h.fk
 ls:=by show ((m.sc.set _ _).length:Int)=_;rw [zM];exact h.ls
 la:=by show ((m.ar.set _ _).length:Int)=_;rw [zM];exact h.la
 lt:=h.lt
 th:=h.th
 ai:=fun j z b h1 h2=>by
  rcases getSet (show (m.sc.set i y)[j]?=some z from h1) with ⟨e1,e2⟩ | ⟨e1,g1⟩
  ·rcases getSet (show (m.ar.set i a)[j]?=some b from h2) with ⟨_,e4⟩ | ⟨e3,_⟩
   ·rw [e1,e2,e4];exact ha
   ·exact absurd e1 e3
  ·rcases getSet (show (m.ar.set i a)[j]?=some b from h2) with ⟨e3,_⟩ | ⟨_,g2⟩
   ·exact absurd e3 e1
   ·exact h.ai j z b g1 g2
theorem kb {α:Type} {l:List α} {i:Nat} {x:α} (h:l[i]?=some x):l.set i x=l:=by
 apply List.ext_getElem?
 intro j
 rw [List.getElem?_set]
 split
 ·rename_i e;subst e
  obtain ⟨h1,h2⟩:=zB.1 h
  rw [if_pos h1];exact h.symm
 ·rfl
theorem MI.Ix {k:Nat} {m:M} (h:MI k m) {i:Nat} {x:dW} {y:dW} (hx:m.sc[i]?=some x) (hs:SI m.fr m.en (m.sc.set i y) m.fl) (ha:∀a,AI x i k a→AI y i k a):MI k { m with sc:=m.sc.set i y }:=by
 obtain ⟨h1,h2⟩:=h.bm hx
 have:=h.xS hx hs (ha _ h2)
 rw [kb h1] at this
 exact this
theorem Cc {o:h_} {sl:List Int} (h:∀v∈sl,u64 v):∀v∈(cq o sl).2.1,u64 v:=by
 intro v hv
 unfold cq at hv
 split at hv
 ·exact h v hv
 split at hv
 ·rcases List.mem_or_eq_of_mem_set hv with h1 | rfl
  ·exact h v h1
  ·simp [u64]
 split at hv
 ·simp only at hv
  split at hv
  ·rcases List.mem_or_eq_of_mem_set hv with h1 | rfl
   ·exact h v h1
   ·rename_i hh
    rw [zA,zD hh.2]
    exact h _ (List.getElem_mem _)
  ·exact h v hv
 split at hv
 ·exact h v hv
 ·exact h v hv
theorem yt {ops:List h_}:∀(f a:Nat) (sl sd:List Int) (hd:Bool) (n:Int),(∀v∈sl,u64 v)→∀v∈(ke ops f a sl sd hd n).1,u64 v
 | 0,a,sl,sd,hd,n,h=>h
 | f+1,a,sl,sd,hd,n,h=>by
  by_cases ha:a<ops.length
  ·rw [oB ha]
   exact yt (ops:=ops) f _ _ _ _ _ (Cc h)
  ·rw [qo ha];exact h
theorem rC (f:List (List h_)) (o:jK):(dV f o).1.ref=o.ref∧(dV f o).1.tag=o.tag∧(dV f o).1.aS.length=o.aS.length:=by
 unfold dV
 split
 ·exact ⟨rfl,rfl,rfl⟩
 ·exact ⟨rfl,rfl,Ek _ _⟩
theorem HA {f:List (List h_)} {x:dW} {i:Nat} {us:Int} {o:jK} (h:BG x i us o):BG x i us (dV f o).1:=by
 obtain ⟨h1,h2,h3⟩:=rC f o
 unfold BG at *
 rw [h1,h2,h3]
 obtain ⟨k1,k2,k3,k4,k5,k6,k7,k8⟩:=h
 refine ⟨k1,k2,k3,k4,k5,k6,k7,?_⟩
 unfold dV
 split
 ·exact k8
 ·exact yt _ _ _ _ _ _ k8
theorem wy (f:List (List h_)):∀l,(bM f l).1=l.map fun o=>(dV f o).1
 | []=>rfl
 | o::l=>by simp [bM,wy f l]
theorem AI.map {x:dW} {i k:Nat} {a:mG} (h:AI x i k a) (g:jK→jK) (hg:∀o∈a.aX,(g o).ref=o.ref∧BG x i a.used (g o)):AI x i k { a with aX:=a.aX.map g } where
 us:=h.us
 ga:=h.ga
 ol:=by show (a.aX.map g).length≤k;rw [zH];exact h.ol
 ob:=fun o ho=>by
  obtain ⟨q,h1,rfl⟩:=List.mem_map.1 ho
  exact (hg q h1).2
 od:=by
  show (a.aX.map g).Pairwise _
  rw [List.pairwise_map]
  refine List.Pairwise.imp_of_mem ?_ h.od
  intro o q ho hq eh
  rw [(hg o ho).1,(hg q hq).1];exact eh
 id:=fun h0=>by
  have:=h.id h0
  rw [this];rfl
theorem M.ym {m:M} {r:iV} {o:jK} (h:m.find r=some o):o∈(m.bm r.1).aX∧o.ref=r:=by
 unfold M.find at h
 exact ⟨List.mem_of_find?_eq_some h,by simpa using List.find?_some h⟩
theorem M.gf {m:M} {l:List cR} {v:Int} {o:jK} (h:(m.check l v).1=some o):(m.check l v).2=0∧(au v).2=0∧(au v).1.1<m.p.1∧reach l (au v).1.1=true∧(kq m.sc (au v).1.1).1.2.2.2=(au v).1.2.1∧m.find (au v).1=some o:=by
 unfold M.check at h ⊢
 split at h
 ·cases h
 ·rename_i h1
  split at h
  ·cases h
  ·rename_i h2
   split at h
   ·cases h
   ·rename_i h3
    rw [if_neg h1,if_neg h2,if_neg h3]
    cases hf:m.find (au v).1 with
    | none=>rw [hf] at h;cases h
    | some q=>
     rw [hf] at h
     cases h
     exact ⟨rfl,by simp only [not_or] at h1;simpa using h1.1,by omega,by simpa using h2,by simpa using h3,rfl⟩
theorem M.oF {m:M} {l:List cR} {v:Int} (h:(m.check l v).1=none):(m.check l v).2≠0:=by
 unfold M.check at h ⊢
 split at h
 ·rename_i h1;rw [if_pos h1];decide
 ·rename_i h1
  rw [if_neg h1]
  split at h
  ·rename_i h2;rw [if_pos h2];decide
  ·rename_i h2
   rw [if_neg h2]
   split at h
   ·rename_i h3;rw [if_pos h3];decide
   ·rename_i h3
    rw [if_neg h3]
    cases hf:m.find (au v).1 with
    | none=>decide
    | some q=>rw [hf] at h;cases h
theorem fK {v:Int} (h:(au v).2=0):eg (au v).1=true∧(au v).1=gi v:=by
 unfold au at h ⊢
 split
 ·rename_i h1;exact ⟨h1,rfl⟩
 ·rename_i h1;rw [if_neg h1] at h;cases h
theorem MI.found {k:Nat} {m:M} (h:MI k m) {l:List cR} {v:Int} {o:jK} (ho:(m.check l v).1=some o) :
  ∃(i:Nat) (x:dW),o.ref.1=(i:Int)∧m.sc[i]?=some x∧o∈(m.bm (i:Int)).aX∧AI x i k (m.bm (i:Int))∧BG x i (m.bm (i:Int)).used o∧o.ref=(au v).1∧(i:Int)<m.p.1:=by
 obtain ⟨_,h1,h2,_,_,h3⟩:=M.gf ho
 obtain ⟨h4,h5⟩:=M.ym h3
 have hr:=cp.1 (fK h1).1
 have hi:(((au v).1.1.toNat:Nat):Int)=(au v).1.1:=by omega
 have hx:=h.nX (i:=(au v).1.1) ⟨hr.1.1,h2⟩
 obtain ⟨_,ha⟩:=h.bm hx
 rw [hi] at ha
 refine ⟨(au v).1.1.toNat,_,by rw [h5,hi],hx,by rw [hi];exact h4,by rw [hi];exact ha,by rw [hi];exact ha.ob o h4,h5,by rw [hi];exact h2⟩
theorem MI.enter {k:Nat} {m:M} (h:MI k m) {n:Int} (hn:0≤n∧n<m.th.length) (a:Int):MI k (m.enter n a).1:=by
 have ht:=h.ax hn
 unfold M.enter
 split
 ·exact h
 rename_i ha
 have ha:1≤a∧a≤m.p.1-1:=by rw [←bF];simpa using ha
 split
 ·exact h
 rename_i hp
 split
 ·exact h
 rename_i hu
 have hp:(m.ax n).aA.length<6:=by
  unfold push at hp
  split at hp
  ·exact absurd (by decide) hp
  ·omega
 have hx:=h.nX (i:=a) (by omega)
 have D1:lb m.sc 1 a=true:=bX.2 ⟨by omega,by rw [h.ls];omega⟩
 have qP:=h.si.cr _ _ hx
 unfold cS at hu ⊢
 rw [if_pos D1] at hu ⊢
 split
 ·rename_i h0
  have zx:=Cq (db (m.ax n).aA) _ qP h0
  have hm:MI k { m with sc:=m.sc.set a.toNat ((bS (ab m.sc a).1 (db (m.ax n).aA)).1,(ab m.sc a).2) }:=by
   refine h.Ix hx (h.si.aU (by omega) hx zx.2 zx.1) (fun q hq=>?_)
   have e:(bS (ab m.sc a).1 (db (m.ax n).aA)).1.2.2.2=(ab m.sc a).1.2.2.2∧(bS (ab m.sc a).1 (db (m.ax n).aA)).1.1=2:=by
    rw [(kf qP h0).1];exact ⟨rfl,rfl⟩
   refine ⟨hq.us,hq.ga,hq.ol,fun o ho=>?_,hq.od,fun jB=>absurd e.2 jB⟩
   have:=hq.ob o ho
   unfold BG at this ⊢
   rw [e.1];exact this
  refine hm.cD hn ?_
  unfold push;rw [if_neg (by omega)]
  exact ht.2.2.DA hp ⟨ha.1,by show a<m.p.1;omega⟩
 ·rename_i h0
  rw [if_neg h0] at hu;exact absurd h0 hu
theorem MI.lr {k:Nat} {m:M} (h:MI k m) {n:Int} (hn:0≤n∧n<m.th.length) (a:Int):MI k (m.lr n a).1:=by
 have ht:=h.ax hn
 unfold M.lr
 split
 ·exact h
 rename_i ha
 have ha:0≤a∧a≤m.p.1-1:=by rw [←bF];simpa using ha
 split
 ·exact h
 rename_i hr
 split
 ·exact h
 rename_i hp
 have hp:(m.ax n).aA.length<6:=by
  unfold push at hp
  split at hp
  ·exact absurd (by decide) hp
  ·omega
 refine h.cD hn ?_
 unfold push;rw [if_neg (by omega)]
 exact ht.2.2.DB hp ⟨ha.1,by show a<m.p.1;omega⟩ (by simpa using hr)
def wI (s:Int) (t:yD):Nat:=t.aA.count (s,true)
def xA (l:List yD) (s:Int):Nat:=(l.map (wI s)).sum
def CT (m:M):Prop:=∀(i:Nat) (x:dW),1≤i→m.sc[i]?=some x→x.1.2.1=(xA m.th i:Int)
theorem EJ:∀(l:List Nat) (n v:Nat) (u:Nat),l[n]?=some u→(l.set n v).sum+u=l.sum+v
 | [],n,v,u,h=>by simp at h
 | x::l,0,v,u,h=>by simp at h;subst h;simp;omega
 | x::l,n+1,v,u,h=>by
  have:=EJ l n v u (by simpa using h)
  simp only [List.set_cons_succ,List.sum_cons];omega
theorem N6 {l:List yD} {n:Nat} {t:yD} (u:yD) (s:Int) (h:l[n]?=some t):xA (l.set n u) s+wI s t=xA l s+wI s u:=by
 unfold xA
 rw [List.map_set]
 exact EJ _ _ _ _ (by rw [zL,h];rfl)
theorem M.qb {m:M} {n:Int} (hn:0≤n∧n<m.th.length):m.th[n.toNat]?=some (m.ax n):=by
 unfold M.ax
 rw [zA,zD (by omega)];rfl
theorem JH:∀(l:List Nat) (x:Nat),x∈l→x≤l.sum
 | y::l,x,h=>by
  simp only [List.mem_cons] at h
  rw [List.sum_cons]
  rcases h with rfl | h
  ·omega
  ·have:=JH l x h;omega
theorem ve {l:List yD} {t:yD} {s:Int} (ht:t∈l) (h:(s,true)∈t.aA):1≤xA l s:=by
 have h1:1≤wI s t:=List.count_pos_iff.2 h
 have h2:wI s t≤xA l s:=JH _ _ (List.mem_map.2 ⟨t,ht,rfl⟩)
 omega
theorem MI.live {k:Nat} {m:M} (h:MI k m) (hc:CT m) {t:yD} (ht:t∈m.th) {s:Int} (hs:s=0∨(s,true)∈t.aA):m.sc[s.toNat]?=some (ab m.sc s)∧(ab m.sc s).1.1=2∧0≤s∧s<m.p.1:=by
 have hp:=h.u9
 rcases hs with rfl | hs
 ·have hx:=h.nX (i:=0) (by omega)
  have:=h.si.im _ hx
  exact ⟨hx,by rw [this.1],by omega,by omega⟩
 ·have hr:=(h.th t ht).2.2.Dp _ hs
  have h1:=hr.2.2 rfl
  have hx:=h.nX (i:=s) ⟨hr.1,hr.2.1⟩
  refine ⟨hx,?_,hr.1,hr.2.1⟩
  have h2:=hc s.toNat _ (by simp only at h1;omega) hx
  have h3:=ve ht hs
  have h4:((s.toNat:Nat):Int)=s:=by simp only at h1;omega
  rw [h4] at h2
  have h5:=h.si.cr _ _ hx
  rcases jD h5 with ⟨_,h6,_⟩ | h6 | ⟨_,h6⟩
  ·omega
  ·exact h6
  ·omega
theorem qx {p:rM} {l:List cR} (h:rE p l):db l=0∨(db l,true)∈l:=by
 unfold db
 cases hl:l.getLast? with
 | none=>exact .inl rfl
 | some e=>
  obtain ⟨s,b⟩:=e
  obtain ⟨l',rfl⟩:=List.getLast?_eq_some_iff.1 hl
  cases b with
  | true=>exact .inr (by simp)
  | false=>
   rcases h.AX l' [] s rfl with h1 | h1
   ·exact .inl h1
   ·exact .inr (by simp [h1])
theorem M.ko {m:M} {n:Int} (hn:0≤n∧n<m.th.length):m.ax n∈m.th:=zG (M.qb hn)
theorem MI.tq {k:Nat} {m:M} (h:MI k m) {i:Int} (hi:0≤i∧i<m.p.1):m.ar[i.toNat]?=some (m.bm i)∧AI (ab m.sc i) i.toNat k (m.bm i):=by
 have hx:=h.nX hi
 have:=h.bm hx
 have e:((i.toNat:Nat):Int)=i:=by omega
 rw [e] at this;exact this
theorem MI.qW {k:Nat} {m:M} (h:MI k m) {i:Int} (hi:0≤i∧i<m.p.1) {a:mG} (ha:AI (ab m.sc i) i.toNat k a):MI k (m.cK i a):=by
 have e:((i.toNat:Nat):Int)=i:=by omega
 rw [←e]
 refine h.cK (fun x hx=>?_)
 rw [h.nX hi] at hx
 cases hx;exact ha
open Go.Bm
theorem oD {c:nO} (h:bf c=true) (h2:c.1=3):eJ c=((1,0,-1,b6 c.2.2.2),0):=by
 have e0:jd c 3=0:=by unfold jd;rw [if_neg (by rw [h];simp),h2];simp
 unfold eJ
 rw [if_neg (by rw [e0];simp)]
theorem jN {l:List dW} {i:Int} {x:dW} (h0:0≤i) (h:i<l.length):ab (l.set i.toNat x) i=x:=by
 have:=ld (l:=l.set i.toNat x) (i:=i.toNat) (x:=x) (by rw [List.getElem?_set,if_pos rfl,if_pos (by omega)])
 rwa [show ((i.toNat:Nat):Int)=i by omega] at this
theorem rW {l:List dW} {s:Int} (h1:1≤s) (hs:s<l.length) (hr:bf (ab l s).1=true) (h2:(ab l s).1.1=2) :
  jm l s=if (ab l s).1.2.1=1 then (l.set s.toNat ((3,0,(ab l s).1.2.2.1,(ab l s).1.2.2.2),(ab l s).2),true,0) else (l.set s.toNat ((2,(ab l s).1.2.1-1,(ab l s).1.2.2.1,(ab l s).1.2.2.2),(ab l s).2),false,0):=by
 obtain ⟨e0,e1⟩:=lF hr h2
 have eu:cS l s bG=(l.set s.toNat ((bG (ab l s).1).1,(ab l s).2),0):=by
  unfold cS;rw [if_pos (bX.2 ⟨h1,hs⟩),if_pos e0]
 unfold jm
 rw [eu,if_pos rfl]
 simp only
 rw [jN (by omega) hs,e1]
 split<;>rfl
theorem M.mu {m:M} {n s:Int} {l:List cR} {a:L9} (h1:1≤s) (hs:s<m.sc.length) (hr:bf (ab m.sc s).1=true) (h2:(ab m.sc s).1.1=2) :
  m.leave n s l a=if (ab m.sc s).1.2.1=1 then (({ m with sc:=m.sc.set s.toNat ((1,0,-1,b6 (ab m.sc s).1.2.2.2),(ab m.sc s).2) }.cK s oP).cD n l,a)
   else ({ m with sc:=m.sc.set s.toNat ((2,(ab m.sc s).1.2.1-1,(ab m.sc s).1.2.2.1,(ab m.sc s).1.2.2.2),(ab m.sc s).2) }.cD n l,a):=by
 unfold M.leave
 rw [rW h1 hs hr h2]
 have hl:=fH hr h2
 split
 ·simp only [if_true]
  have hc:bf (3,0,(ab m.sc s).1.2.2.1,(ab m.sc s).1.2.2.2)=true:=pk (by omega)
  have eu:cS (m.sc.set s.toNat ((3,0,(ab m.sc s).1.2.2.1,(ab m.sc s).1.2.2.2),(ab m.sc s).2)) s eJ=(m.sc.set s.toNat ((1,0,-1,b6 (ab m.sc s).1.2.2.2),(ab m.sc s).2),0):=by
   unfold cS
   rw [if_pos (bX.2 ⟨h1,by simpa using hs⟩),jN (by omega) hs,oD hc rfl,if_pos rfl,List.set_set]
  rw [eu]
 ·rfl
theorem MI.leave {k:Nat} {m:M} (h:MI k m) {n:Int} (hn:0≤n∧n<m.th.length) {s:Int} {l:List cR} {a:L9} (h1:1≤s∧s<m.p.1) (h2:(ab m.sc s).1.1=2) (hl:rE m.p l):MI k (m.leave n s l a).1:=by
 have hx:=h.nX (i:=s) (by omega)
 have hr:=h.si.cr _ _ hx
 have hc:=fH hr h2
 rw [M.mu h1.1 (by rw [h.ls];exact h1.2) hr h2]
 have hq:=h.tq (i:=s) (by omega)
 split
 ·have hs:=h.si.aU (i:=s.toNat) (by omega) hx (by omega) (c:=(1,0,-1,b6 (ab m.sc s).1.2.2.2)) (Dr ss)
  have qB:=h.size hx (by omega)
  exact MI.cD (m:={ m with sc:=m.sc.set s.toNat ((1,0,-1,b6 (ab m.sc s).1.2.2.2),(ab m.sc s).2),ar:=m.ar.set s.toNat oP }) (h.xS hx hs (AI.empty qB.1)) hn hl
 ·have hs:=h.si.aU (i:=s.toNat) (by omega) hx (by omega) (c:=(2,(ab m.sc s).1.2.1-1,(ab m.sc s).1.2.2.1,(ab m.sc s).1.2.2.2)) (Dq (by omega))
  refine MI.cD (m:={ m with sc:=m.sc.set s.toNat ((2,(ab m.sc s).1.2.1-1,(ab m.sc s).1.2.2.1,(ab m.sc s).1.2.2.2),(ab m.sc s).2) }) (h.Ix hx hs (fun q hq=>?_)) hn hl
  exact ⟨hq.us,hq.ga,hq.ol,hq.ob,hq.od,fun jB=>absurd rfl jB⟩
theorem AI.fin {x:dW} {i k:Nat} {a:mG} (h:AI x i k a) (f:List (List h_)):AI x i k { a with aX:=(bM f a.aX).1 }:=by
 rw [wy]
 exact h.map _ (fun o ho=>⟨(rC f o).1,HA (h.ob o ho)⟩)
theorem pD {l:List cR} {x:cR} (h:l.getLast?=some x):x∈l:=List.mem_of_getLast? h
theorem MI.exit {k:Nat} {m:M} (h:MI k m) (hc:CT m) {n:Int} (hn:0≤n∧n<m.th.length):MI k (m.exit n).1:=by
 have ht:=h.ax hn
 unfold M.exit
 split
 ·exact h
 ·rename_i x hx
  split
  ·exact h.cD hn ht.2.2.drop
  ·rename_i hb
   have hm:=pD hx
   obtain ⟨s,b⟩:=x
   have hb:b=true:=by simpa using hb
   subst hb
   have iH:=h.live hc (M.ko hn) (.inr hm)
   have hr:=ht.2.2.Dp _ hm
   have h1:=hr.2.2 rfl
   simp only at h1
   have ha:=(h.tq (i:=s) ⟨iH.2.2.1,iH.2.2.2⟩).2
   have B1:=h.qW (i:=s) ⟨iH.2.2.1,iH.2.2.2⟩ (ha.fin m.f)
   split
   ·split
    ·exact B1
    ·exact MI.leave B1 hn ⟨h1,iH.2.2.2⟩ iH.2.1 ht.2.2.drop
   ·exact MI.leave h hn ⟨h1,iH.2.2.2⟩ iH.2.1 ht.2.2.drop
theorem Nt {r:iV}:u64 (iT r).1:=by
 unfold iT
 split
 ·rename_i h
  have:=wc h
  unfold u64;omega
 ·simp [u64]
theorem ou {a b:Int} (h:(bo a b).2=0):(0≤a∧a≤6)∧(0≤b∧b≤512)∧(bo a b).1=2+a+(b+7) / 8:=by
 unfold bo at h ⊢
 split at h
 ·cases h
 ·rename_i h1
  rw [if_neg h1]
  simp only [not_or,Bool.not_eq_false,bF] at h1
  exact ⟨h1.1,h1.2,rfl⟩
theorem MI.alloc {k:Nat} {m:M} (h:MI k m) (hk:k<9000) (hc:CT m) {n:Int} (hn:0≤n∧n<m.th.length) (r a b c:Int):MI (k+1) (m.alloc n r a b c).1:=by
 have ht:=h.ax hn
 unfold M.alloc
 split
 ·exact h.more hk
 rename_i h1
 simp only [not_or,Bool.not_eq_false] at h1
 have hw:=ou (by simpa using h1.1)
 have QP:=bF.1 h1.2
 split
 ·exact h.more hk
 rename_i h2
 have iH:=h.live hc (M.ko hn) (qx ht.2.2)
 have qO:0≤db (m.ax n).aA∧db (m.ax n).aA<m.p.1:=⟨iH.2.2.1,iH.2.2.2⟩
 have he:ph m.sc (db (m.ax n).aA)=((ab m.sc (db (m.ax n).aA)).2,0):=by
  unfold ph;rw [if_pos (bX.2 ⟨qO.1,by rw [h.ls];exact qO.2⟩)]
 have tU:kq m.sc (db (m.ax n).aA)=((ab m.sc (db (m.ax n).aA)).1,0):=by
  unfold kq;rw [if_pos (bX.2 ⟨qO.1,by rw [h.ls];exact qO.2⟩)]
 have ha:=(h.tq qO).2
 have qB:=h.size iH.1 (by omega)
 have qP:=fH (h.si.cr _ _ iH.1) iH.2.1
 have hp:=h.u9
 unfold M.QQ M.ra
 rw [he] at h2 ⊢
 rw [tU]
 simp only at h2 ⊢
 generalize hs:db (m.ax n).aA=s at *
 have zu:=ha.us
 refine MI.fV (m:=m.cK s _) ((h.more hk).qW qO ?_) hn r Nt
 have cV:(m.bm s).used+(bo a b).1*8≤(ab m.sc s).2.2:=by omega
 have hnr:eg (s,(ab m.sc s).1.2.2.2,(ab m.sc s).2.1+(m.bm s).used)=true:=by
  rw [cp]
  simp only
  omega
 refine ⟨⟨by simp only;omega,by simp only;omega,cV⟩,ha.ga,by simp;exact ha.ol,fun o ho=>?_,?_,fun jB=>absurd iH.2.1 jB⟩
 ·simp only [zX,zF] at ho
  rcases ho with ho | rfl
  ·obtain ⟨q1,q2,q3,q4,q5⟩:=ha.ob o ho
   exact ⟨q1,q2,q3,by simp only;omega,q5⟩
  ·refine ⟨by simp only;omega,rfl,by simp only;omega,by simp only;omega,hnr,QP,by simp;omega,fun v hv=>?_⟩
   have:=List.eq_of_mem_replicate hv
   subst this;simp [u64]
 ·simp only
  rw [List.pairwise_append]
  refine ⟨ha.od,List.pairwise_singleton _ _,fun o ho q hq=>?_⟩
  simp only [zF] at hq
  subst hq
  obtain ⟨q1,q2,q3,q4,q5⟩:=ha.ob o ho
  simp only;omega
theorem MI.put {k:Nat} {m to:M} (h:MI k m) (ht:MI k to) (l:List cR) (v s:Int):MI k (m.put l v s to).1:=by
 unfold M.put
 split
 ·exact ht
 ·split
  ·exact h
  ·split
   ·exact h
   ·split
    ·exact h
    ·exact ht
theorem MI.load {k:Nat} {m:M} (h:MI k m) {n:Int} (hn:0≤n∧n<m.th.length) (r g b:Int):MI k (m.load n r g b).1:=by
 unfold M.load
 split
 ·exact h
 ·split
  ·exact h
  ·rename_i o ho
   split
   ·exact h
   ·rename_i hb
    obtain ⟨i,x,_,_,_,_,fN,_⟩:=h.found ho
    refine h.fV hn r ?_
    rw [zA]
    cases hx:o.aS[b.toNat]? with
    | none=>simp [u64]
    | some v=>exact fN.2.2.2.2.2.2.2 v (zG hx)
theorem MI.Mj {k:Nat} {m:M} (h:MI k m) (r:iV) {w:Int} (hw:u64 w) (b:Nat):MI k (m.setObj r fun o=>{ o with aS:=o.aS.set b w }) where
 kk:=h.kk
 pr:=h.pr
 ff:=h.ff
 si:=h.si
 fk:=h.fk
 ls:=h.ls
 la:=by show ((m.ar.map _).length:Int)=_;rw [zH];exact h.la
 lt:=h.lt
 th:=h.th
 ai:=fun i x a h1 h2=>by
  have h2:(m.ar.map _)[i]?=some a:=h2
  rw [zL] at h2
  cases ha:m.ar[i]? with
  | none=>rw [ha] at h2;cases h2
  | some a'=>
   rw [ha] at h2
   cases h2
   have h4:=h.ai i x a' h1 ha
   refine h4.map _ (fun q hq=>?_)
   have hqo:=h4.ob q hq
   split
   ·refine ⟨rfl,?_⟩
    obtain ⟨q1,q2,q3,q4,q5,q6,q7,q8⟩:=hqo
    refine ⟨q1,q2,q3,q4,q5,q6,by simpa using q7,fun z hz=>?_⟩
    rcases List.mem_or_eq_of_mem_set hz with hz | rfl
    ·exact q8 z hz
    ·exact hw
   ·exact ⟨rfl,hqo⟩
theorem MI.store {k:Nat} {m:M} (h:MI k m) {n:Int} (hn:0≤n∧n<m.th.length) (g v b:Int):MI k (m.store n g v b).1:=by
 unfold M.store
 split
 ·exact h
 ·split
  ·exact h
  ·rename_i o ho
   split
   ·exact h
   ·exact h.put (h.Mj _ (h.c_ hn v) _) _ _ _
theorem MI.gm {k:Nat} {m:M} (h:MI k m) {n:Int} (hn:0≤n∧n<m.th.length) (r a:Int):MI k (m.gm n r a).1:=by
 unfold M.gm
 split
 ·exact h
 ·rename_i ha
  have ha:1≤a∧a≤m.p.1-1:=by rw [←bF];simpa using ha
  split
  ·exact h
  ·exact h.fV hn r (h.tq (i:=a) (by omega)).2.ga
theorem MI.gate {k:Nat} {m:M} (h:MI k m) (hc:CT m) {n:Int} (hn:0≤n∧n<m.th.length) (v a:Int):MI k (m.gate n v a).1:=by
 unfold M.gate
 split
 ·exact h
 ·rename_i ha
  have ha:1≤a∧a≤m.p.1-1:=by rw [←bF];simpa using ha
  split
  ·exact h
  ·rename_i hr
   have hr:reach (m.ax n).aA a=true:=by simpa using hr
   have iH:=h.live hc (M.ko hn) (qe.1 hr)
   refine h.put (h.qW (i:=a) (by omega) ?_) _ _ _
   have:=(h.tq (i:=a) (by omega)).2
   exact ⟨this.us,h.c_ hn v,this.ol,this.ob,this.od,fun jB=>absurd iH.2.1 jB⟩
theorem MI.create {k:Nat} {m:M} (h:MI k m) (a:Int):MI k { m with sc:=(bC m.sc m.fl a).1,fl:=(bC m.sc m.fl a).2.1 }:=by
 have hs:=h.si.create a
 have hf:=h.fk
 have key:(bC m.sc m.fl a).1=m.sc∨∃(i:Nat) (x:dW) (y:dW),m.sc[i]?=some x∧x.1.1=0∧0≤y.2.2∧(bC m.sc m.fl a).1=m.sc.set i y:=by
  unfold bC
  split
  ·exact .inl rfl
  ·rename_i hn
   have hn:1≤a∧a≤8192:=by rw [←bF];simpa using hn
   cases mz:g_ m.sc with
   | none=>exact .inl rfl
   | some i=>
    simp only
    cases hc:jy m.fl (rK a) with
    | none=>exact .inl rfl
    | some r=>
     obtain ⟨x,h1,h2⟩:=gW mz
     exact .inr ⟨i,x,_,h1,h2,by simp only;unfold rK;omega,rfl⟩
 have Hf:SI m.fr m.en (bC m.sc m.fl a).1 (bC m.sc m.fl a).2.1:=hs.1
 have QK:(bC m.sc m.fl a).2.1.length≤k+1:=by have:=hs.2;omega
 generalize (bC m.sc m.fl a).2.1=tW at *
 rcases key with e | ⟨i,x,y,h1,h2,h3,e⟩
 ·rw [e] at Hf ⊢
  exact ⟨h.kk,h.pr,h.ff,Hf,QK,h.ls,h.la,h.lt,h.th,h.ai⟩
 ·rw [e] at Hf ⊢
  refine ⟨h.kk,h.pr,h.ff,Hf,QK,by show ((m.sc.set _ _).length:Int)=_;rw [zM];exact h.ls,h.la,h.lt,h.th,fun j z b k1 k2=>?_⟩
  rcases getSet (show (m.sc.set i y)[j]?=some z from k1) with ⟨e1,e2⟩ | ⟨_,g1⟩
  ·rw [e1] at k2 ⊢
   have:=(h.ai i x b h1 k2).id (by omega)
   rw [this,e2];exact AI.empty h3
  ·exact h.ai j z b g1 k2
theorem MI.lE {k:Nat} {m:M} (h:MI k m) (hk:k<9000) (a:Int):MI (k+1) { m with sc:=(bg m.fr m.en m.sc m.fl a).1,fl:=(bg m.fr m.en m.sc m.fl a).2.1 }:=by
 have hs:=h.si.lE a
 have hf:=h.fk
 have key:(bg m.fr m.en m.sc m.fl a).1=m.sc∨∃(i:Nat) (x:dW) (y:dW),m.sc[i]?=some x∧x.1.1=1∧0≤y.2.2∧(bg m.fr m.en m.sc m.fl a).1=m.sc.set i y:=by
  unfold bg
  split
  ·exact .inl rfl
  ·rename_i hn
   have hn:1≤a∧a<m.sc.length:=by rw [←bX];simpa using hn
   split
   ·exact .inl rfl
   ·split
    ·exact .inl rfl
    ·rename_i h1
     exact .inr ⟨a.toNat,_,_,iX (by omega) hn.2,by omega,Int.le_refl 0,rfl⟩
 have Hf:SI m.fr m.en (bg m.fr m.en m.sc m.fl a).1 (bg m.fr m.en m.sc m.fl a).2.1:=hs.1
 have QK:(bg m.fr m.en m.sc m.fl a).2.1.length≤k+1+1:=by have:=hs.2.1;omega
 generalize (bg m.fr m.en m.sc m.fl a).2.1=tW at *
 rcases key with e | ⟨i,x,y,h1,h2,h3,e⟩
 ·rw [e] at Hf ⊢
  exact ⟨hk,h.pr,h.ff,Hf,QK,h.ls,h.la,h.lt,h.th,fun i x a k1 k2=>(h.ai i x a k1 k2).more⟩
 ·rw [e] at Hf ⊢
  refine ⟨hk,h.pr,h.ff,Hf,QK,by show ((m.sc.set _ _).length:Int)=_;rw [zM];exact h.ls,h.la,h.lt,h.th,fun j z b k1 k2=>?_⟩
  rcases getSet (show (m.sc.set i y)[j]?=some z from k1) with ⟨e1,e2⟩ | ⟨_,g1⟩
  ·rw [e1] at k2 ⊢
   have:=(h.ai i x b h1 k2).id (by omega)
   rw [this,e2];exact AI.empty h3
  ·exact (h.ai j z b g1 k2).more
theorem cw {α:Type} {p:Prop} [Decidable p] {x y:α} (P:α→Prop) (h1:p→P x) (h2:¬p→P y):P (if p then x else y):=by
 split
 ·exact h1 (by assumption)
 ·exact h2 (by assumption)
theorem MI.act {k:Nat} {m:M} (h:MI k m) (hk:k<9000) (hc:CT m) {n:Int} (hn:0≤n∧n<m.th.length) (c:oZ):MI (k+1) (m.act n c).1:=by
 obtain ⟨op,r,g,v,a,b,t⟩:=c
 refine cw (fun o:Out=>MI (k+1) o.1) (fun _=>h.more hk) fun _=>?_
 refine cw (fun o:Out=>MI (k+1) o.1) (fun _=>(h.fV hn r (acI a)).more hk) fun _=>?_
 refine cw (fun o:Out=>MI (k+1) o.1) (fun _=>(h.create a).more hk) fun _=>?_
 refine cw (fun o:Out=>MI (k+1) o.1) (fun _=>h.lE hk a) fun _=>?_
 refine cw (fun o:Out=>MI (k+1) o.1) (fun _=>(h.enter hn a).more hk) fun _=>?_
 refine cw (fun o:Out=>MI (k+1) o.1) (fun _=>(h.exit hc hn).more hk) fun _=>?_
 refine cw (fun o:Out=>MI (k+1) o.1) (fun _=>(h.lr hn a).more hk) fun _=>?_
 refine cw (fun o:Out=>MI (k+1) o.1) (fun _=>h.alloc hk hc hn r a b t) fun _=>?_
 refine cw (fun o:Out=>MI (k+1) o.1) (fun _=>(h.load hn r g b).more hk) fun _=>?_
 refine cw (fun o:Out=>MI (k+1) o.1) (fun _=>(h.store hn g v b).more hk) fun _=>?_
 refine cw (fun o:Out=>MI (k+1) o.1) (fun _=>(h.gm hn r a).more hk) fun _=>?_
 exact cw (fun o:Out=>MI (k+1) o.1) (fun _=>(h.gate hc hn v a).more hk) fun _=>h.more hk
theorem MI.step {k:Nat} {m:M} (h:MI k m) (hk:k<9000) (hc:CT m) (n:Int) (c:oZ):MI (k+1) (m.step n c).1:=by
 unfold M.step
 split
 ·exact h.more hk
 ·rename_i hn
  have hn:0≤n∧n≤(m.th.length:Int)-1:=by rw [←bF];simpa using hn
  split
  ·exact h.more hk
  ·exact h.act hk hc ⟨hn.1,by omega⟩ c
open Go.Bm
theorem CT.of {m m':M} (h:CT m) (h1:∀(i:Nat) (y:dW),1≤i→m'.sc[i]?=some y→∃x:dW,m.sc[i]?=some x∧x.1.2.1=y.1.2.1) (h2:∀s,xA m'.th s=xA m.th s):CT m':=fun i y hi hy=>by
 obtain ⟨x,k1,k2⟩:=h1 i y hi hy
 rw [h2,←k2];exact h i x hi k1
theorem xP {l:List dW} {i:Nat} {x y:dW} (hx:l[i]?=some x) (hc:x.1.2.1=y.1.2.1):∀(j:Nat) (z:dW),1≤j→(l.set i y)[j]?=some z→∃w:dW,l[j]?=some w∧w.1.2.1=z.1.2.1:=by
 intro j z _ hz
 rcases getSet hz with ⟨e1,e2⟩ | ⟨_,g⟩
 ·rw [e1,e2];exact ⟨x,hx,hc⟩
 ·exact ⟨z,g,rfl⟩
theorem yA {m:M} {n:Int} (hn:0≤n∧n<m.th.length) (u:yD) (s:Int):xA (m.gp n u).th s+wI s (m.ax n)=xA m.th s+wI s u:=N6 u s (M.qb hn)
theorem CT.gp {m:M} (h:CT m) {n:Int} (hn:0≤n∧n<m.th.length) {u:yD} (hu:∀s,wI s u=wI s (m.ax n)):CT (m.gp n u):=
 h.of (fun i y _ hy=>⟨y,hy,rfl⟩) (fun s=>by have:=yA hn u s;have:=hu s;omega)
theorem CT.fV {m:M} (h:CT m) {n:Int} (hn:0≤n∧n<m.th.length) (r v:Int):CT (m.fV n r v):=h.gp hn (fun s=>rfl)
theorem CT.setObj {m:M} (h:CT m) (r:iV) (g:jK→jK):CT (m.setObj r g):=h
theorem CT.cK {m:M} (h:CT m) (i:Int) (a:mG):CT (m.cK i a):=h
theorem CT.xS {m:M} (h:CT m) {k:Nat} (hm:MI k m) {n:Int} (hn:0≤n∧n<m.th.length) {a:Int} (ha:1≤a∧a<m.p.1) {y:dW} {l:List cR} (d:Int)
  (hy:y.1.2.1=(ab m.sc a).1.2.1+d) (hl:∀s,(l.count (s,true):Int)=(m.ax n).aA.count (s,true)+(if s=a then d else 0)):CT ({ m with sc:=m.sc.set a.toNat y }.cD n l):=by
 intro i z hi hz
 have hx:=hm.nX (i:=a) (by omega)
 have hz:(m.sc.set a.toNat y)[i]?=some z:=hz
 have hc:=yA hn ⟨(m.ax n).dc,l⟩ (i:Int)
 have hl:=hl (i:Int)
 have e:xA (M.cD { m with sc:=m.sc.set a.toNat y } n l).th (i:Int)=xA (m.gp n ⟨(m.ax n).dc,l⟩).th (i:Int):=rfl
 rw [e]
 unfold wI at hc
 simp only at hc
 rcases getSet hz with ⟨e1,e2⟩ | ⟨ee,g⟩
 ·have h0:=h a.toNat _ (by omega) hx
  have h1:((a.toNat:Nat):Int)=a:=by omega
  have h2:(i:Int)=a:=by omega
  rw [h1] at h0
  rw [h2] at hc hl ⊢
  rw [if_pos rfl] at hl
  rw [e2]
  omega
 ·have h0:=h i z hi g
  rw [if_neg (by omega)] at hl
  omega
theorem CT.enter {k:Nat} {m:M} (h:MI k m) (hc:CT m) {n:Int} (hn:0≤n∧n<m.th.length) (a:Int):CT (m.enter n a).1:=by
 unfold M.enter
 split
 ·exact hc
 rename_i ha
 have ha:1≤a∧a≤m.p.1-1:=by rw [←bF];simpa using ha
 split
 ·exact hc
 rename_i hp
 split
 ·exact hc
 rename_i hu
 have hp:(m.ax n).aA.length<6:=by
  unfold push at hp
  split at hp
  ·exact absurd (by decide) hp
  ·omega
 have hx:=h.nX (i:=a) (by omega)
 have D1:lb m.sc 1 a=true:=bX.2 ⟨by omega,by rw [h.ls];omega⟩
 have qP:=h.si.cr _ _ hx
 unfold cS at hu ⊢
 rw [if_pos D1] at hu ⊢
 split
 ·rename_i h0
  have DV:=kf qP h0
  refine hc.xS h hn (a:=a) (by omega) 1 ?_ (fun s=>?_)
  ·rw [DV.1]
  ·unfold push
   rw [if_neg (by omega)]
   simp only
   rw [List.count_append,List.count_singleton]
   by_cases e:s=a
   ·subst e;simp
   ·rw [if_neg e,if_neg (by simp;intro e2;exact e e2.symm)];simp
 ·rename_i h0
  rw [if_neg h0] at hu;exact absurd h0 hu
theorem uA {l:List cR} {x:cR} (h:l.getLast?=some x):l=l.dropLast++[x]:=by
 obtain ⟨l',rfl⟩:=List.getLast?_eq_some_iff.1 h
 simp
theorem CT.leave {k:Nat} {m:M} (h:MI k m) (hc:CT m) {n:Int} (hn:0≤n∧n<m.th.length) {s:Int} {a:L9} (h1:1≤s∧s<m.p.1) (h2:(ab m.sc s).1.1=2) (hl:(m.ax n).aA.getLast?=some (s,true)):CT (m.leave n s (m.ax n).aA.dropLast a).1:=by
 have hx:=h.nX (i:=s) (by omega)
 have hr:=h.si.cr _ _ hx
 rw [M.mu h1.1 (by rw [h.ls];exact h1.2) hr h2]
 have hd:∀q,((m.ax n).aA.dropLast.count (q,true):Int)=(m.ax n).aA.count (q,true)+(if q=s then -1 else 0):=by
  intro q
  conv=>rhs;arg 1;rw [uA hl]
  rw [List.count_append,List.count_singleton]
  by_cases e:q=s
  ·subst e;simp;omega
  ·rw [if_neg e,if_neg (by simp;intro e2;exact e e2.symm)];simp
 split
 ·rename_i h3
  exact hc.xS h hn h1 (-1) (by simp only;omega) hd
 ·exact hc.xS h hn h1 (-1) (by simp only;omega) hd
theorem CT.aA {m:M} (h:CT m) {n:Int} (hn:0≤n∧n<m.th.length) {l:List cR} (hl:∀s,l.count (s,true)=(m.ax n).aA.count (s,true)):CT (m.cD n l):=h.gp hn (fun s=>hl s)
theorem CT.exit {k:Nat} {m:M} (h:MI k m) (hc:CT m) {n:Int} (hn:0≤n∧n<m.th.length):CT (m.exit n).1:=by
 have ht:=h.ax hn
 unfold M.exit
 split
 ·exact hc
 ·rename_i x hx
  obtain ⟨s,b⟩:=x
  split
  ·rename_i hb
   have hb:b=false:=hb
   subst hb
   refine hc.aA hn (fun q=>?_)
   conv=>rhs;rw [uA hx]
   rw [List.count_append,List.count_singleton]
   simp
  ·rename_i hb
   have hm:=pD hx
   have hb:b=true:=by simpa using hb
   subst hb
   have iH:=h.live hc (M.ko hn) (.inr hm)
   have hr:=ht.2.2.Dp _ hm
   have h1:=hr.2.2 rfl
   simp only at h1
   have ha:=(h.tq (i:=s) ⟨iH.2.2.1,iH.2.2.2⟩).2
   have B1:=h.qW (i:=s) ⟨iH.2.2.1,iH.2.2.2⟩ (ha.fin m.f)
   split
   ·split
    ·exact hc
    ·exact CT.leave B1 hc hn ⟨h1,iH.2.2.2⟩ iH.2.1 hx
   ·exact CT.leave h hc hn ⟨h1,iH.2.2.2⟩ iH.2.1 hx
theorem CT.lr {k:Nat} {m:M} (h:MI k m) (hc:CT m) {n:Int} (hn:0≤n∧n<m.th.length) (a:Int):CT (m.lr n a).1:=by
 unfold M.lr
 split
 ·exact hc
 split
 ·exact hc
 split
 ·exact hc
 rename_i hp
 have hp:(m.ax n).aA.length<6:=by
  unfold push at hp
  split at hp
  ·exact absurd (by decide) hp
  ·omega
 refine hc.aA hn (fun s=>?_)
 unfold push
 rw [if_neg (by omega)]
 simp
theorem CT.put {m to:M} (h:CT m) (ht:CT to) (l:List cR) (v s:Int):CT (m.put l v s to).1:=by
 unfold M.put
 split
 ·exact ht
 ·split
  ·exact h
  ·split
   ·exact h
   ·split
    ·exact h
    ·exact ht
theorem CT.create {k:Nat} {m:M} (h:MI k m) (hc:CT m) (a:Int):CT { m with sc:=(bC m.sc m.fl a).1,fl:=(bC m.sc m.fl a).2.1 }:=by
 refine hc.of (fun i y hi hy=>?_) (fun s=>rfl)
 have hy:(bC m.sc m.fl a).1[i]?=some y:=hy
 unfold bC at hy
 split at hy
 ·exact ⟨y,hy,rfl⟩
 ·cases mz:g_ m.sc with
  | none=>rw [mz] at hy;exact ⟨y,hy,rfl⟩
  | some j=>
   rw [mz] at hy
   simp only at hy
   cases ZD:jy m.fl (rK a) with
   | none=>rw [ZD] at hy;exact ⟨y,hy,rfl⟩
   | some r=>
    rw [ZD] at hy
    obtain ⟨x,h1,h2⟩:=gW mz
    exact xP h1 (by rw [ld h1]) i y hi hy
theorem CT.lE {k:Nat} {m:M} (h:MI k m) (hc:CT m) (a:Int):CT { m with sc:=(bg m.fr m.en m.sc m.fl a).1,fl:=(bg m.fr m.en m.sc m.fl a).2.1 }:=by
 refine hc.of (fun i y hi hy=>?_) (fun s=>rfl)
 have hy:(bg m.fr m.en m.sc m.fl a).1[i]?=some y:=hy
 unfold bg at hy
 split at hy
 ·exact ⟨y,hy,rfl⟩
 ·rename_i hn
  have hn:1≤a∧a<m.sc.length:=by rw [←bX];simpa using hn
  split at hy
  ·exact ⟨y,hy,rfl⟩
  ·split at hy
   ·exact ⟨y,hy,rfl⟩
   ·rename_i h1
    have hx:=iX (l:=m.sc) (i:=a) (by omega) hn.2
    have qP:=h.si.cr _ _ hx
    refine xP hx ?_ i y hi hy
    have h1:(ab m.sc a).1.1=1:=by simpa using h1
    unfold bf at qP
    rw [h1] at qP
    simp at qP
    simp only;omega
theorem CT.alloc {m:M} (hc:CT m) {n:Int} (hn:0≤n∧n<m.th.length) (r a b t:Int):CT (m.alloc n r a b t).1:=by
 unfold M.alloc
 refine cw (fun o:Out=>CT o.1) (fun _=>hc) fun _=>?_
 exact cw (fun o:Out=>CT o.1) (fun _=>hc) fun _=>CT.fV (m:=M.cK m _ _) hc hn _ _
theorem CT.load {m:M} (hc:CT m) {n:Int} (hn:0≤n∧n<m.th.length) (r g b:Int):CT (m.load n r g b).1:=by
 unfold M.load
 refine cw (fun o:Out=>CT o.1) (fun _=>hc) fun _=>?_
 split
 ·exact hc
 ·exact cw (fun o:Out=>CT o.1) (fun _=>hc) fun _=>hc.fV hn _ _
theorem CT.store {m:M} (hc:CT m) (n g v b:Int):CT (m.store n g v b).1:=by
 unfold M.store
 refine cw (fun o:Out=>CT o.1) (fun _=>hc) fun _=>?_
 split
 ·exact hc
 ·exact cw (fun o:Out=>CT o.1) (fun _=>hc) fun _=>CT.put hc (CT.setObj hc _ _) _ _ _
theorem CT.gm {m:M} (hc:CT m) {n:Int} (hn:0≤n∧n<m.th.length) (r a:Int):CT (m.gm n r a).1:=by
 unfold M.gm
 refine cw (fun o:Out=>CT o.1) (fun _=>hc) fun _=>?_
 exact cw (fun o:Out=>CT o.1) (fun _=>hc) fun _=>hc.fV hn _ _
theorem CT.gate {m:M} (hc:CT m) (n v a:Int):CT (m.gate n v a).1:=by
 unfold M.gate
 refine cw (fun o:Out=>CT o.1) (fun _=>hc) fun _=>?_
 exact cw (fun o:Out=>CT o.1) (fun _=>hc) fun _=>CT.put hc (CT.cK hc _ _) _ _ _
theorem CT.act {k:Nat} {m:M} (h:MI k m) (hc:CT m) {n:Int} (hn:0≤n∧n<m.th.length) (c:oZ):CT (m.act n c).1:=by
 obtain ⟨op,r,g,v,a,b,t⟩:=c
 refine cw (fun o:Out=>CT o.1) (fun _=>hc) fun _=>?_
 refine cw (fun o:Out=>CT o.1) (fun _=>hc.fV hn _ _) fun _=>?_
 refine cw (fun o:Out=>CT o.1) (fun _=>CT.create h hc a) fun _=>?_
 refine cw (fun o:Out=>CT o.1) (fun _=>CT.lE h hc a) fun _=>?_
 refine cw (fun o:Out=>CT o.1) (fun _=>CT.enter h hc hn a) fun _=>?_
 refine cw (fun o:Out=>CT o.1) (fun _=>CT.exit h hc hn) fun _=>?_
 refine cw (fun o:Out=>CT o.1) (fun _=>CT.lr h hc hn a) fun _=>?_
 refine cw (fun o:Out=>CT o.1) (fun _=>hc.alloc hn r a b t) fun _=>?_
 refine cw (fun o:Out=>CT o.1) (fun _=>hc.load hn r g b) fun _=>?_
 refine cw (fun o:Out=>CT o.1) (fun _=>hc.store n g v b) fun _=>?_
 refine cw (fun o:Out=>CT o.1) (fun _=>hc.gm hn r a) fun _=>?_
 exact cw (fun o:Out=>CT o.1) (fun _=>hc.gate n v a) fun _=>hc
theorem CT.step {k:Nat} {m:M} (h:MI k m) (hc:CT m) (n:Int) (c:oZ):CT (m.step n c).1:=by
 unfold M.step
 split
 ·exact hc
 ·rename_i hn
  have hn:0≤n∧n≤(m.th.length:Int)-1:=by rw [←bF];simpa using hn
  split
  ·exact hc
  ·exact CT.act h hc ⟨hn.1,by omega⟩ c
theorem vl:∀(l:List Nat),(∀v∈l,v=0)→l.sum=0
 | [],_=>rfl
 | x::l,h=>by rw [List.sum_cons,h x (by simp),vl l (fun v hv=>h v (by simp [hv]))]
theorem MI.new {p:rM} {f:List (List h_)} (hp:dL p=true) (hf:m9 f):MI 0 (M.new p f)∧CT (M.new p f):=by
 have h:=da.1 hp
 have Hl:∀(i:Nat) (x:dW),1≤i→(M.new p f).sc[i]?=some x→x=((0,0,-1,0),(0,0)):=by
  intro i x hi hx
  cases i with
  | zero=>omega
  | succ i=>
   have hx:(List.replicate (p.1-1).toNat (((0,0,-1,0),(0,0)):dW))[i]?=some x:=by simpa [M.new] using hx
   exact List.eq_of_mem_replicate (zG hx)
 have Kl:∀x:dW,(M.new p f).sc[0]?=some x→x=((2,1,-1,0),(p.1*64,p.2.2.1)):=by
  intro x hx
  have:some (((2,1,-1,0),(p.1*64,p.2.2.1)):dW)=some x:=by simpa [M.new] using hx
  cases this;rfl
 have mz:(M.new p f).fr=p.1*64+p.2.2.1:=rfl
 have LZ:(M.new p f).en=p.1*64+p.2.2.1+p.2.2.2:=rfl
 have yf:∀t∈(M.new p f).th,t=⟨[0,0,0,0],[]⟩:=fun t ht=>List.eq_of_mem_replicate ht
 refine ⟨⟨by omega,hp,hf,⟨by rw [mz,LZ];omega,?_,?_,?_,?_,?_,?_,?_,?_⟩,?_,?_,?_,?_,?_,?_⟩,?_⟩
 ·rw [show (M.new p f).sc.length=(p.1-1).toNat+1 by simp [M.new]];omega
 ·intro x hx
  have hx:x∈(if 0<p.2.2.2 then [(p.1*64+p.2.2.1,p.2.2.2)] else []):=hx
  split at hx
  ·simp only [zF] at hx
   subst hx
   unfold lX;rw [mz,LZ];simp only;omega
  ·cases hx
 ·show List.Pairwise dj (if 0<p.2.2.2 then [(p.1*64+p.2.2.1,p.2.2.2)] else [])
  split
  ·exact List.pairwise_singleton _ _
  ·exact List.Pairwise.nil
 ·intro i x hx
  rcases Nat.eq_zero_or_pos i with rfl | hi
  ·rw [Kl x hx];exact (by decide:bf (2,1,-1,0)=true)
  ·rw [Hl i x hi hx];exact (by decide:bf (0,0,-1,0)=true)
 ·intro i x hi hx h0
  rw [Hl i x hi hx] at h0;exact absurd rfl h0
 ·intro i x hi hx h0
  rw [Hl i x hi hx] at h0;exact absurd rfl h0
 ·intro i j x y hi hj hn hx hy h0
  rw [Hl i x hi hx] at h0;exact absurd rfl h0
 ·intro x hx
  rw [Kl x hx,mz]
  refine ⟨rfl,?_⟩
  show 0≤p.1*64∧p.1*64%8=0∧0≤p.2.2.1∧p.2.2.1%8=0∧p.1*64+p.2.2.1≤p.1*64+p.2.2.1∧8≤p.1*64
  omega
 ·show (if 0<p.2.2.2 then [(p.1*64+p.2.2.1,p.2.2.2)] else []).length≤0+1
  split<;>simp
 ·show ((_::_:List dW).length:Int)=p.1
  simp;omega
 ·show ((List.replicate p.1.toNat oP).length:Int)=p.1
  simp;omega
 ·show ((List.replicate p.2.1.toNat _).length:Int)=p.2.1
  simp;omega
 ·intro t ht
  rw [yf t ht]
  refine ⟨rfl,fun v hv=>?_,⟨by simp,fun e he=>by simp at he,fun A B s e=>by simp at e⟩⟩
  have:v=0:=by simpa using hv
  subst this;simp [u64]
 ·intro i x a hx ha
  have ha:(List.replicate p.1.toNat oP)[i]?=some a:=ha
  have:=List.eq_of_mem_replicate (zG ha)
  subst this
  refine AI.empty ?_
  rcases Nat.eq_zero_or_pos i with rfl | hi
  ·rw [Kl x hx];simp only;omega
  ·rw [Hl i x hi hx];simp
 ·intro i x hi hx
  rw [Hl i x hi hx]
  have:xA (M.new p f).th (i:Int)=0:=by
   unfold xA
   refine vl _ fun v hv=>?_
   obtain ⟨t,ht,rfl⟩:=List.mem_map.1 hv
   rw [yf t ht];rfl
  rw [this];rfl
end Go.jJ
namespace Go.Proofs.YtihiooaimdoapaaGreat
open Go.Bm Go.jJ
structure NA where
 used:Int
 gate:Int
 jo:Option Nat
 os:List (Nat×Nat×jK)
def NA.er (a:NA):mG:=⟨a.used,a.gate,a.os.map fun x=>x.2.2⟩
structure CR where
 sc:Nat
 ja:Nat
 jt:Nat
 mp:Nat
def At (L:List NA) (i p:Nat) (x:Nat×Nat×jK):Prop:=∃a,L[i]?=some a∧a.os[p]?=some x
structure MR (c0:T0) (c1:T1) (d0:T2) (d1:T3) (d2:T4) (d3:T5) (d4:T6) (d5:T7) (d6:T8) (d7:T9) (d8:dT) (md:Nat) (m:M) (N:CR) (L:List NA) (es:List (iV×Option Nat)):Prop where
 box:c0[md]?=some (m.p,(m.f,(some N.sc,(some N.ja,(some N.jt,some N.mp)))))
 sr:mM c1 d0 d1 d2 N.sc m.fr m.en m.sc m.fl
 th:aD d4 N.jt=some (m.th.map fun t=>(t.dc,t.aA))
 ar:aD d3 N.ja=some (L.map fun a=>(a.used,(a.gate,a.jo)))
 er:m.ar=L.map NA.er
 jo:∀a∈L,(a.jo=none∧a.os=[])∨∃j,a.jo=some j∧aD d7 j=some (a.os.map fun x=>some x.1)
 ob:∀i p x,At L i p x→d6[x.1]?=some (x.2.2.ref,(x.2.2.tag,(some x.2.1,x.2.2.done)))∧aD d8 x.2.1=some x.2.2.aS
 n6:∀i j p q x y,At L i p x→At L j q y→x.1=y.1→i=j∧p=q
 n8:∀i j p q x y,At L i p x→At L j q y→x.2.1=y.2.1→i=j∧p=q
 n7:∀(i j:Nat) (a b:NA) (r:Nat),L[i]?=some a→L[j]?=some b→a.jo=some r→b.jo=some r→i=j
 mp:d5[N.mp]?=some es
 ek:(es.map fun e=>e.1).Nodup
 em:∀r v,(r,v)∈es↔∃i p x,At L i p x∧r=x.2.2.ref∧v=some x.1
def ug (c0:T0) (c1:T1) (d0:T2) (d1:T3) (d2:T4) (d3:T5) (d4:T6) (d5:T7) (d6:T8) (d7:T9) (d8:dT) (md:Nat) (m:M):Prop:=∃N L es,MR c0 c1 d0 d1 d2 d3 d4 d5 d6 d7 d8 md m N L es
abbrev Gd:Type:=(((Int×(Int×(List Int)))×(Int×Unit))×(T2×(T3×(T4×(T5×(T6×(T7×(T8×(T9×(dT×Unit))))))))))
def bL (x:Option Gd) (c0:T0) (c1:T1) (md:Nat) (o:Out):Prop:=∃d0 d1 d2 d3 d4 d5 d6 d7 d8,x=some (((o.2.1,(o.2.2.1,o.2.2.2)),(0,())),(d0,(d1,(d2,(d3,(d4,(d5,(d6,(d7,(d8,()))))))))))
 ∧ ug c0 c1 d0 d1 d2 d3 d4 d5 d6 d7 d8 md o.1
theorem bL.of {x y:Option Gd} {c0:T0} {c1:T1} {md:Nat} {o:Out} (e:x=y) (h:bL y c0 c1 md o):bL x c0 c1 md o:=by rw [e];exact h
theorem DS {x y:Option Gd} {c0:T0} {c1:T1} {md:Nat} {o:Out} (k:bL y c0 c1 md o) (h:x=y:=by (first | with_reducible exact (cP _ _) | with_reducible exact a9 | with_reducible exact bc | with_reducible exact bh | with_reducible exact (sh (by assumption)) | with_reducible exact (uj (by assumption)) | with_reducible exact (oG (by assumption)) | with_reducible exact (uR (by assumption)) | with_reducible exact a8 | with_reducible exact aO | with_reducible exact bZ | with_reducible exact bY | with_reducible exact b7 | with_reducible exact b8 | with_reducible exact b_ | with_reducible exact b9 | with_reducible exact bJ | with_reducible exact Ao | (with_reducible apply CI;with_reducible (first | exact bD _ _ _ | assumption | exact aC (by assumption) | exact aC (aC (by assumption)) | exact aC (aC (aC (by assumption))) | exact aC (aC (aC (aC (by assumption)))) | exact aC (aC (aC (aC (aC (by assumption))))))) | (with_reducible refine aZ ?qh;case qh=>first | omega | (simp (disch:=omega) only [aG,aN,a5,bP,bU,aT,a_,cF,bB,cQ,cM,aY,aF,zE,List.length_nil,zO,zR,zH,fU,f_,dQ,lK,dg,zM]<;>omega)) | (with_reducible refine a7 ?qh;case qh=>first | omega | (simp (disch:=omega) only [aG,aN,a5,bP,bU,aT,a_,cF,bB,cQ,cM,aY,aF,zE,List.length_nil,zO,zR,zH,fU,f_,dQ,lK,dg,zM]<;>omega)) | (with_reducible refine a4 ?qh;case qh=>first | omega | (simp (disch:=omega) only [aG,aN,a5,bP,bU,aT,a_,cF,bB,cQ,cM,aY,aF,zE,List.length_nil,zO,zR,zH,fU,f_,dQ,lK,dg,zM]<;>omega)) | (with_reducible refine ba ?qh;case qh=>first | omega | (simp (disch:=omega) only [aG,aN,a5,bP,bU,aT,a_,cF,bB,cQ,cM,aY,aF,zE,List.length_nil,zO,zR,zH,fU,f_,dQ,lK,dg,zM]<;>omega)) | (with_reducible refine ak ?qh;case qh=>first | omega | (simp (disch:=omega) only [aG,aN,a5,bP,bU,aT,a_,cF,bB,cQ,cM,aY,aF,zE,List.length_nil,zO,zR,zH,fU,f_,dQ,lK,dg,zM]<;>omega)) | (with_reducible refine ao ?qh;case qh=>first | omega | (simp (disch:=omega) only [aG,aN,a5,bP,bU,aT,a_,cF,bB,cQ,cM,aY,aF,zE,List.length_nil,zO,zR,zH,fU,f_,dQ,lK,dg,zM]<;>omega)))):bL x c0 c1 md o:=by rw [h];exact k
theorem DN {x y:Option Gd} {c0:T0} {c1:T1} {md:Nat} {o:Out} (k:bL y c0 c1 md o) (h:x=y:=by (first | with_reducible exact a9 | with_reducible exact bc | with_reducible exact bh | with_reducible exact (sh (by assumption)) | with_reducible exact (uj (by assumption)) | with_reducible exact (oG (by assumption)) | with_reducible exact (uR (by assumption)) | with_reducible exact a8 | with_reducible exact aO | with_reducible exact bZ | with_reducible exact bY | with_reducible exact b7 | with_reducible exact b8 | with_reducible exact b_ | with_reducible exact b9 | with_reducible exact bJ | with_reducible exact Ao | (with_reducible apply CI;with_reducible (first | exact bD _ _ _ | assumption | exact aC (by assumption) | exact aC (aC (by assumption)) | exact aC (aC (aC (by assumption))) | exact aC (aC (aC (aC (by assumption)))) | exact aC (aC (aC (aC (aC (by assumption))))))) | (with_reducible refine aZ ?qh;case qh=>first | omega | (simp (disch:=omega) only [aG,aN,a5,bP,bU,aT,a_,cF,bB,cQ,cM,aY,aF,zE,List.length_nil,zO,zR,zH,fU,f_,dQ,lK,dg,zM]<;>omega)) | (with_reducible refine a7 ?qh;case qh=>first | omega | (simp (disch:=omega) only [aG,aN,a5,bP,bU,aT,a_,cF,bB,cQ,cM,aY,aF,zE,List.length_nil,zO,zR,zH,fU,f_,dQ,lK,dg,zM]<;>omega)) | (with_reducible refine a4 ?qh;case qh=>first | omega | (simp (disch:=omega) only [aG,aN,a5,bP,bU,aT,a_,cF,bB,cQ,cM,aY,aF,zE,List.length_nil,zO,zR,zH,fU,f_,dQ,lK,dg,zM]<;>omega)) | (with_reducible refine ba ?qh;case qh=>first | omega | (simp (disch:=omega) only [aG,aN,a5,bP,bU,aT,a_,cF,bB,cQ,cM,aY,aF,zE,List.length_nil,zO,zR,zH,fU,f_,dQ,lK,dg,zM]<;>omega)) | (with_reducible refine ak ?qh;case qh=>first | omega | (simp (disch:=omega) only [aG,aN,a5,bP,bU,aT,a_,cF,bB,cQ,cM,aY,aF,zE,List.length_nil,zO,zR,zH,fU,f_,dQ,lK,dg,zM]<;>omega)) | (with_reducible refine ao ?qh;case qh=>first | omega | (simp (disch:=omega) only [aG,aN,a5,bP,bU,aT,a_,cF,bB,cQ,cM,aY,aF,zE,List.length_nil,zO,zR,zH,fU,f_,dQ,lK,dg,zM]<;>omega)))):bL x c0 c1 md o:=by rw [h];exact k
theorem Ra {α:Type} {x:Option α} {f:α→Option Gd} {a:α} {c0:T0} {c1:T1} {md:Nat} {o:Out} (h:x=some a) (k:bL (f a) c0 c1 md o):bL (bd x f) c0 c1 md o:=by rw [h];exact k
section
variable {c0:T0} {c1:T1} {d0:T2} {d1:T3} {d2:T4} {d3:T5} {d4:T6} {d5:T7} {d6:T8} {d7:T9} {d8:dT} {md:Nat} {m:M}
theorem zf (e:Int):g.aQ e=some (((e,(0,[])),()),()):=rfl
theorem bL.code (h:ug c0 c1 d0 d1 d2 d3 d4 d5 d6 d7 d8 md m) (e:Int):bL (some (((e,(0,[])),(0,())),(d0,(d1,(d2,(d3,(d4,(d5,(d6,(d7,(d8,()))))))))))) c0 c1 md (m.code e):=⟨_,_,_,_,_,_,_,_,_,rfl,h⟩
theorem IM (c:oZ) {K:((Bool×Unit)×Unit)→Option Gd}:bd (g.bT (c.1,(c.2.1,(c.2.2.1,(c.2.2.2.1,(c.2.2.2.2.1,(c.2.2.2.2.2.1,c.2.2.2.2.2.2))))))) K=K ((cC c,()),()):=nK (sw c) rfl
theorem kh {c:oZ} (hr:cC c=true) {K:((Bool×Unit)×Unit)→Option Gd}:bd (g.bT (c.1,(c.2.1,(c.2.2.1,(c.2.2.2.1,(c.2.2.2.2.1,(c.2.2.2.2.2.1,c.2.2.2.2.2.2))))))) K=K ((true,()),()):=by rw [IM,hr]
theorem pb {n:Int} (hn:0≤n∧n<m.th.length):nth ([0,0,0,0],[]) (m.th.map fun t=>(t.dc,t.aA)) (nN n)=((m.ax n).dc,(m.ax n).aA):=by
 refine bj ?_
 rw [zL]
 show (m.th[n.toNat]?).map _=_
 rw [M.qb hn];rfl
theorem nT {n:Int} (hn:0≤n∧n<m.th.length) (t:yD) (f:List Int×List cR→List Int×List cR) (hf:f ((m.ax n).dc,(m.ax n).aA)=(t.dc,t.aA)):aw ([0,0,0,0],[]) (m.th.map fun t=>(t.dc,t.aA)) (nN n) f=(m.gp n t).th.map fun t=>(t.dc,t.aA):=by
 unfold aw aU
 rw [pb hn,hf]
 unfold M.gp
 rw [List.map_set];rfl
theorem pU {n r v:Int} (h:(m.ax n).dc.length=4) (hr:r.toNat<4):cy 0 (m.ax n).dc (nN r) v=(m.ax n).dc.set r.toNat v:=by
 unfold cy
 rw [if_pos (by rw [h];exact hr)];rfl
theorem MR.gp {N:CR} {L:List NA} {es:List (iV×Option Nat)} (h:MR c0 c1 d0 d1 d2 d3 d4 d5 d6 d7 d8 md m N L es) (n:Int) (t:yD):MR c0 c1 d0 d1 d2 d3 (aU d4 N.jt (some ((m.gp n t).th.map fun t=>(t.dc,t.aA)))) d5 d6 d7 d8 md (m.gp n t) N L es:=
 ⟨h.box,h.sr,aC h.th,h.ar,h.er,h.jo,h.ob,h.n6,h.n8,h.n7,h.mp,h.ek,h.em⟩
theorem pn {c:oZ} {l:List Int} (hr:cC c=true) (hl:rZ c=l):∀r∈l,r<4:=by
 unfold cC at hr
 rw [hl,List.all_eq_true] at hr
 intro r hm
 simpa using hr r hm
theorem TR (h:ug c0 c1 d0 d1 d2 d3 d4 d5 d6 d7 d8 md m) (n:Int) {c:oZ} (hr:cC c=true):bL (g.iE md n c c0 c1 d0 d1 d2 d3 d4 d5 d6 d7 d8) c0 c1 md (m.code 0):=by
 unfold g.iE
 refine bL.of (kh hr) ?_
 repeat refine DS ?_
 exact bL.code h 0
theorem TP {N:CR} {L:List NA} {es:List (iV×Option Nat)} (h:MR c0 c1 d0 d1 d2 d3 d4 d5 d6 d7 d8 md m N L es) {k:Nat} (hi:MI k m) {n:Int} (hn:0≤n∧n<m.th.length) {r gg v a b t:Int} (hr:cC (1,r,gg,v,a,b,t)=true) (AF:0≤r) :
  bL (g.fG md n (1,r,gg,v,a,b,t) c0 c1 d0 d1 d2 d3 d4 d5 d6 d7 d8 N.jt) c0 c1 md (M.code (m.fV n r (kU .u64 a)) 0):=by
 have yf:=h.th
 have J7:r<4:=pn (c:=(1,r,gg,v,a,b,t)) (l:=[r]) hr rfl r (by simp)
 have ht:=hi.ax hn
 unfold g.fG
 refine bL.of (kh (c:=(1,r,gg,v,a,b,t)) hr) ?_
 dsimp only
 repeat refine DS ?_
 rw [nT hn ⟨(m.ax n).dc.set r.toNat (kU .u64 a),(m.ax n).aA⟩ _ (by dsimp only;rw [pU ht.1 (by omega)])]
 exact bL.code ⟨N,L,es,h.gp n _⟩ 0
theorem mX {N:CR} {L:List NA} {es:List (iV×Option Nat)} (h:MR c0 c1 d0 d1 d2 d3 d4 d5 d6 d7 d8 md m N L es):nth j_ c0 md=(m.p,(m.f,(some N.sc,(some N.ja,(some N.jt,some N.mp))))):=bj h.box
theorem TO {N:CR} {L:List NA} {es:List (iV×Option Nat)} (h:MR c0 c1 d0 d1 d2 d3 d4 d5 d6 d7 d8 md m N L es) {k:Nat} (hi:MI k m) (n:Int) {r gg v a b t:Int} :
  bL (g.iD md n (2,r,gg,v,a,b,t) c0 c1 d0 d1 d2 d3 d4 d5 d6 d7 d8) c0 c1 md ({ m with sc:=(bC m.sc m.fl a).1,fl:=(bC m.sc m.fl a).2.1 },((bC m.sc m.fl a).2.2.2,(bC m.sc m.fl a).2.2.1,[])):=by
 have QK:=hi.fk
 have AG:=hi.kk
 have yj:=hi.si.len
 obtain ⟨AR,sV,AQ,k1,k2⟩:=A5 h.sr a hi.xok (by omega) (by omega)
 unfold g.iD
 refine bL.of (kh (c:=(2,r,gg,v,a,b,t)) rfl) ?_
 simp only [mX h]
 repeat refine DS ?_
 exact ⟨_,_,_,_,_,_,_,_,_,rfl,N,L,es,h.box,k2,h.th,h.ar,h.er,h.jo,h.ob,h.n6,h.n8,h.n7,h.mp,h.ek,h.em⟩
theorem TN {N:CR} {L:List NA} {es:List (iV×Option Nat)} (h:MR c0 c1 d0 d1 d2 d3 d4 d5 d6 d7 d8 md m N L es) {k:Nat} (hi:MI k m) (n:Int) {r gg v a b t:Int} :
  bL (g.iC md n (3,r,gg,v,a,b,t) c0 c1 d0 d1 d2 d3 d4 d5 d6 d7 d8) c0 c1 md (M.code { m with sc:=(bg m.fr m.en m.sc m.fl a).1,fl:=(bg m.fr m.en m.sc m.fl a).2.1 } (bg m.fr m.en m.sc m.fl a).2.2):=by
 have QK:=hi.fk
 have AG:=hi.kk
 have yj:=hi.si.len
 obtain ⟨AR,sV,AQ,k1,k2⟩:=yL h.sr hi.si a (by omega)
 have k3:=zf (bg m.fr m.en m.sc m.fl a).2.2
 unfold g.iC
 refine bL.of (kh (c:=(3,r,gg,v,a,b,t)) rfl) ?_
 simp only [mX h]
 repeat refine DS ?_
 exact ⟨_,_,_,_,_,_,_,_,_,rfl,N,L,es,h.box,k2,h.th,h.ar,h.er,h.jo,h.ob,h.n6,h.n8,h.n7,h.mp,h.ek,h.em⟩
theorem Am {l:List cR} (e:cR) (hl:l.length≤1000):g.ly l e=some (((push l e).1,((push l e).2,())),()):=by
 unfold g.ly push
 by_cases h:6≤l.length
 ·rw [if_pos h]
  repeat refine HS ?_
  rfl
 ·rw [if_neg h]
  have e1:(dr (len l) (rep (α:=(Int×Bool)) (nN (af IntKind.i64 (zN (len l)) 1)) (0,false)))=[(0,false)]:=by
   have:nN (af IntKind.i64 (zN (len l)) 1)=l.length+1:=by rw [cF,bB,aG (by omega)];rfl
   rw [this]
   unfold dr rep
   rw [List.drop_replicate,bB]
   simp
  rw [e1]
  repeat refine HS ?_
  refine congrArg (fun z=>some ((z,((0:Int),())),())) ?_
  exact AU rfl
theorem xC:g.ku []=some (([],((0,false),(23,()))),()):=by
 unfold g.ku
 repeat refine HS ?_
 rfl
theorem uI {l:List cR} (hl:l.length≤1000):g.lA l=some ((l,()),()):=by
 unfold g.lA
 repeat refine HS ?_
 rfl
theorem CA {l:List cR} {x:cR} (hl:l.length≤1000) (hx:l.getLast?=some x):g.ku l=some ((l.dropLast,(x,(0,()))),()):=by
 obtain ⟨l',rfl⟩:=List.getLast?_eq_some_iff.1 hx
 have wh:(l'++[x]).length=l'.length+1:=by simp
 have e1:aK IntKind.i64 (zN (len (l'++[x]))) 1=(l'.length:Int):=by rw [cF,bB,aN (by omega)];omega
 have e2:tk (aF (nN (l'.length:Int)) 0) (dr 0 (l'++[x]))=l':=by
  unfold tk dr aF
  rw [List.drop_zero,cQ,Nat.sub_zero]
  exact List.take_left' rfl
 unfold g.ku
 rw [e1,e2]
 repeat refine HS ?_
 refine nK (uI (by omega)) ?_
 repeat refine HS ?_
 rw [BI (by rfl),List.dropLast_concat]
theorem FM {r q:iV}:nf (Ty.pair (Ty.int IntKind.i64) (Ty.pair (Ty.int IntKind.i64) (Ty.int IntKind.i64))) r q=true↔r=q:=by
 obtain ⟨a,b,c⟩:=r
 obtain ⟨a',b',c'⟩:=q
 show (aj a a' && (aj b b' && aj c c'))=true↔_
 simp [aj]
theorem x7 {p:iV→Bool} {r:iV} (hp:∀q,p q=true↔r=q):∀(es:List (iV×Option Nat)) (i:Nat),(∀v,(r,v)∉es)→oV p es i=none
 | [],i,h=>rfl
 | (q,v)::es,i,h=>by
  show (bif p q then some (i,v) else oV p es (i+1))=none
  cases hq:p q with
  | true=>
   rw [hp] at hq
   subst hq
   exact absurd (by simp) (h v)
  | false=>
   exact x7 hp es (i+1) (fun w hw=>h w (by simp [hw]))
theorem x6 {p:iV→Bool} {r:iV} (hp:∀q,p q=true↔r=q) {v:Option Nat}:∀(es:List (iV×Option Nat)) (i:Nat),(es.map fun e=>e.1).Nodup→(r,v)∈es→∃j,oV p es i=some (i+j,v)∧es[j]?=some (r,v)
 | [],i,_,h=>by cases h
 | (q,w)::es,i,hk,h=>by
  rw [List.map_cons,List.nodup_cons] at hk
  have e0:oV p ((q,w)::es) i=(bif p q then some (i,w) else oV p es (i+1)):=rfl
  rw [e0]
  cases hq:p q with
  | true=>
   rw [hp] at hq
   subst hq
   rcases List.mem_cons.1 h with h1 | h1
   ·cases h1;exact ⟨0,rfl,rfl⟩
   ·exact absurd (List.mem_map.2 ⟨_,h1,rfl⟩) hk.1
  | false=>
   rcases List.mem_cons.1 h with h1 | h1
   ·cases h1
    rw [(hp _).2 rfl] at hq;cases hq
   ·obtain ⟨j,k1,k2⟩:=x6 hp es (i+1) hk.2 h1
    refine ⟨j+1,?_,by simpa using k2⟩
    show oV p es (i+1)=_
    rw [k1];congr 2;omega
theorem BO {r:iV} (es:List (iV×Option Nat)) (i:Nat) (h:∀v,(r,v)∉es):oV (nf (Ty.pair (Ty.int IntKind.i64) (Ty.pair (Ty.int IntKind.i64) (Ty.int IntKind.i64))) r) es i=none:=x7 (fun _=>FM) es i h
theorem BN {r:iV} {v:Option Nat} (es:List (iV×Option Nat)) (i:Nat) (hk:(es.map fun e=>e.1).Nodup) (h:(r,v)∈es):∃j,oV (nf (Ty.pair (Ty.int IntKind.i64) (Ty.pair (Ty.int IntKind.i64) (Ty.int IntKind.i64))) r) es i=some (i+j,v)∧es[j]?=some (r,v):=x6 (fun _=>FM) es i hk h
theorem MR.place {N:CR} {L:List NA} {es:List (iV×Option Nat)} (h:MR c0 c1 d0 d1 d2 d3 d4 d5 d6 d7 d8 md m N L es) {k:Nat} (hi:MI k m) {i p:Nat} {x:Nat×Nat×jK} (hx:At L i p x) :
  ∃(a:NA) (y:dW),L[i]?=some a∧a.os[p]?=some x∧m.ar[i]?=some a.er∧m.bm (i:Int)=a.er∧m.sc[i]?=some y∧AI y i k a.er∧a.er.aX[p]?=some x.2.2∧x.2.2.ref.1=(i:Int):=by
 obtain ⟨a,h1,h2⟩:=hx
 have Uw:m.ar[i]?=some a.er:=by rw [h.er,zL,h1];rfl
 have sI:=hi.ls
 have Sr:=hi.la
 have eh:=(zB.1 Uw).1
 have BX:m.sc[i]?=some m.sc[i]:=zD (by omega)
 have hA:=hi.ai i _ _ BX Uw
 have ho:a.er.aX[p]?=some x.2.2:=by
  show (a.os.map fun x=>x.2.2)[p]?=_
  rw [zL,h2];rfl
 exact ⟨a,_,h1,h2,Uw,M.uc Uw,BX,hA,ho,(hA.ob _ (zG ho)).1⟩
theorem AI.one {x:dW} {i k:Nat} {a:mG} (h:AI x i k a) {p q:Nat} {o u:jK} (hp:a.aX[p]?=some o) (hq:a.aX[q]?=some u) (e:o.ref=u.ref):p=q:=by
 have Zj:=List.pairwise_iff_getElem.1 h.od
 obtain ⟨l1,e1⟩:=zB.1 hp
 obtain ⟨l2,e2⟩:=zB.1 hq
 rcases Nat.lt_trichotomy p q with eh | heq | hgt
 ·have:=Zj p q l1 l2 eh
  rw [e1,e2,e] at this;omega
 ·exact heq
 ·have:=Zj q p l2 l1 hgt
  rw [e1,e2,e] at this;omega
theorem MR.get {N:CR} {L:List NA} {es:List (iV×Option Nat)} (h:MR c0 c1 d0 d1 d2 d3 d4 d5 d6 d7 d8 md m N L es) {k:Nat} (hi:MI k m) (r:iV) (h0:0≤r.1) :
  (m.find r=none∧oV (nf (Ty.pair (Ty.int IntKind.i64) (Ty.pair (Ty.int IntKind.i64) (Ty.int IntKind.i64))) r) es 0=none) ∨
  ∃(p:Nat) (x:Nat×Nat×jK) (j:Nat),m.find r=some x.2.2∧oV (nf (Ty.pair (Ty.int IntKind.i64) (Ty.pair (Ty.int IntKind.i64) (Ty.int IntKind.i64))) r) es 0=some (j,some x.1)∧es[j]?=some (r,some x.1)∧At L r.1.toNat p x∧x.2.2.ref=r:=by
 by_cases hex:∃i p x,At L i p x∧r=x.2.2.ref
 ·obtain ⟨i,p,x,hx,rfl⟩:=hex
  obtain ⟨a,y,h1,h2,h3,h4,h5,h6,h7,h8⟩:=h.place hi hx
  obtain ⟨j,k1,k2⟩:=BN es 0 h.ek ((h.em _ (some x.1)).2 ⟨i,p,x,hx,rfl,rfl⟩)
  rw [Nat.zero_add] at k1
  have QI:x.2.2.ref.1.toNat=i:=by omega
  refine .inr ⟨p,x,j,?_,k1,k2,by rw [QI];exact hx,rfl⟩
  unfold M.find
  rw [h8,h4]
  cases hf:a.er.aX.find? (fun o=>decide (o.ref=x.2.2.ref)) with
  | none=>
   rw [List.find?_eq_none] at hf
   exact absurd (by simp) (hf x.2.2 (zG h7))
  | some o=>
   have ho1:=List.mem_of_find?_eq_some hf
   have ho2:o.ref=x.2.2.ref:=by simpa using List.find?_some hf
   obtain ⟨i1,g1⟩:=List.getElem?_of_mem ho1
   have e:=AI.one h6 g1 h7 ho2
   rw [e,h7] at g1
   cases g1;rfl
 ·refine .inl ⟨?_,BO es 0 fun v hv=>?_⟩
  ·cases hf:m.find r with
   | none=>rfl
   | some o=>
    obtain ⟨h1,h2⟩:=M.ym hf
    exfalso
    unfold M.bm at h1
    rw [h.er,zA,zL] at h1
    cases hL:L[r.1.toNat]? with
    | none=>rw [hL] at h1;cases h1
    | some a=>
     rw [hL] at h1
     obtain ⟨p,hp⟩:=List.getElem?_of_mem h1
     have hp:(a.os.map fun x=>x.2.2)[p]?=some o:=hp
     rw [zL] at hp
     cases hx:a.os[p]? with
     | none=>rw [hx] at hp;cases hp
     | some x=>
      rw [hx] at hp
      cases hp
      exact hex ⟨_,p,x,⟨a,hL,hx⟩,h2.symm⟩
  ·obtain ⟨i,p,x,hx,h1,_⟩:=(h.em r v).1 hv
   exact hex ⟨i,p,x,hx,h1⟩
end
open Go.Bm Go.jJ
section
variable {c0:T0} {c1:T1} {d0:T2} {d1:T3} {d2:T4} {d3:T5} {d4:T6} {d5:T7} {d6:T8} {d7:T9} {d8:dT} {md:Nat} {m:M} {N:CR} {L:List NA} {es:List (iV×Option Nat)}
theorem Lc (h:MR c0 c1 d0 d1 d2 d3 d4 d5 d6 d7 d8 md m N L es):(nth j_ c0 md).1.1=m.p.1:=by rw [mX h]
theorem abJ (h:MR c0 c1 d0 d1 d2 d3 d4 d5 d6 d7 d8 md m N L es):(nth j_ c0 md).2.1=m.f:=by rw [mX h]
theorem ua (h:MR c0 c1 d0 d1 d2 d3 d4 d5 d6 d7 d8 md m N L es):(nth j_ c0 md).2.2.1=some N.sc:=by rw [mX h]
theorem rI (h:MR c0 c1 d0 d1 d2 d3 d4 d5 d6 d7 d8 md m N L es):(nth j_ c0 md).2.2.2.1=some N.ja:=by rw [mX h]
theorem Tk (h:MR c0 c1 d0 d1 d2 d3 d4 d5 d6 d7 d8 md m N L es):(nth j_ c0 md).2.2.2.2.1=some N.jt:=by rw [mX h]
theorem wN (h:MR c0 c1 d0 d1 d2 d3 d4 d5 d6 d7 d8 md m N L es):(nth j_ c0 md).2.2.2.2.2=some N.mp:=by rw [mX h]
abbrev abV:Type:=(((Option Nat)×(Int×Unit))×(Unit×(Unit×(Unit×Unit))))
theorem r_ {k:Nat} (hi:MI k m) {n:Int} (hn:0≤n∧n<m.th.length) (s:Int):g.dy (nth ([0,0,0,0],[]) (m.th.map fun t=>(t.dc,t.aA)) (nN n)).2 s=some ((reach (m.ax n).aA s,()),()):=by
 rw [pb hn]
 have:=(hi.ax hn).2.2.len
 exact xB (l:=(m.ax n).aA) s (by omega)
theorem vf (h:MR c0 c1 d0 d1 d2 d3 d4 d5 d6 d7 d8 md m N L es) {k:Nat} (hi:MI k m) {n:Int} (hn:0≤n∧n<m.th.length) {V:Int} (hV:u64 V) (hc:(m.check (m.ax n).aA V).1=none) (K:abV→Option Gd) :
  (bd (g.fX V) (fun dC=>(jn (fun (Nf:((Bool×Unit)×(Unit×(Unit×(Unit×Unit))))→_)=>(br (aH (aj dC.1.2.1 0)) (Nf ((true,()),((),((),((),()))))) (Nf (((cZ (nth j_ c0 md).1.1 dC.1.1.1),()),((),((),((),()))))))) (fun (xe:((Bool×Unit)×(Unit×(Unit×(Unit×Unit)))))=>(br xe.1.1 (K ((none,(18,())),((),((),((),()))))) (bd (aD d4 N.jt) (fun iW=>(bd (g.dy (nth ([0,0,0,0],[]) iW (nN n)).2 dC.1.1.1) (fun fM=>(br (aH fM.1.1) (K ((none,(20,())),((),((),((),()))))) (opt (nth j_ c0 md).2.2.1 none (fun gZ=>(bd (g.cm gZ dC.1.1.1 c1 d0 d1 d2) (fun eK=>(br (aH (aj eK.1.1.2.2.2 dC.1.1.2.1)) (K ((none,(19,())),((),((),((),()))))) (opt (nth j_ c0 md).2.2.2.2.2 none (fun dG=>(opt (oV (nf (Ty.pair (Ty.int IntKind.i64) (Ty.pair (Ty.int IntKind.i64) (Ty.int IntKind.i64))) (dC.1.1.1,(dC.1.1.2.1,dC.1.1.2.2))) (nth [] d5 dG) 0) (K ((none,(18,())),((),((),((),()))))) (fun fL=>(opt fL.2 (K ((none,(18,())),((),((),((),()))))) (fun ia=>(K (((some ia),(0,())),((),((),((),()))))))))))))))))))))))))))=K ((none,((m.check (m.ax n).aA V).2,())),((),((),((),())))):=by
 have yf:=h.th
 have b1:=Lc h
 have b2:=ua h
 have b5:=wN h
 have yj:=hi.si.len
 have hR:=r_ hi hn (au V).1.1
 have hCt:=rV h.sr (au V).1.1 (by omega)
 have oO:nth [] d5 N.mp=es:=bj h.mp
 unfold M.check at hc ⊢
 refine nK (nZ hV) ?_
 by_cases h1:(au V).2=0
 ·by_cases h2:m.p.1≤(au V).1.1
  ·rw [if_pos (.inr h2)]
   repeat refine HS ?_
   rfl
  ·rw [if_neg (by simp [h1];omega)] at hc ⊢
   cases h3:reach (m.ax n).aA (au V).1.1 with
   | false=>
    rw [if_pos rfl]
    repeat refine HS ?_
    rfl
   | true=>
    rw [h3] at hc
    rw [if_neg (by simp)] at hc ⊢
    by_cases h4:(kq m.sc (au V).1.1).1.2.2.2=(au V).1.2.1
    ·rw [if_neg (by simpa using h4)] at hc ⊢
     have h0:0≤(au V).1.1:=(cp.1 (fK h1).1).1.1
     rcases h.get hi (au V).1 h0 with ⟨g1,g2⟩ | ⟨a,x,j,g1,_⟩
     ·rw [g1]
      rw [←oO] at g2
      repeat refine HS ?_
      refine Eq.trans (uj g2) ?_
      rfl
     ·rw [g1] at hc;cases hc
    ·rw [if_pos (by simpa using h4)]
     repeat refine HS ?_
     rfl
 ·rw [if_pos (.inl h1)]
  repeat refine HS ?_
  rfl
theorem Al (h:MR c0 c1 d0 d1 d2 d3 d4 d5 d6 d7 d8 md m N L es) {k:Nat} (hi:MI k m) {n:Int} (hn:0≤n∧n<m.th.length) {V:Int} (hV:u64 V) {o:jK} (hc:(m.check (m.ax n).aA V).1=some o) :
  ∃(p:Nat) (x:Nat×Nat×jK) (j:Nat),o=x.2.2∧es[j]?=some (o.ref,some x.1)∧At L o.ref.1.toNat p x∧∀(K:abV→Option Gd),
  (bd (g.fX V) (fun dC=>(jn (fun (Nf:((Bool×Unit)×(Unit×(Unit×(Unit×Unit))))→_)=>(br (aH (aj dC.1.2.1 0)) (Nf ((true,()),((),((),((),()))))) (Nf (((cZ (nth j_ c0 md).1.1 dC.1.1.1),()),((),((),((),()))))))) (fun (xe:((Bool×Unit)×(Unit×(Unit×(Unit×Unit)))))=>(br xe.1.1 (K ((none,(18,())),((),((),((),()))))) (bd (aD d4 N.jt) (fun iW=>(bd (g.dy (nth ([0,0,0,0],[]) iW (nN n)).2 dC.1.1.1) (fun fM=>(br (aH fM.1.1) (K ((none,(20,())),((),((),((),()))))) (opt (nth j_ c0 md).2.2.1 none (fun gZ=>(bd (g.cm gZ dC.1.1.1 c1 d0 d1 d2) (fun eK=>(br (aH (aj eK.1.1.2.2.2 dC.1.1.2.1)) (K ((none,(19,())),((),((),((),()))))) (opt (nth j_ c0 md).2.2.2.2.2 none (fun dG=>(opt (oV (nf (Ty.pair (Ty.int IntKind.i64) (Ty.pair (Ty.int IntKind.i64) (Ty.int IntKind.i64))) (dC.1.1.1,(dC.1.1.2.1,dC.1.1.2.2))) (nth [] d5 dG) 0) (K ((none,(18,())),((),((),((),()))))) (fun fL=>(opt fL.2 (K ((none,(18,())),((),((),((),()))))) (fun ia=>(K (((some ia),(0,())),((),((),((),()))))))))))))))))))))))))))=K ((some x.1,(0,())),((),((),((),())))):=by
 have yf:=h.th
 have b1:=Lc h
 have b2:=ua h
 have b5:=wN h
 have yj:=hi.si.len
 have hR:=r_ hi hn (au V).1.1
 have hCt:=rV h.sr (au V).1.1 (by omega)
 have oO:nth [] d5 N.mp=es:=bj h.mp
 obtain ⟨_,h1,h2,h3,h4,h5⟩:=M.gf hc
 have h0:0≤(au V).1.1:=(cp.1 (fK h1).1).1.1
 rcases h.get hi (au V).1 h0 with ⟨g1,_⟩ | ⟨p,x,j,g1,g2,g3,g4,g6⟩
 ·rw [g1] at h5;cases h5
 ·rw [g1] at h5
  cases h5
  refine ⟨p,x,j,rfl,by rw [g6];exact g3,by rw [g6];exact g4,fun K=>?_⟩
  rw [←oO] at g2
  refine nK (nZ hV) ?_
  rw [h3] at hR
  repeat refine HS ?_
  refine Eq.trans (sh g2) ?_
  rfl
end
open Go.Bm Go.jJ
section
variable {c0:T0} {c1:T1} {d0:T2} {d1:T3} {d2:T4} {d3:T5} {d4:T6} {d5:T7} {d6:T8} {d7:T9} {d8:dT} {md:Nat} {m:M} {N:CR} {L:List NA} {es:List (iV×Option Nat)}
theorem MR.rel (h:MR c0 c1 d0 d1 d2 d3 d4 d5 d6 d7 d8 md m N L es):ug c0 c1 d0 d1 d2 d3 d4 d5 d6 d7 d8 md m:=⟨N,L,es,h⟩
theorem F6 (h:MR c0 c1 d0 d1 d2 d3 d4 d5 d6 d7 d8 md m N L es) {k:Nat} (hi:MI k m):aK IntKind.i64 (nth j_ c0 md).1.1 1=m.p.1-1:=by
 have:=hi.u9
 rw [Lc h,aN (by omega)]
theorem I3 {k:Nat} (hi:MI k m) {n:Int} (hn:0≤n∧n<m.th.length) (e:cR):g.ly (nth ([0,0,0,0],[]) (m.th.map fun t=>(t.dc,t.aA)) (nN n)).2 e=some (((push (m.ax n).aA e).1,((push (m.ax n).aA e).2,())),()):=by
 rw [pb hn]
 have:=(hi.ax hn).2.2.len
 exact Am (l:=(m.ax n).aA) e (by omega)
theorem Lj {k:Nat} (hi:MI k m) {n:Int} (hn:0≤n∧n<m.th.length):g.jH (nth ([0,0,0,0],[]) (m.th.map fun t=>(t.dc,t.aA)) (nN n)).2=some ((db (m.ax n).aA,()),()):=by
 rw [pb hn]
 have:=(hi.ax hn).2.2.len
 exact sX (l:=(m.ax n).aA) (by omega)
theorem Gb {k:Nat} (hi:MI k m) {n:Int} (hn:0≤n∧n<m.th.length) (s b:Int):g.iI (nth ([0,0,0,0],[]) (m.th.map fun t=>(t.dc,t.aA)) (nN n)).2 s b=some ((nL (m.ax n).aA s b,()),()):=by
 rw [pb hn]
 have:=(hi.ax hn).2.2.len
 exact xD (l:=(m.ax n).aA) s b (by omega)
theorem EU {n:Int} (hn:0≤n∧n<m.th.length) (r:Int):nth 0 (nth ([0,0,0,0],[]) (m.th.map fun t=>(t.dc,t.aA)) (nN n)).1 (nN r)=m.c_ n r:=by
 rw [pb hn];rfl
theorem TM (h:MR c0 c1 d0 d1 d2 d3 d4 d5 d6 d7 d8 md m N L es) {k:Nat} (hi:MI k m) {n:Int} (hn:0≤n∧n<m.th.length) {r gg v a b t:Int} :
  bL (g.iB md n (4,r,gg,v,a,b,t) c0 c1 d0 d1 d2 d3 d4 d5 d6 d7 d8 N.jt) c0 c1 md (m.enter n a):=by
 have yf:=h.th
 have b2:=ua h
 have yj:=hi.si.len
 have wZ:=F6 h hi
 have hP:=I3 hi hn (a,true)
 have hA:=Lj hi hn
 unfold g.iB M.enter
 refine bL.of (kh (c:=(4,r,gg,v,a,b,t)) rfl) ?_
 dsimp only
 cases hw:within a 1 (m.p.1-1) with
 | false=>
  rw [←wZ] at hw
  rw [if_pos rfl]
  repeat refine DS ?_
  exact bL.code h.rel 11
 | true=>
  rw [←wZ] at hw
  rw [if_neg (by simp)]
  by_cases hp:(push (m.ax n).aA (a,true)).2=0
  ·rw [if_neg (by simpa using hp)]
   obtain ⟨sV,k1,k2⟩:=Dk h.sr a (db (m.ax n).aA) (by omega)
   by_cases hu:(cS m.sc a (fun c=>bS c (db (m.ax n).aA))).2=0
   ·rw [if_neg (by simpa using hu)]
    repeat refine DS ?_
    rw [nT hn ⟨(m.ax n).dc,(push (m.ax n).aA (a,true)).1⟩ _ rfl,hu]
    exact ⟨_,_,_,_,_,_,_,_,_,rfl,N,L,es,h.box,k2,aC h.th,h.ar,h.er,h.jo,h.ob,h.n6,h.n8,h.n7,h.mp,h.ek,h.em⟩
   ·rw [if_pos (by simpa using hu)]
    have e:(cS m.sc a (fun c=>bS c (db (m.ax n).aA))).1=m.sc:=by
     unfold cS at hu ⊢
     split
     ·rename_i h1
      rw [if_pos h1] at hu
      split
      ·rename_i h2;rw [if_pos h2] at hu;exact absurd rfl hu
      ·rfl
     ·rfl
    rw [e] at k2
    repeat refine DS ?_
    exact bL.code ⟨N,L,es,h.box,k2,h.th,h.ar,h.er,h.jo,h.ob,h.n6,h.n8,h.n7,h.mp,h.ek,h.em⟩ _
  ·rw [if_pos (by simpa using hp)]
   repeat refine DS ?_
   exact bL.code h.rel _
theorem TK (h:MR c0 c1 d0 d1 d2 d3 d4 d5 d6 d7 d8 md m N L es) {k:Nat} (hi:MI k m) {n:Int} (hn:0≤n∧n<m.th.length) {r gg v a b t:Int} :
  bL (g.iz md n (6,r,gg,v,a,b,t) c0 c1 d0 d1 d2 d3 d4 d5 d6 d7 d8 N.jt) c0 c1 md (m.lr n a):=by
 have yf:=h.th
 have wZ:=F6 h hi
 have hP:=I3 hi hn (a,false)
 have hR:=r_ hi hn a
 unfold g.iz M.lr
 refine bL.of (kh (c:=(6,r,gg,v,a,b,t)) rfl) ?_
 dsimp only
 cases hw:within a 0 (m.p.1-1) with
 | false=>
  rw [←wZ] at hw
  rw [if_pos rfl]
  repeat refine DS ?_
  exact bL.code h.rel 11
 | true=>
  rw [←wZ] at hw
  rw [if_neg (by simp)]
  cases hr:reach (m.ax n).aA a with
  | false=>
   rw [if_pos rfl]
   repeat refine DS ?_
   exact bL.code h.rel 20
  | true=>
   rw [if_neg (by simp)]
   by_cases hp:(push (m.ax n).aA (a,false)).2=0
   ·rw [if_neg (by simpa using hp)]
    repeat refine DS ?_
    rw [nT hn ⟨(m.ax n).dc,(push (m.ax n).aA (a,false)).1⟩ _ rfl]
    exact ⟨_,_,_,_,_,_,_,_,_,rfl,N,L,es,h.box,h.sr,aC h.th,h.ar,h.er,h.jo,h.ob,h.n6,h.n8,h.n7,h.mp,h.ek,h.em⟩
   ·rw [if_pos (by simpa using hp)]
    repeat refine DS ?_
    exact bL.code h.rel _
theorem pX (h:MR c0 c1 d0 d1 d2 d3 d4 d5 d6 d7 d8 md m N L es) {k:Nat} (hi:MI k m):(L.length:Int)=m.p.1:=by
 have:=hi.la
 rw [h.er,zH] at this;exact this
theorem pW {L:List NA} {s:Int} {a:NA} (ha:L[s.toNat]?=some a):nth (0,(0,none)) (L.map fun a=>(a.used,(a.gate,a.jo))) (nN s)=(a.used,(a.gate,a.jo)):=by
 refine bj ?_
 rw [zL]
 show (L[s.toNat]?).map _=_
 rw [ha];rfl
theorem yB (h:MR c0 c1 d0 d1 d2 d3 d4 d5 d6 d7 d8 md m N L es) {k:Nat} (hi:MI k m) {s:Int} (hs:0≤s∧s<m.p.1):∃a,L[s.toNat]?=some a∧m.bm s=a.er:=by
 have:=pX h hi
 have h1:L[s.toNat]?=some L[s.toNat]:=zD (by omega)
 refine ⟨_,h1,?_⟩
 have h2:m.ar[s.toNat]?=some (NA.er L[s.toNat]):=by rw [h.er,zL,h1];rfl
 have:=M.uc h2
 rwa [show ((s.toNat:Nat):Int)=s by omega] at this
theorem Oy (h:MR c0 c1 d0 d1 d2 d3 d4 d5 d6 d7 d8 md m N L es) {k:Nat} (hi:MI k m) {n:Int} (hn:0≤n∧n<m.th.length) {r gg v a b t:Int} (hr:cC (10,r,gg,v,a,b,t)=true) (AF:0≤r) :
  bL (g.e_ md n (10,r,gg,v,a,b,t) c0 c1 d0 d1 d2 d3 d4 d5 d6 d7 d8 N.jt) c0 c1 md (m.gm n r a):=by
 have J7:r<4:=pn (c:=(10,r,gg,v,a,b,t)) (l:=[r]) hr rfl r (by simp)
 have ht:=hi.ax hn
 have yf:=h.th
 have w9:=h.ar
 have b3:=rI h
 have wZ:=F6 h hi
 have hR:=r_ hi hn a
 unfold g.e_ M.gm
 refine bL.of (kh (c:=(10,r,gg,v,a,b,t)) hr) ?_
 dsimp only
 cases hw:within a 1 (m.p.1-1) with
 | false=>
  rw [←wZ] at hw
  rw [if_pos rfl]
  repeat refine DS ?_
  exact bL.code h.rel 11
 | true=>
  have ha:=bF.1 hw
  rw [←wZ] at hw
  rw [if_neg (by simp)]
  obtain ⟨x,hx,Sh⟩:=yB h hi (s:=a) (by omega)
  have LV:=pX h hi
  cases LQ:reach (m.ax n).aA a with
  | false=>
   rw [if_pos rfl]
   repeat refine DS ?_
   exact bL.code h.rel 20
  | true=>
   rw [if_neg (by simp)]
   repeat refine DS ?_
   rw [pW hx]
   rw [nT hn ⟨(m.ax n).dc.set r.toNat x.gate,(m.ax n).aA⟩ _ (by dsimp only;rw [pU ht.1 (by omega)])]
   rw [Sh]
   exact ⟨_,_,_,_,_,_,_,_,_,rfl,N,L,es,h.gp n _⟩
end
open Go.Bm Go.jJ
section
variable {c0:T0} {c1:T1} {d0:T2} {d1:T3} {d2:T4} {d3:T5} {d4:T6} {d5:T7} {d6:T8} {d7:T9} {d8:dT} {md:Nat} {m:M} {N:CR} {L:List NA} {es:List (iV×Option Nat)}
theorem vN (h:MR c0 c1 d0 d1 d2 d3 d4 d5 d6 d7 d8 md m N L es) {i p:Nat} {x:Nat×Nat×jK} (hx:At L i p x):nth ((0,(0,0)),(0,(none,false))) d6 x.1=(x.2.2.ref,(x.2.2.tag,(some x.2.1,x.2.2.done))):=bj (h.ob i p x hx).1
theorem TF (h:MR c0 c1 d0 d1 d2 d3 d4 d5 d6 d7 d8 md m N L es) {k:Nat} (hi:MI k m) {n:Int} (hn:0≤n∧n<m.th.length) {r gg v a b t:Int} (hr:cC (8,r,gg,v,a,b,t)=true) (AF:0≤r) (LX:0≤gg) :
  bL (g.fE md n (8,r,gg,v,a,b,t) c0 c1 d0 d1 d2 d3 d4 d5 d6 d7 d8 N.jt) c0 c1 md (m.load n r gg b):=by
 have J7:r<4:=pn (c:=(8,r,gg,v,a,b,t)) (l:=[r,gg]) hr rfl r (by simp)
 have hg4:gg<4:=pn (c:=(8,r,gg,v,a,b,t)) (l:=[r,gg]) hr rfl gg (by simp)
 have ht:=hi.ax hn
 have yf:=h.th
 have hV:=hi.c_ hn gg
 have eV:=EU hn gg
 unfold g.fE M.load
 refine bL.of (kh (c:=(8,r,gg,v,a,b,t)) hr) ?_
 dsimp only
 cases hc:(m.check (m.ax n).aA (m.c_ n gg)).1 with
 | none=>
  have jB:=M.oF hc
  rw [if_pos jB]
  refine bL.of (BT (s:=((none,((m.check (m.ax n).aA (m.c_ n gg)).2,())),((),((),((),()))))) fun K=>?_) ?_
  ·repeat refine HS ?_
   rw [eV]
   exact vf h hi hn hV hc K
  repeat refine DS ?_
  exact bL.code h.rel _
 | some o=>
  have jB:=(M.gf hc).1
  rw [if_neg (by simpa using jB)]
  obtain ⟨p,x,j,rfl,q1,q2,q4⟩:=Al h hi hn hV hc
  obtain ⟨_,_,_,_,_,_,fN,_⟩:=hi.found hc
  obtain ⟨_,_,_,_,_,_,FA,_⟩:=fN
  refine bL.of (BT (s:=((some x.1,(0,())),((),((),((),()))))) fun K=>?_) ?_
  ·repeat refine HS ?_
   rw [eV]
   exact q4 K
  have e6b:(nth ((0,(0,0)),(0,(none,false))) d6 x.1).2.2.1=some x.2.1:=by rw [vN h q2]
  have h8:=(h.ob _ p x q2).2
  have wZ:aK IntKind.i64 (zN (len x.2.2.aS)) 1=(x.2.2.aS.length:Int)-1:=by rw [cF,bB,aN (by omega)]
  repeat refine DS ?_
  show bL _ c0 c1 md (if within b 0 ((x.2.2.aS.length:Int)-1)=false then m.code 21 else m.QQ n r (x.2.2.aS.getD b.toNat 0))
  cases hw:within b 0 ((x.2.2.aS.length:Int)-1) with
  | false=>
   rw [←wZ] at hw
   rw [if_pos rfl]
   repeat refine DS ?_
   exact bL.code h.rel 21
  | true=>
   have hb:=bF.1 hw
   rw [←wZ] at hw
   rw [if_neg (by simp)]
   repeat refine DS ?_
   rw [nT hn ⟨(m.ax n).dc.set r.toNat (x.2.2.aS.getD b.toNat 0),(m.ax n).aA⟩ _ (by dsimp only;rw [pU ht.1 (by omega)];rfl)]
   exact ⟨_,_,_,_,_,_,_,_,_,rfl,N,L,es,h.gp n _⟩
theorem km {α β:Type} {f:α→β} {l:List α} {i:Nat} {x:α} {y:β} (h:f x=y):(l.set i x).map f=(l.map f).set i y:=by rw [List.map_set,h]
theorem rk {α:Type} {l:List α} {i:Nat} {x y z:α} (hx:l[i]?=some x) (hz:z∈l.set i y):z=y∨z∈l:=(List.mem_or_eq_of_mem_set hz).symm
theorem rJ {i:Nat} {a b:NA} (ha:L[i]?=some a) (hb:b.os=a.os) {j p:Nat} {x:Nat×Nat×jK}:At (L.set i b) j p x↔At L j p x:=by
 constructor
 ·rintro ⟨c,h1,h2⟩
  rcases getSet h1 with ⟨e1,e2⟩ | ⟨_,g⟩
  ·rw [e2,hb] at h2;exact ⟨a,by rw [e1];exact ha,h2⟩
  ·exact ⟨c,g,h2⟩
 ·rintro ⟨c,h1,h2⟩
  by_cases e:i=j
  ·subst e
   rw [ha] at h1;cases h1
   exact ⟨b,by rw [List.getElem?_set,if_pos rfl,if_pos (zB.1 ha).1],by rw [hb];exact h2⟩
  ·exact ⟨c,by rw [List.getElem?_set,if_neg e];exact h1,h2⟩
theorem MR.Rn (h:MR c0 c1 d0 d1 d2 d3 d4 d5 d6 d7 d8 md m N L es) {i:Nat} {a:NA} (ha:L[i]?=some a) (us ga:Int) :
  MR c0 c1 d0 d1 d2 (aU d3 N.ja (some ((L.set i { a with used:=us,gate:=ga }).map fun a=>(a.used,(a.gate,a.jo))))) d4 d5 d6 d7 d8 md { m with ar:=m.ar.set i ⟨us,ga,a.er.aX⟩ } N (L.set i { a with used:=us,gate:=ga }) es where
 box:=h.box
 sr:=h.sr
 th:=h.th
 ar:=aC h.ar
 er:=by show m.ar.set i _=_;rw [h.er];exact (km (f:=NA.er) (x:={ a with used:=us,gate:=ga }) rfl).symm
 jo:=fun b hb=>by
  rcases rk ha hb with rfl | hb
  ·exact h.jo a (zG ha)
  ·exact h.jo b hb
 ob:=fun j p x hx=>h.ob j p x ((rJ (b:={ a with used:=us,gate:=ga }) ha rfl).1 hx)
 n6:=fun i j p q x y hx hy=>h.n6 i j p q x y ((rJ (b:={ a with used:=us,gate:=ga }) ha rfl).1 hx) ((rJ (b:={ a with used:=us,gate:=ga }) ha rfl).1 hy)
 n8:=fun i j p q x y hx hy=>h.n8 i j p q x y ((rJ (b:={ a with used:=us,gate:=ga }) ha rfl).1 hx) ((rJ (b:={ a with used:=us,gate:=ga }) ha rfl).1 hy)
 n7:=fun j l b c r hb hc h1 h2=>by
  rcases getSet hb with ⟨e1,e2⟩ | ⟨_,g1⟩
  ·rcases getSet hc with ⟨e3,e4⟩ | ⟨_,g2⟩
   ·rw [e1,e3]
   ·rw [e1];rw [e2] at h1;exact h.n7 i l a c r ha g2 h1 h2
  ·rcases getSet hc with ⟨e3,e4⟩ | ⟨_,g2⟩
   ·rw [e3];rw [e4] at h2;exact h.n7 j i b a r g1 ha h1 h2
   ·exact h.n7 j l b c r g1 g2 h1 h2
 mp:=h.mp
 ek:=h.ek
 em:=fun r v=>(h.em r v).trans ⟨fun ⟨j,p,x,h1,h2⟩=>⟨j,p,x,(rJ (b:={ a with used:=us,gate:=ga }) ha rfl).2 h1,h2⟩,fun ⟨j,p,x,h1,h2⟩=>⟨j,p,x,(rJ (b:={ a with used:=us,gate:=ga }) ha rfl).1 h1,h2⟩⟩
theorem As {L:List NA} {s:Int} {a:NA} (ha:L[s.toNat]?=some a) (b:NA) (f:Int×Int×Option Nat→Int×Int×Option Nat) (hf:f (a.used,(a.gate,a.jo))=(b.used,(b.gate,b.jo))) :
  aw (0,(0,none)) (L.map fun a=>(a.used,(a.gate,a.jo))) (nN s) f=(L.set s.toNat b).map fun a=>(a.used,(a.gate,a.jo)):=by
 unfold aw aU
 rw [pW ha,hf,km rfl];rfl
theorem Ow (h:MR c0 c1 d0 d1 d2 d3 d4 d5 d6 d7 d8 md m N L es) {k:Nat} (hi:MI k m) {n:Int} (hn:0≤n∧n<m.th.length) {r gg v a b t:Int} (hr:cC (11,r,gg,v,a,b,t)=true) (zt:0≤v) :
  bL (g.e9 md n (11,r,gg,v,a,b,t) c0 c1 d0 d1 d2 d3 d4 d5 d6 d7 d8 N.jt) c0 c1 md (m.gate n v a):=by
 have Uh:v<4:=pn (c:=(11,r,gg,v,a,b,t)) (l:=[v]) hr rfl v (by simp)
 have ht:=hi.ax hn
 have yf:=h.th
 have w9:=h.ar
 have b3:=rI h
 have wZ:=F6 h hi
 have hR:=r_ hi hn a
 have hV:=hi.c_ hn v
 have eV:=EU hn v
 unfold g.e9 M.gate
 refine bL.of (kh (c:=(11,r,gg,v,a,b,t)) hr) ?_
 dsimp only
 cases hw:within a 1 (m.p.1-1) with
 | false=>
  rw [←wZ] at hw
  rw [if_pos rfl]
  repeat refine DS ?_
  exact bL.code h.rel 11
 | true=>
  have ha:=bF.1 hw
  rw [←wZ] at hw
  rw [if_neg (by simp)]
  obtain ⟨x,hx,Sh⟩:=yB h hi (s:=a) (by omega)
  have LV:=pX h hi
  cases LQ:reach (m.ax n).aA a with
  | false=>
   rw [if_pos rfl]
   repeat refine DS ?_
   exact bL.code h.rel 20
  | true=>
   rw [if_neg (by simp)]
   have tS:∀(c:Int),c=0→bL (some (((c,(0,[])),(0,())),(d0,(d1,(d2,((aU d3 N.ja (some (aw (0,(0,none)) (L.map fun a=>(a.used,(a.gate,a.jo))) (nN a) (fun tJ=>(tJ.1,(m.c_ n v,tJ.2.2)))))),(d4,(d5,(d6,(d7,(d8,())))))))))) ) c0 c1 md (M.code (m.cK a { m.bm a with gate:=m.c_ n v }) 0):=by
    rintro _ rfl
    rw [As hx { x with gate:=m.c_ n v } _ rfl,Sh]
    exact bL.code ⟨N,_,es,h.Rn hx x.used (m.c_ n v)⟩ 0
   unfold M.put
   repeat (refine DN ?_)
   rw [eV]
   by_cases hv:m.c_ n v=0
   ·rw [if_pos hv]
    repeat refine DS ?_
    exact tS 0 rfl
   ·rw [if_neg hv]
    repeat (refine DN ?_)
    cases hc:(m.check (m.ax n).aA (m.c_ n v)).1 with
    | none=>
     have jB:=M.oF hc
     rw [if_pos jB]
     refine bL.of (BT fun K=>vf h hi hn hV hc K) ?_
     repeat refine DS ?_
     exact bL.code h.rel _
    | some o=>
     have jB:=(M.gf hc).1
     rw [if_neg (by simpa using jB)]
     obtain ⟨p,y,j,rfl,q1,q2,q4⟩:=Al h hi hn hV hc
     refine bL.of (BT fun K=>q4 K) ?_
     have e6:=vN h q2
     have hAb:=Gb hi hn y.2.2.ref.1 a
     repeat refine DS ?_
     rw [e6]
     show bL _ c0 c1 md (if nL (m.ax n).aA y.2.2.ref.1 a=false then m.code 22 else M.code (m.cK a { m.bm a with gate:=m.c_ n v }) 0)
     cases hab:nL (m.ax n).aA y.2.2.ref.1 a with
     | false=>
      rw [if_pos rfl]
      repeat refine DS ?_
      exact bL.code h.rel 22
     | true=>
      rw [if_neg (by simp)]
      repeat refine DS ?_
      exact tS 0 rfl
end
open Go.Bm Go.jJ
section
variable {c0:T0} {c1:T1} {d0:T2} {d1:T3} {d2:T4} {d3:T5} {d4:T6} {d5:T7} {d6:T8} {d7:T9} {d8:dT} {md:Nat} {m:M} {N:CR} {L:List NA} {es:List (iV×Option Nat)}
theorem p_ {i q:Nat} {a:NA} {x':Nat×Nat×jK} (ha:L[i]?=some a) {j p:Nat} {y:Nat×Nat×jK} (h:At (L.set i { a with os:=a.os.set q x' }) j p y):(j=i∧p=q∧y=x')∨(¬(j=i∧p=q)∧At L j p y):=by
 obtain ⟨c,h1,h2⟩:=h
 rcases getSet h1 with ⟨e1,e2⟩ | ⟨e,g⟩
 ·rw [e2] at h2
  rcases getSet (show (a.os.set q x')[p]?=some y from h2) with ⟨e3,e4⟩ | ⟨e3,g3⟩
  ·exact .inl ⟨e1,e3,e4⟩
  ·exact .inr ⟨fun h=>e3 h.2,a,by rw [e1];exact ha,g3⟩
 ·exact .inr ⟨fun h=>e h.1,c,g,h2⟩
theorem TS {i q:Nat} {a:NA} {x':Nat×Nat×jK} (ha:L[i]?=some a) {j p:Nat} {y:Nat×Nat×jK} (hn:¬(j=i∧p=q)) (h:At L j p y):At (L.set i { a with os:=a.os.set q x' }) j p y:=by
 obtain ⟨c,h1,h2⟩:=h
 by_cases e:i=j
 ·subst e
  rw [ha] at h1;cases h1
  refine ⟨{ a with os:=a.os.set q x' },by rw [List.getElem?_set,if_pos rfl,if_pos (zB.1 ha).1],?_⟩
  show (a.os.set q x')[p]?=some y
  rw [List.getElem?_set,if_neg (fun e=>hn ⟨rfl,e.symm⟩)];exact h2
 ·exact ⟨c,by rw [List.getElem?_set,if_neg e];exact h1,h2⟩
theorem TT {i q:Nat} {a:NA} {x x':Nat×Nat×jK} (ha:L[i]?=some a) (hx:a.os[q]?=some x):At (L.set i { a with os:=a.os.set q x' }) i q x':=
 ⟨{ a with os:=a.os.set q x' },by rw [List.getElem?_set,if_pos rfl,if_pos (zB.1 ha).1],by
  show (a.os.set q x')[q]?=some x'
  rw [List.getElem?_set,if_pos rfl,if_pos (zB.1 hx).1]⟩
theorem MR.Qi (h:MR c0 c1 d0 d1 d2 d3 d4 d5 d6 d7 d8 md m N L es) {i q:Nat} {a:NA} (ha:L[i]?=some a) {x:Nat×Nat×jK} (hx:a.os[q]?=some x) {sj:Nat} {o:jK} (hr:o.ref=x.2.2.ref)
  {qD:T8} {tZ:dT} (h6:qD[x.1]?=some (o.ref,(o.tag,(some sj,o.done)))) (h8:aD tZ sj=some o.aS) (f6:∀n,n≠x.1→qD[n]?=d6[n]?)
  (f8:∀j p y,At L j p y→¬(j=i∧p=q)→aD tZ y.2.1=aD d8 y.2.1∧y.2.1≠sj) :
  MR c0 c1 d0 d1 d2 d3 d4 d5 qD d7 tZ md { m with ar:=m.ar.set i { a.er with aX:=a.er.aX.set q o } } N (L.set i { a with os:=a.os.set q (x.1,sj,o) }) es:=by
 have Fy:At L i q x:=⟨a,ha,hx⟩
 have hem:a.os.map (fun y=>some y.1)=(a.os.set q (x.1,sj,o)).map fun y=>some y.1:=by
  rw [List.map_set,kb]
  rw [zL,hx];rfl
 refine ⟨h.box,h.sr,h.th,?_,?_,?_,?_,?_,?_,?_,h.mp,h.ek,?_⟩
 ·rw [h.ar]
  congr 1
  rw [List.map_set,kb]
  rw [zL,ha];rfl
 ·show m.ar.set i _=_
  rw [h.er]
  refine (km (f:=NA.er) (x:={ a with os:=a.os.set q (x.1,sj,o) }) ?_).symm
  show mG.mk a.used a.gate ((a.os.set q (x.1,sj,o)).map fun y=>y.2.2)=_
  rw [List.map_set];rfl
 ·intro b hb
  rcases rk ha hb with rfl | hb
  ·rcases h.jo a (zG ha) with ⟨_,k2⟩ | ⟨j,k1,k2⟩
   ·rw [k2] at hx;cases hx
   ·exact .inr ⟨j,k1,by rw [k2,hem]⟩
  ·exact h.jo b hb
 ·intro j p y hy
  rcases p_ ha hy with ⟨_,_,rfl⟩ | ⟨hn,hy⟩
  ·exact ⟨h6,h8⟩
  ·have:=h.ob j p y hy
   rw [f6 y.1 (fun e=>hn (h.n6 j i p q y x hy Fy e)),(f8 j p y hy hn).1]
   exact this
 ·intro j j' p p' y y' hy rn e
  rcases p_ ha hy with ⟨rfl,rfl,rfl⟩ | ⟨hn,gy⟩
  ·rcases p_ ha rn with ⟨rfl,rfl,rfl⟩ | ⟨Hj,D6⟩
   ·exact ⟨rfl,rfl⟩
   ·exact h.n6 _ _ _ _ x y' Fy D6 e
  ·rcases p_ ha rn with ⟨rfl,rfl,rfl⟩ | ⟨Hj,D6⟩
   ·exact h.n6 _ _ _ _ y x gy Fy e
   ·exact h.n6 _ _ _ _ y y' gy D6 e
 ·intro j j' p p' y y' hy rn e
  rcases p_ ha hy with ⟨rfl,rfl,rfl⟩ | ⟨hn,gy⟩
  ·rcases p_ ha rn with ⟨rfl,rfl,rfl⟩ | ⟨Hj,D6⟩
   ·exact ⟨rfl,rfl⟩
   ·exact absurd e.symm (f8 _ _ _ D6 Hj).2
  ·rcases p_ ha rn with ⟨rfl,rfl,rfl⟩ | ⟨Hj,D6⟩
   ·exact absurd e (f8 _ _ _ gy hn).2
   ·exact h.n8 _ _ _ _ y y' gy D6 e
 ·intro j l b c r hb hc h1 h2
  rcases getSet hb with ⟨e1,e2⟩ | ⟨_,g1⟩
  ·rcases getSet hc with ⟨e3,e4⟩ | ⟨_,g2⟩
   ·rw [e1,e3]
   ·rw [e1];rw [e2] at h1;exact h.n7 i l a c r ha g2 h1 h2
  ·rcases getSet hc with ⟨e3,e4⟩ | ⟨_,g2⟩
   ·rw [e3];rw [e4] at h2;exact h.n7 j i b a r g1 ha h1 h2
   ·exact h.n7 j l b c r g1 g2 h1 h2
 ·intro r v
  rw [h.em]
  constructor
  ·rintro ⟨j,p,y,hy,h1,h2⟩
   by_cases e:j=i∧p=q
   ·obtain ⟨rfl,rfl⟩:=e
    obtain ⟨b,g1,g2⟩:=hy
    rw [ha] at g1;cases g1
    rw [hx] at g2;cases g2
    exact ⟨_,_,_,TT ha hx,by rw [h1,←hr],h2⟩
   ·exact ⟨j,p,y,TS ha e hy,h1,h2⟩
  ·rintro ⟨j,p,y,hy,h1,h2⟩
   rcases p_ ha hy with ⟨_,_,rfl⟩ | ⟨hn,hy⟩
   ·exact ⟨i,q,x,Fy,by rw [h1];exact hr,h2⟩
   ·exact ⟨j,p,y,hy,h1,h2⟩
theorem M.Gl (h:MR c0 c1 d0 d1 d2 d3 d4 d5 d6 d7 d8 md m N L es) {k:Nat} (hi:MI k m) {i q:Nat} {a:NA} (ha:L[i]?=some a) {x:Nat×Nat×jK} (hx:a.os[q]?=some x) (g:jK→jK) :
  m.setObj x.2.2.ref g={ m with ar:=m.ar.set i { a.er with aX:=a.er.aX.set q (g x.2.2) } }:=by
 obtain ⟨a',y,h1,h2,h3,h4,h5,h6,h7,h8⟩:=h.place hi ⟨a,ha,hx⟩
 rw [ha] at h1;cases h1
 unfold M.setObj
 congr 1
 apply List.ext_getElem?
 intro j
 rw [zL,List.getElem?_set]
 by_cases e:i=j
 ·subst e
  rw [if_pos rfl,if_pos (zB.1 h3).1,h3]
  simp only [Option.map_some,zI]
  congr 1
  apply List.ext_getElem?
  intro p
  rw [zL,List.getElem?_set]
  by_cases e:q=p
  ·subst e
   rw [if_pos rfl,if_pos (zB.1 h7).1,h7]
   simp
  ·rw [if_neg e]
   cases hp:a.er.aX[p]? with
   | none=>rfl
   | some o=>
    simp only [Option.map_some,zI]
    rw [if_neg]
    intro e2
    exact e (AI.one h6 h7 hp e2.symm)
 ·rw [if_neg e]
  cases hj:m.ar[j]? with
  | none=>rfl
  | some b=>
   simp only [Option.map_some,zI]
   have hm:b.aX.map (fun o=>if o.ref=x.2.2.ref then g o else o)=b.aX:=by
    conv=>rhs;rw [←List.map_id b.aX]
    refine List.map_congr_left fun o ho=>?_
    rw [if_neg];· rfl
    intro e2
    have sI:=hi.ls
    have Sr:=hi.la
    have eh:=(zB.1 hj).1
    have BX:m.sc[j]?=some m.sc[j]:=zD (by omega)
    have:=((hi.ai j _ _ BX hj).ob o ho).1
    rw [e2,h8] at this
    omega
   rw [hm]
theorem TD (h:MR c0 c1 d0 d1 d2 d3 d4 d5 d6 d7 d8 md m N L es) {k:Nat} (hi:MI k m) {n:Int} (hn:0≤n∧n<m.th.length) {r gg v a b t:Int} (hr:cC (9,r,gg,v,a,b,t)=true) (zt:0≤v) (LX:0≤gg) :
  bL (g.fy md n (9,r,gg,v,a,b,t) c0 c1 d0 d1 d2 d3 d4 d5 d6 d7 d8 N.jt) c0 c1 md (m.store n gg v b):=by
 have Uh:v<4:=pn (c:=(9,r,gg,v,a,b,t)) (l:=[gg,v]) hr rfl v (by simp)
 have hg4:gg<4:=pn (c:=(9,r,gg,v,a,b,t)) (l:=[gg,v]) hr rfl gg (by simp)
 have yf:=h.th
 have hV:=hi.c_ hn gg
 have eV:=EU hn gg
 have hW:=hi.c_ hn v
 have eW:=EU hn v
 unfold g.fy M.store
 refine bL.of (kh (c:=(9,r,gg,v,a,b,t)) hr) ?_
 dsimp only
 cases hc:(m.check (m.ax n).aA (m.c_ n gg)).1 with
 | none=>
  have jB:=M.oF hc
  rw [if_pos jB]
  refine bL.of (BT (s:=((none,((m.check (m.ax n).aA (m.c_ n gg)).2,())),((),((),((),()))))) fun K=>?_) ?_
  ·repeat refine HS ?_
   rw [eV]
   exact vf h hi hn hV hc K
  repeat refine DS ?_
  exact bL.code h.rel _
 | some o=>
  have jB:=(M.gf hc).1
  rw [if_neg (by simpa using jB)]
  obtain ⟨p,x,j,rfl,q1,q2,q4⟩:=Al h hi hn hV hc
  obtain ⟨_,_,_,_,_,_,fN,_⟩:=hi.found hc
  obtain ⟨_,_,_,_,_,_,FA,_⟩:=fN
  refine bL.of (BT (s:=((some x.1,(0,())),((),((),((),()))))) fun K=>?_) ?_
  ·repeat refine HS ?_
   rw [eV]
   exact q4 K
  have e6:=vN h q2
  have e6b:(nth ((0,(0,0)),(0,(none,false))) d6 x.1).2.2.1=some x.2.1:=by rw [e6]
  have h8:=(h.ob _ p x q2).2
  have wZ:aK IntKind.i64 (zN (len x.2.2.aS)) 1=(x.2.2.aS.length:Int)-1:=by rw [cF,bB,aN (by omega)]
  repeat refine DS ?_
  show bL _ c0 c1 md (if within b 0 ((x.2.2.aS.length:Int)-1)=false then m.code 21 else m.put (m.ax n).aA (m.c_ n v) x.2.2.ref.1 (m.setObj x.2.2.ref fun o=>{ o with aS:=o.aS.set b.toNat (m.c_ n v) }))
  cases hw:within b 0 ((x.2.2.aS.length:Int)-1) with
  | false=>
   rw [←wZ] at hw
   rw [if_pos rfl]
   repeat refine DS ?_
   exact bL.code h.rel 21
  | true=>
   have hb:=bF.1 hw
   rw [←wZ] at hw
   rw [if_neg (by simp)]
   have tS:bL (some (((0,(0,[])),(0,())),(d0,(d1,(d2,(d3,(d4,(d5,(d6,(d7,((aU d8 x.2.1 (some (aU x.2.2.aS (nN b) (m.c_ n v)))),())))))))))) ) c0 c1 md (M.code (m.setObj x.2.2.ref fun o=>{ o with aS:=o.aS.set b.toNat (m.c_ n v) }) 0):=by
    obtain ⟨na,ha,hx⟩:=q2
    have Fy:At L x.2.2.ref.1.toNat p x:=⟨na,ha,hx⟩
    rw [M.Gl h hi ha hx]
    refine bL.code ⟨N,_,es,h.Qi ha hx (sj:=x.2.1) (o:={ x.2.2 with aS:=x.2.2.aS.set b.toNat (m.c_ n v) }) rfl (h.ob _ _ _ Fy).1 (aC h8) (fun n _=>rfl) (fun j' p' y hy Hj=>?_)⟩ 0
    have hny:y.2.1≠x.2.1:=fun e=>Hj (h.n8 _ _ _ _ y x hy Fy e)
    exact ⟨by rw [uW (j5 h8),if_neg (fun e=>hny e.symm)],hny⟩
   unfold M.put
   repeat (refine DN ?_)
   rw [eW]
   by_cases hv:m.c_ n v=0
   ·rw [if_pos hv]
    repeat refine DS ?_
    rw [hv] at tS ⊢
    exact tS
   ·rw [if_neg hv]
    repeat (refine DN ?_)
    cases Uu:(m.check (m.ax n).aA (m.c_ n v)).1 with
    | none=>
     have Kg:=M.oF Uu
     rw [if_pos Kg]
     refine bL.of (BT fun K=>vf h hi hn hW Uu K) ?_
     repeat refine DS ?_
     exact bL.code h.rel _
    | some o=>
     have Kg:=(M.gf Uu).1
     rw [if_neg (by simpa using Kg)]
     obtain ⟨p2,y,j2,rfl,w1,w2,w4⟩:=Al h hi hn hW Uu
     refine bL.of (BT fun K=>w4 K) ?_
     have e62:=vN h w2
     have hAb:=Gb hi hn y.2.2.ref.1 x.2.2.ref.1
     repeat refine DS ?_
     rw [e62,e6]
     show bL _ c0 c1 md (if nL (m.ax n).aA y.2.2.ref.1 x.2.2.ref.1=false then m.code 22 else M.code (m.setObj x.2.2.ref fun o=>{ o with aS:=o.aS.set b.toNat (m.c_ n v) }) 0)
     cases hab:nL (m.ax n).aA y.2.2.ref.1 x.2.2.ref.1 with
     | false=>
      rw [if_pos rfl]
      repeat refine DS ?_
      exact bL.code h.rel 22
     | true=>
      rw [if_neg (by simp)]
      repeat refine DS ?_
      exact tS
end
open Go.Bm Go.jJ
section
variable {c0:T0} {c1:T1} {d0:T2} {d1:T3} {d2:T4} {d3:T5} {d4:T6} {d5:T7} {d6:T8} {d7:T9} {d8:dT} {md:Nat} {m:M} {N:CR} {L:List NA} {es:List (iV×Option Nat)}
theorem mY {i:Nat} {a:NA} {x':Nat×Nat×jK} {us:Int} {jn:Option Nat} (ha:L[i]?=some a) {j p:Nat} {y:Nat×Nat×jK} (h:At (L.set i ⟨us,a.gate,jn,a.os++[x']⟩) j p y):(j=i∧p=a.os.length∧y=x')∨At L j p y:=by
 obtain ⟨c,h1,h2⟩:=h
 rcases getSet h1 with ⟨e1,e2⟩ | ⟨e,g⟩
 ·rw [e2] at h2
  have h2:(a.os++[x'])[p]?=some y:=h2
  by_cases hp:p<a.os.length
  ·rw [zK hp] at h2
   exact .inr ⟨a,by rw [e1];exact ha,h2⟩
  ·rw [zJ (by omega)] at h2
   by_cases Ui:p-a.os.length=0
   ·rw [Ui] at h2
    simp at h2
    exact .inl ⟨e1,by omega,h2.symm⟩
   ·rw [zb (by simp;omega)] at h2;cases h2
 ·exact .inr ⟨c,g,h2⟩
theorem CV {i:Nat} {a:NA} {x':Nat×Nat×jK} {us:Int} {jn:Option Nat} (ha:L[i]?=some a) {j p:Nat} {y:Nat×Nat×jK} (h:At L j p y):At (L.set i ⟨us,a.gate,jn,a.os++[x']⟩) j p y:=by
 obtain ⟨c,h1,h2⟩:=h
 by_cases e:i=j
 ·subst e
  rw [ha] at h1;cases h1
  refine ⟨_,by rw [List.getElem?_set,if_pos rfl,if_pos (zB.1 ha).1],?_⟩
  show (a.os++[x'])[p]?=some y
  rw [zK (zB.1 h2).1];exact h2
 ·exact ⟨c,by rw [List.getElem?_set,if_neg e];exact h1,h2⟩
theorem CW {i:Nat} {a:NA} {x':Nat×Nat×jK} {us:Int} {jn:Option Nat} (ha:L[i]?=some a):At (L.set i ⟨us,a.gate,jn,a.os++[x']⟩) i a.os.length x':=
 ⟨_,by rw [List.getElem?_set,if_pos rfl,if_pos (zB.1 ha).1],by
  show (a.os++[x'])[a.os.length]?=some x'
  simp⟩
theorem MR.push (h:MR c0 c1 d0 d1 d2 d3 d4 d5 d6 d7 d8 md m N L es) {i:Nat} {a:NA} (ha:L[i]?=some a) (us:Int) (o:jK) (hf:∀v,(o.ref,v)∉es) {uP:T9} {jn:Nat}
  (h7:aD uP jn=some ((a.os++[(d6.length,d8.length,o)]).map fun x=>some x.1)) (f7:∀j b r,j≠i→L[j]?=some b→b.jo=some r→aD uP r=aD d7 r∧r≠jn) :
  MR c0 c1 d0 d1 d2 (aU d3 N.ja (some ((L.set i ⟨us,a.gate,some jn,a.os++[(d6.length,d8.length,o)]⟩).map fun a=>(a.used,(a.gate,a.jo))))) d4 (aU d5 N.mp (cat es [(o.ref,some d6.length)])) (cat d6 [(o.ref,(o.tag,(some d8.length,o.done)))]) uP (cat d8 [some o.aS]) md
   { m with ar:=m.ar.set i ⟨us,a.gate,a.er.aX++[o]⟩ } N (L.set i ⟨us,a.gate,some jn,a.os++[(d6.length,d8.length,o)]⟩) (cat es [(o.ref,some d6.length)]):=by
 have lt6:∀j p y,At L j p y→y.1<d6.length:=fun j p y hy=>(zB.1 (h.ob j p y hy).1).1
 have lt8:∀j p y,At L j p y→y.2.1<d8.length:=fun j p y hy=>j5 (h.ob j p y hy).2
 refine ⟨h.box,h.sr,h.th,aC h.ar,?_,?_,?_,?_,?_,?_,jZ h.mp,?_,?_⟩
 ·show m.ar.set i _=_
  rw [h.er]
  refine (km (f:=NA.er) (x:=⟨us,a.gate,some jn,a.os++[(d6.length,d8.length,o)]⟩) ?_).symm
  show mG.mk us a.gate ((a.os++[(d6.length,d8.length,o)]).map fun y=>y.2.2)=_
  rw [List.map_append];rfl
 ·intro b hb
  obtain ⟨j,hj⟩:=List.getElem?_of_mem hb
  rcases getSet hj with ⟨e1,e2⟩ | ⟨e,g⟩
  ·rw [e2];exact .inr ⟨jn,rfl,h7⟩
  ·rcases h.jo b (zG g) with k | ⟨r,k1,k2⟩
   ·exact .inl k
   ·exact .inr ⟨r,k1,by rw [(f7 j b r e g k1).1];exact k2⟩
 ·intro j p y hy
  rcases mY ha hy with ⟨_,_,rfl⟩ | hy
  ·refine ⟨?_,?_⟩
   ·show (d6++[_])[d6.length]?=_
    simp
   ·exact dw
  ·have:=h.ob j p y hy
   refine ⟨?_,?_⟩
   ·show (d6++[_])[y.1]?=_
    rw [zK (lt6 j p y hy)];exact this.1
   ·rw [mO,if_neg (by have:=lt8 j p y hy;omega)];exact this.2
 ·intro j j' p p' y y' hy rn e
  rcases mY ha hy with ⟨rfl,rfl,rfl⟩ | gy
  ·rcases mY ha rn with ⟨rfl,rfl,rfl⟩ | D6
   ·exact ⟨rfl,rfl⟩
   ·have:=lt6 _ _ _ D6;simp only at e;omega
  ·rcases mY ha rn with ⟨rfl,rfl,rfl⟩ | D6
   ·have:=lt6 _ _ _ gy;simp only at e;omega
   ·exact h.n6 _ _ _ _ y y' gy D6 e
 ·intro j j' p p' y y' hy rn e
  rcases mY ha hy with ⟨rfl,rfl,rfl⟩ | gy
  ·rcases mY ha rn with ⟨rfl,rfl,rfl⟩ | D6
   ·exact ⟨rfl,rfl⟩
   ·have:=lt8 _ _ _ D6;simp only at e;omega
  ·rcases mY ha rn with ⟨rfl,rfl,rfl⟩ | D6
   ·have:=lt8 _ _ _ gy;simp only at e;omega
   ·exact h.n8 _ _ _ _ y y' gy D6 e
 ·intro j l b c r hb hc h1 h2
  rcases getSet hb with ⟨e1,e2⟩ | ⟨n1,g1⟩
  ·rcases getSet hc with ⟨e3,e4⟩ | ⟨n2,g2⟩
   ·rw [e1,e3]
   ·rw [e2] at h1
    have h1:some jn=some r:=h1
    cases h1
    exact absurd rfl (f7 l c jn n2 g2 h2).2
  ·rcases getSet hc with ⟨e3,e4⟩ | ⟨n2,g2⟩
   ·rw [e4] at h2
    have h2:some jn=some r:=h2
    cases h2
    exact absurd rfl (f7 j b jn n1 g1 h1).2
   ·exact h.n7 j l b c r g1 g2 h1 h2
 ·show ((es++[(o.ref,some d6.length)]).map fun e=>e.1).Nodup
  rw [List.map_append,List.nodup_append]
  refine ⟨h.ek,by simp,fun r hr q hq e=>?_⟩
  simp only [List.map_cons,List.map_nil,zF] at hq
  subst hq e
  obtain ⟨⟨r,v⟩,hm,rfl⟩:=List.mem_map.1 hr
  exact hf v hm
 ·intro r v
  show (r,v)∈es++[(o.ref,some d6.length)]↔_
  rw [zX,h.em,zF]
  constructor
  ·rintro (⟨j,p,y,hy,h1,h2⟩ | e)
   ·exact ⟨j,p,y,CV ha hy,h1,h2⟩
   ·cases e;exact ⟨_,_,_,CW ha,rfl,rfl⟩
  ·rintro ⟨j,p,y,hy,h1,h2⟩
   rcases mY ha hy with ⟨_,_,rfl⟩ | hy
   ·exact .inr (by rw [h1,h2])
   ·exact .inl ⟨j,p,y,hy,h1,h2⟩
theorem yF {α:Type} {l:List α} {i:Nat} {x y:α}:aU (aU l i x) i y=aU l i y:=by simp only [aU,List.set_set]
theorem G1 {k:Nat} (hi:MI k m) {n:Int} (hs:0≤db (m.ax n).aA∧db (m.ax n).aA<m.p.1):m.ra n=(db (m.ax n).aA,((ab m.sc (db (m.ax n).aA)).1.2.2.2,(ab m.sc (db (m.ax n).aA)).2.1+(m.bm (db (m.ax n).aA)).used)):=by
 have D1:lb m.sc 0 (db (m.ax n).aA)=true:=bX.2 ⟨hs.1,by rw [hi.ls];exact hs.2⟩
 unfold M.ra ph kq
 rw [if_pos D1,if_pos D1]
theorem jV {α:Type} {d x:α} {l:List α}:nth d (cat l [x]) (len l)=x:=sq
theorem BS {X:iV×Int×Option Nat×Bool} {R:iV} {u:Int×Option Nat×Bool} {e:List (iV×Option Nat)} (hX:X=(R,u)) (hm:oV (nf (Ty.pair (Ty.int IntKind.i64) (Ty.pair (Ty.int IntKind.i64) (Ty.int IntKind.i64))) R) e 0=none) :
  oV (nf (Ty.pair (Ty.int IntKind.i64) (Ty.pair (Ty.int IntKind.i64) (Ty.int IntKind.i64))) (X.1.1,(X.1.2.1,X.1.2.2))) e 0=none:=by subst hX;exact hm
theorem JO {R R':iV} {e e':List (iV×Option Nat)} (hR:R=R') (he:e=e') (hm:oV (nf (Ty.pair (Ty.int IntKind.i64) (Ty.pair (Ty.int IntKind.i64) (Ty.int IntKind.i64))) R') e' 0=none):oV (nf (Ty.pair (Ty.int IntKind.i64) (Ty.pair (Ty.int IntKind.i64) (Ty.int IntKind.i64))) R) e 0=none:=by subst hR he;exact hm
theorem Jb {X:iV×Int×Option Nat×Bool} {R R':iV} {u:Int×Option Nat×Bool} (hX:X=(R,u)) (hR:R=R'):g.kF (X.1.1,(X.1.2.1,X.1.2.2))=some (((iT R').1,((iT R').2,())),()):=by subst hX hR;exact vB R
theorem ug.cast {Ah:T5} {Ag:T6} {qE:T7} {qD:T8} {uP:T9} {tZ:dT} (h:ug c0 c1 d0 d1 d2 d3 d4 d5 d6 d7 d8 md m) (e3:Ah=d3) (e4:Ag=d4) (e5:qE=d5) (e6:qD=d6) (e7:uP=d7) (e8:tZ=d8):ug c0 c1 d0 d1 d2 Ah Ag qE qD uP tZ md m:=by
 subst e3 e4 e5 e6 e7 e8;exact h
theorem TH (h:MR c0 c1 d0 d1 d2 d3 d4 d5 d6 d7 d8 md m N L es) {k:Nat} (hi:MI k m) (yk:CT m) {n:Int} (hn:0≤n∧n<m.th.length) {r gg v a b t:Int} (hr:cC (7,r,gg,v,a,b,t)=true) (AF:0≤r) :
  bL (g.fF md n (7,r,gg,v,a,b,t) c0 c1 d0 d1 d2 d3 d4 d5 d6 d7 d8 N.jt) c0 c1 md (m.alloc n r a b t):=by
 have J7:r<4:=pn (c:=(7,r,gg,v,a,b,t)) (l:=[r]) hr rfl r (by simp)
 have ht:=hi.ax hn
 have yf:=h.th
 have w9:=h.ar
 have b2:=ua h
 have b3:=rI h
 have b5:=wN h
 have yj:=hi.si.len
 have hA:=Lj hi hn
 have AG:=hi.kk
 have hw1:=z6 a b
 have iH:=hi.live yk (M.ko hn) (qx ht.2.2)
 have hs:0≤db (m.ax n).aA∧db (m.ax n).aA<m.p.1:=⟨iH.2.2.1,iH.2.2.2⟩
 have hnr:=G1 hi hs
 have D1:lb m.sc 0 (db (m.ax n).aA)=true:=bX.2 ⟨hs.1,by rw [hi.ls];exact hs.2⟩
 have hE:=A0 h.sr (db (m.ax n).aA) (by omega)
 have hC:=rV h.sr (db (m.ax n).aA) (by omega)
 have LV:=pX h hi
 have qB:=hi.size iH.1 (by omega)
 have Ks:=(hi.tq hs).2
 obtain ⟨na,xv,B0⟩:=yB h hi hs
 unfold g.fF M.alloc
 refine bL.of (kh (c:=(7,r,gg,v,a,b,t)) hr) ?_
 dsimp only
 rw [hnr]
 unfold ph at hE ⊢
 unfold kq at hC
 rw [if_pos D1] at hE hC
 rw [if_pos D1]
 rw [B0] at Ks ⊢
 generalize hss:db (m.ax n).aA=s at *
 have zu:=Ks.us
 by_cases he:(bo a b).2=0
 ·have hw:=ou he
  cases QP:within t 0 7 with
  | false=>
   rw [if_pos (.inr rfl)]
   repeat refine DS ?_
   exact bL.code h.rel 1
  | true=>
   rw [if_neg (by simp [he])]
   have eU:af IntKind.i64 (nth (0,(0,none)) (L.map fun a=>(a.used,(a.gate,a.jo))) (nN s)).1 (fY IntKind.i64 (bo a b).1 8)=na.used+(bo a b).1*8:=by
    have zu:0≤na.used∧na.used%8=0∧na.used≤(ab m.sc s).2.2:=zu
    rw [pW xv,a5 (by omega),aG (by show -9223372036854775808≤na.used+_∧na.used+_≤_;omega)]
   by_cases Uk:(ab m.sc s).2.2<na.er.used+(bo a b).1*8
   ·rw [if_pos Uk]
    repeat refine DS ?_
    dsimp only
    rw [eU]
    refine bL.of (aZ Uk) ?_
    repeat refine DS ?_
    exact bL.code h.rel 17
   ·rw [if_neg Uk]
    repeat refine DS ?_
    dsimp only
    have eU2:=eU
    rw [eU]
    refine bL.of (a7 Uk) ?_
    have eR:((s,((ab m.sc s).1.2.2.2,af IntKind.i64 (ab m.sc s).2.1 (nth (0,(0,none)) (L.map fun a=>(a.used,(a.gate,a.jo))) (nN s)).1)):iV)=(s,((ab m.sc s).1.2.2.2,(ab m.sc s).2.1+na.er.used)):=by
     have zu:0≤na.used∧na.used%8=0∧na.used≤(ab m.sc s).2.2:=zu
     rw [pW xv,aG (by show -9223372036854775808≤_+na.used∧_+na.used≤_;omega)];rfl
    have mz:∀v,(((s,((ab m.sc s).1.2.2.2,(ab m.sc s).2.1+na.er.used)):iV),v)∉es:=by
     intro v hv
     obtain ⟨i,p,x,hx,h1,_⟩:=(h.em _ v).1 hv
     obtain ⟨a',y,g1,g2,g3,g4,g5,g6,g7,g8⟩:=h.place hi hx
     rw [←h1] at g8
     have Hf:s=(i:Int):=g8
     rw [Hf,zE] at xv
     rw [xv] at g1;cases g1
     have fN:=g6.ob _ (zG g7)
     rw [Hf] at iH
     rw [zE,g5] at iH
     obtain ⟨_,_,_,q4,_⟩:=fN
     have hy:=iH.1
     have hy:y=ab m.sc (i:Int):=by cases hy;rfl
     rw [←h1,Hf,←hy] at q4
     have q4:y.2.1+na.er.used+16≤y.2.1+na.er.used:=q4
     omega
    have oO:nth [] d5 N.mp=es:=bj h.mp
    have hm:oV (nf (Ty.pair (Ty.int IntKind.i64) (Ty.pair (Ty.int IntKind.i64) (Ty.int IntKind.i64))) ((s,((ab m.sc s).1.2.2.2,af IntKind.i64 (ab m.sc s).2.1 (nth (0,(0,none)) (L.map fun a=>(a.used,(a.gate,a.jo))) (nN s)).1)):iV)) (nth [] d5 N.mp) 0=none:=by
     exact JO eR oO (BO es 0 mz)
    have hAU:=As xv { na with used:=na.used+(bo a b).1*8 } (fun GD=>(af IntKind.i64 (nth (0,(0,none)) (L.map fun a=>(a.used,(a.gate,a.jo))) (nN s)).1 (fY IntKind.i64 (bo a b).1 8),GD.2)) (by dsimp only;rw [eU2])
    have Nn:(L.set s.toNat { na with used:=na.used+(bo a b).1*8 })[s.toNat]?=some { na with used:=na.used+(bo a b).1*8 }:=by
     rw [List.getElem?_set,if_pos rfl,if_pos (zB.1 xv).1]
    have xw:(nth (0,(0,none)) (aw (0,(0,none)) (L.map fun a=>(a.used,(a.gate,a.jo))) (nN s) (fun GD=>(af IntKind.i64 (nth (0,(0,none)) (L.map fun a=>(a.used,(a.gate,a.jo))) (nN s)).1 (fY IntKind.i64 (bo a b).1 8),GD.2))) (nN s)).2.2=na.jo:=by
     rw [hAU,pW Nn]
    have hd3:∀(jn:Nat),aU (aU d3 N.ja (some (aw (0,(0,none)) (L.map fun a=>(a.used,(a.gate,a.jo))) (nN s) (fun GD=>(af IntKind.i64 (nth (0,(0,none)) (L.map fun a=>(a.used,(a.gate,a.jo))) (nN s)).1 (fY IntKind.i64 (bo a b).1 8),GD.2))))) N.ja
      (some (aw (0,(0,none)) (aw (0,(0,none)) (L.map fun a=>(a.used,(a.gate,a.jo))) (nN s) (fun GD=>(af IntKind.i64 (nth (0,(0,none)) (L.map fun a=>(a.used,(a.gate,a.jo))) (nN s)).1 (fY IntKind.i64 (bo a b).1 8),GD.2))) (nN s) (fun HQ=>(HQ.1,(HQ.2.1,some jn)))))
      = aU d3 N.ja (some ((L.set s.toNat ⟨na.used+(bo a b).1*8,na.gate,some jn,na.os++[(d6.length,d8.length,⟨(s,((ab m.sc s).1.2.2.2,(ab m.sc s).2.1+na.er.used)),t,List.replicate a.toNat 0,false⟩)]⟩).map fun a=>(a.used,(a.gate,a.jo)))):=by
     intro jn
     rw [yF,hAU,As Nn ⟨na.used+(bo a b).1*8,na.gate,some jn,na.os++[(d6.length,d8.length,⟨(s,((ab m.sc s).1.2.2.2,(ab m.sc s).2.1+na.er.used)),t,List.replicate a.toNat 0,false⟩)]⟩ _ rfl,List.set_set]
    have hl9:na.os.length≤9000:=by
     have:=Ks.ol
     have e:na.er.aX.length=na.os.length:=by show (na.os.map _).length=_;rw [zH]
     omega
    have J5:∀w,aw ([0,0,0,0],[]) (m.th.map fun t=>(t.dc,t.aA)) (nN n) (fun tJ=>(cy 0 tJ.1 (nN r) w,tJ.2))=(m.gp n ⟨(m.ax n).dc.set r.toNat w,(m.ax n).aA⟩).th.map fun t=>(t.dc,t.aA):=fun w=>
     nT hn ⟨(m.ax n).dc.set r.toNat w,(m.ax n).aA⟩ _ (by dsimp only;rw [pU ht.1 (by omega)])
    rcases h.jo na (zG xv) with ⟨j1,j2⟩ | ⟨j,j1,j2⟩
    ·rw [j1] at xw
     repeat refine DS ?_
     refine bL.of (uj (BS jV hm)) ?_
     refine Ra (Jb jV eR) ?_
     repeat refine DS ?_
     refine ⟨_,_,_,_,_,_,_,_,_,rfl,ug.cast ⟨N,_,_,(h.push xv (na.used+(bo a b).1*8) ⟨(s,((ab m.sc s).1.2.2.2,(ab m.sc s).2.1+na.er.used)),t,List.replicate a.toNat 0,false⟩ mz (uP:=cat d7 [some [some (len d6)]]) (jn:=d7.length) ?_ ?_).gp n _⟩ (hd3 _) ?_ ?_ ?_ rfl rfl⟩
     ·rw [dw,j2];rfl
     ·intro j' b' r' jB xx DW
      rcases h.jo b' (zG xx) with ⟨k1,_⟩ | ⟨j3,k1,k2⟩
      ·rw [k1] at DW;cases DW
      ·rw [k1] at DW;cases DW
       have:=j5 k2
       exact ⟨by rw [mO,if_neg (by omega)],by omega⟩
     ·rw [J5];rfl
     ·unfold aw
      rw [oO,jV,eR];rfl
     ·rw [eR];rfl
    ·rw [j1] at xw
     have hj7:=j5 j2
     repeat refine DS ?_
     refine bL.of (uj (BS jV hm)) ?_
     refine Ra (Jb jV eR) ?_
     repeat refine DS ?_
     refine ⟨_,_,_,_,_,_,_,_,_,rfl,ug.cast ⟨N,_,_,(h.push xv (na.used+(bo a b).1*8) ⟨(s,((ab m.sc s).1.2.2.2,(ab m.sc s).2.1+na.er.used)),t,List.replicate a.toNat 0,false⟩ mz (uP:=cat (aU d7 j none) [some (cat (na.os.map fun x=>some x.1) [some (len d6)])]) (jn:=(aU d7 j none).length) ?_ ?_).gp n _⟩ (hd3 _) ?_ ?_ ?_ rfl rfl⟩
     ·rw [dw,List.map_append];rfl
     ·intro j' b' r' jB xx DW
      rcases h.jo b' (zG xx) with ⟨k1,_⟩ | ⟨j3,k1,k2⟩
      ·rw [k1] at DW;cases DW
      ·rw [k1] at DW;cases DW
       have eh:=j5 k2
       have wh:(aU d7 j none).length=d7.length:=zM
       have Kg:j≠r':=fun e=>jB (h.n7 j' s.toNat b' na r' xx xv k1 (by rw [j1,e]))
       exact ⟨by rw [mO,if_neg (by omega),uW hj7,if_neg Kg],by omega⟩
     ·rw [J5];rfl
     ·unfold aw
      rw [oO,jV,eR];rfl
     ·rw [eR];rfl
 ·rw [if_pos (.inl he)]
  repeat refine DS ?_
  exact bL.code h.rel 1
end
open Go.Bm Go.jJ
theorem Cf {f:List (List h_)} (hf:m9 f) (o:jK):(dV f o).2.1.length≤8:=by
 unfold dV
 split
 ·simp
 ·have:=mU (ev f o.tag) o.aS
  have h8:(ev f o.tag).length≤8:=by
   unfold ev
   split
   ·rw [zA]
    cases hx:f[o.tag.toNat]? with
    | none=>simp
    | some x=>exact (hf.2 x (zG hx)).1
   ·simp
  simp only;omega
theorem uv {f:List (List h_)} (hf:m9 f):∀l:List jK,(bM f l).2.1.length≤8*l.length
 | []=>by simp [bM]
 | o::l=>by
  have:=uv hf l
  have:=Cf hf o
  simp [bM];omega
theorem KL (f:List (List h_)) (o:jK):0≤(dV f o).2.2.1∧(dV f o).2.2.1≤1:=by
 unfold dV
 split<;>simp
theorem Cg (f:List (List h_)):∀l:List jK,0≤(bM f l).2.2.1∧(bM f l).2.2.1≤l.length
 | []=>by simp [bM]
 | o::l=>by
  have:=Cg f l
  have:=KL f o
  simp [bM];omega
theorem tX {f:List (List h_)} (hf:m9 f) (t:Int):xY (ev f t):=by
 unfold ev
 split
 ·rw [zA]
  cases hx:f[t.toNat]? with
  | none=>exact ⟨by simp,fun o ho=>by simp at ho⟩
  | some x=>exact hf.2 x (zG hx)
 ·exact ⟨by simp,fun o ho=>by simp at ho⟩
section
variable {c0:T0} {c1:T1} {d0:T2} {d1:T3} {d2:T4} {d3:T5} {d4:T6} {d5:T7} {d6:T8} {d7:T9} {d8:dT} {md:Nat} {m:M} {N:CR} {L:List NA} {es:List (iV×Option Nat)}
def M.lJ (m:M) (s:Int) (X:List jK):M:=m.cK s { m.bm s with aX:=X }
abbrev ahV:Type:=((Int×Unit)×(Unit×(Unit×(((Int×(Int×((List Int)×Unit)))×Unit)×(T8×(dT×Unit))))))
def yp (i code n:Int) (said:List Int) (d6:T8) (d8:dT):ahV:=((i,()),((),((),(((code,(n,(said,()))),()),(d6,(d8,()))))))
def QL (b:Bool):Int:=if b=true then 25 else 0
abbrev Ou:Type:=(Unit×(Unit×(Unit×(((Int×(Int×((List Int)×Unit)))×((Int×(Int×((List Int)×Unit)))×Unit))×(T8×(dT×Unit))))))
def NW (code n:Int) (said:List Int) (d6:T8) (d8:dT):Ou:=((),((),((),(((0,(0,([],()))),((code,(n,(said,()))),())),(d6,(d8,()))))))
theorem wq (Uq:MI 9000 m) {s:Int} (hs:0≤s∧s<m.p.1) {jo:Nat} (aX:List jK) (ho:(m.bm s).aX=aX) :
  ∀(j:Nat) (d6:T8) (d8:dT) (L:List NA) (a:NA),j≤aX.length→MR c0 c1 d0 d1 d2 d3 d4 d5 d6 d7 d8 md (M.lJ m s (aX.take j++(bM m.f (aX.drop j)).1)) N L es→L[s.toNat]?=some a→a.jo=some jo →
  ∃qD tZ L' a',MR c0 c1 d0 d1 d2 d3 d4 d5 qD d7 tZ md (M.lJ m s (bM m.f aX).1) N L' es∧L'[s.toNat]?=some a'∧a'.jo=some jo∧∀K:Ou→Option Gd,
   xF (g.gU md c0 d0 d1 d2 d3 d4 d5 d7 jo K) (yp ((j:Int)-1) (QL (bM m.f (aX.drop j)).2.2.2) (bM m.f (aX.drop j)).2.2.1 (bM m.f (aX.drop j)).2.1 d6 d8)
    (if (bM m.f aX).2.2.2=true then some (((25,((bM m.f aX).2.2.1,(bM m.f aX).2.1)),(0,())),(d0,(d1,(d2,(d3,(d4,(d5,(qD,(d7,(tZ,()))))))))))
     else K (NW 0 (bM m.f aX).2.2.1 (bM m.f aX).2.1 qD tZ)) j
 | 0,d6,d8,L,a,_,h,ha,hj=>by
  rw [List.take_zero,List.drop_zero,List.nil_append] at h
  refine ⟨d6,d8,L,a,h,ha,hj,fun K=>.stop 0 fun G=>?_⟩
  rw [List.drop_zero]
  unfold g.gU yp
  dsimp only
  refine Eq.trans (ba (by omega)) ?_
  unfold QL
  cases hh:(bM m.f aX).2.2.2 with
  | true=>
   rw [if_pos rfl,if_pos rfl]
   repeat refine HS ?_
   rfl
  | false=>
   rw [if_neg (by simp),if_neg (by simp)]
   repeat refine HS ?_
   rfl
 | j+1,d6,d8,L,a,hjl,h,ha,xw=>by
  have eh:j<aX.length:=by omega
  have hd:aX.drop j=aX[j]::aX.drop (j+1):=List.drop_eq_getElem_cons eh
  have D2:m9 m.f:=Uq.ff
  have pG:aX.take (j+1)=aX.take j++[aX[j]]:=by rw [List.take_add_one,zD eh];rfl
  have hLs:(M.lJ m s (aX.take (j+1)++(bM m.f (aX.drop (j+1))).1)).ar[s.toNat]?=some a.er:=by rw [h.er,zL,ha];rfl
  have Sr:=Uq.la
  have hao:a.er={ m.bm s with aX:=aX.take (j+1)++(bM m.f (aX.drop (j+1))).1 }:=by
   have:(m.ar.set s.toNat { m.bm s with aX:=aX.take (j+1)++(bM m.f (aX.drop (j+1))).1 })[s.toNat]?=some a.er:=hLs
   rw [List.getElem?_set,if_pos rfl,if_pos (by omega)] at this
   exact (Option.some.inj this).symm
  have aeG:a.er.aX[j]?=some aX[j]:=by
   rw [hao]
   show (aX.take (j+1)++_)[j]?=_
   rw [zK (by rw [List.length_take];omega),List.getElem?_take,if_pos (by omega),zD eh]
  obtain ⟨x,hx,Ue⟩:∃x,a.os[j]?=some x∧x.2.2=aX[j]:=by
   have:(a.os.map fun x=>x.2.2)[j]?=some aX[j]:=aeG
   rw [zL] at this
   cases hx:a.os[j]? with
   | none=>rw [hx] at this;cases this
   | some x=>rw [hx] at this;exact ⟨x,rfl,by simpa using this⟩
  have Fy:At L s.toNat j x:=⟨a,ha,hx⟩
  have h67:=h.ob _ _ x Fy
  have e6:nth ((0,(0,0)),(0,(none,false))) d6 x.1=(x.2.2.ref,(x.2.2.tag,(some x.2.1,x.2.2.done))):=bj h67.1
  have uO:aD d7 jo=some (a.os.map fun x=>some x.1):=by
   rcases h.jo a (zG ha) with ⟨k1,_⟩ | ⟨r,k1,k2⟩
   ·rw [k1] at xw;cases xw
   ·rw [k1] at xw;cases xw;exact k2
  have am8:j<a.os.length:=(zB.1 hx).1
  have aeI:nth none (a.os.map fun x=>some x.1) (nN ((((j+1:Nat):Int))-1))=some x.1:=by
   have e:nN ((((j+1:Nat):Int))-1)=j:=by rw [cM];omega
   rw [e]
   exact bj (by rw [zL,hx];rfl)
  have Ks:=(Uq.tq hs).2
  have fN:BG (ab m.sc s) s.toNat (m.bm s).used aX[j]:=Ks.ob _ (by rw [ho];exact List.getElem_mem eh)
  have yh:aX.length≤9000:=by rw [←ho];exact Ks.ol
  have afd:=abJ h
  have hbf:(nth j_ c0 md).2.1=m.f:=afd
  have hOf:g.wu m.f x.2.2.tag=some ((ev m.f x.2.2.tag,()),()):=KK (l:=m.f) x.2.2.tag (by have:=D2.1;omega)
  have kV:=tX D2 x.2.2.tag
  have hsd:=uv D2 (aX.drop (j+1))
  have Kc:=Cg m.f (aX.drop (j+1))
  have hdl:(aX.drop (j+1)).length≤9000:=by simp;omega
  have Kq:bM m.f (aX.drop j)=((dV m.f aX[j]).1::(bM m.f (aX.drop (j+1))).1,(bM m.f (aX.drop (j+1))).2.1++(dV m.f aX[j]).2.1,(bM m.f (aX.drop (j+1))).2.2.1+(dV m.f aX[j]).2.2.1,(bM m.f (aX.drop (j+1))).2.2.2 || (dV m.f aX[j]).2.2.2):=by
   rw [hd];rfl
  by_cases hq:aX[j].done=true∨ev m.f aX[j].tag=[]
  ·-- nothing is to be done
   have LY:dV m.f aX[j]=(aX[j],[],0,false):=by unfold dV;rw [if_pos hq]
   have qN:(bM m.f (aX.drop j)).1=aX[j]::(bM m.f (aX.drop (j+1))).1∧(bM m.f (aX.drop j)).2=(bM m.f (aX.drop (j+1))).2:=by
    rw [Kq,LY];simp
   have hX:aX.take (j+1)++(bM m.f (aX.drop (j+1))).1=aX.take j++(bM m.f (aX.drop j)).1:=by
    rw [pG,qN.1,List.append_assoc];rfl
   rw [hX] at h
   obtain ⟨qD,tZ,L',a',r1,r2,r3,r4⟩:=wq Uq hs aX ho j d6 d8 L a (by omega) h ha xw
   refine ⟨qD,tZ,L',a',r1,r2,r3,fun K=>?_⟩
   rw [qN.2] at r4
   refine .step (r4 K) fun G=>?_
   unfold g.gU yp
   dsimp only
   refine Eq.trans (a4 (by omega)) ?_
   repeat refine HS ?_
   rw [e6,hbf]
   refine nK hOf ?_
   rw [←Ue] at hq
   rcases hq with hq | hq
   ·repeat refine HS ?_
    have ei:aK IntKind.i64 (((j+1:Nat):Int)-1) 1=(j:Int)-1:=by rw [aN (by omega)];omega
    rw [ei]
   ·rw [hq]
    cases AM:x.2.2.done with
    | true=>
     repeat refine HS ?_
     have ei:aK IntKind.i64 (((j+1:Nat):Int)-1) 1=(j:Int)-1:=by rw [aN (by omega)];omega
     rw [ei]
    | false=>
     repeat refine HS ?_
     have ei:aK IntKind.i64 (((j+1:Nat):Int)-1) 1=(j:Int)-1:=by rw [aN (by omega)];omega
     rw [ei]
  ·have LY:dV m.f aX[j]=({ aX[j] with aS:=(fZ (ev m.f aX[j].tag) aX[j].aS).1,done:=true },(fZ (ev m.f aX[j].tag) aX[j].aS).2.1,1,(fZ (ev m.f aX[j].tag) aX[j].aS).2.2.1):=by
    unfold dV;rw [if_neg hq]
   have AM:aX[j].done=false:=by
    cases hd:aX[j].done with
    | true=>exact absurd (.inl hd) hq
    | false=>rfl
   have jB:ev m.f aX[j].tag≠[]:=fun e=>hq (.inr e)
   have FA:x.2.2.aS.length≤100:=by rw [Ue];have:=fN.2.2.2.2.2.2.1;omega
   have afg:=Hy kV h67.2 FA
   rw [←Ue] at AM jB LY
   have hX:M.lJ m s (aX.take j++(bM m.f (aX.drop j)).1)={ M.lJ m s (aX.take (j+1)++(bM m.f (aX.drop (j+1))).1) with ar:=(M.lJ m s (aX.take (j+1)++(bM m.f (aX.drop (j+1))).1)).ar.set s.toNat { a.er with aX:=a.er.aX.set j (dV m.f x.2.2).1 } }:=by
    unfold M.lJ M.cK
    congr 1
    rw [List.set_set,hao,Kq,pG,←Ue]
    congr 2
    rw [Ue]
    have hl:(aX.take j).length=j:=by rw [List.length_take];omega
    rw [List.append_assoc,List.set_append_right _ _ (by omega),hl,Nat.sub_self]
    rfl
   have hd6:aw ((0,(0,0)),(0,(none,false))) (aw ((0,(0,0)),(0,(none,false))) d6 x.1 (fun lW=>(lW.1,(lW.2.1,(some d8.length,lW.2.2.2))))) x.1 (fun mI=>(mI.1,(mI.2.1,(mI.2.2.1,true))))=d6.set x.1 (x.2.2.ref,(x.2.2.tag,(some d8.length,true))):=by
    have aeM:=(zB.1 h67.1).1
    unfold aw
    rw [sn aeM,e6]
    simp only [aU,List.set_set]
   have hMR:=h.Qi ha hx (sj:=d8.length) (o:=(dV m.f x.2.2).1) (rC m.f x.2.2).1 (qD:=d6.set x.1 (x.2.2.ref,(x.2.2.tag,(some d8.length,true)))) (tZ:=d8++[some (fZ (ev m.f x.2.2.tag) x.2.2.aS).1]) (by
     rw [List.getElem?_set,if_pos rfl,if_pos (zB.1 h67.1).1,LY]) (by rw [LY];exact dw) (fun n hn=>by rw [List.getElem?_set,if_neg (fun e=>hn e.symm)]) (fun j' p' y hy Hj=>by
     have amZ:=j5 (h.ob _ _ y hy).2
     exact ⟨by show aD (cat d8 [_]) _=_;rw [mO,if_neg (by omega)],by omega⟩)
   rw [←hX] at hMR
   obtain ⟨qD,tZ,L',a',r1,r2,r3,r4⟩:=wq Uq hs aX ho j _ _ _ { a with os:=a.os.set j (x.1,d8.length,(dV m.f x.2.2).1) } (by omega) hMR (by
    rw [List.getElem?_set,if_pos rfl,if_pos (zB.1 ha).1]) xw
   refine ⟨qD,tZ,L',a',r1,r2,r3,fun K=>.step (r4 K) fun G=>?_⟩
   rw [Kq,←Ue,LY]
   have hrs:=mU (ev m.f x.2.2.tag) x.2.2.aS
   have h8:=kV.1
   unfold g.gU yp
   dsimp only
   have ei:aK IntKind.i64 (((j+1:Nat):Int)-1) 1=(j:Int)-1:=by rw [aN (by omega)];omega
   have en:af IntKind.i64 (bM m.f (aX.drop (j+1))).2.2.1 1=(bM m.f (aX.drop (j+1))).2.2.1+1:=aG (by omega)
   refine Eq.trans (a4 (by omega)) ?_
   repeat refine HS ?_
   rw [e6,hbf]
   refine nK hOf ?_
   have hz:¬((ev m.f x.2.2.tag).length:Int)=0:=by
    intro e
    exact jB (zZ (by omega))
   repeat refine HS ?_
   rw [ei,en]
   cases hh:(fZ (ev m.f x.2.2.tag) x.2.2.aS).2.2.1 with
   | true=>
    repeat refine HS ?_
    rw [hd6]
    simp only [Bool.or_true]
    rfl
   | false=>
    repeat refine HS ?_
    rw [hd6]
    simp only [Bool.or_false]
    rfl
end
open Go.Bm Go.jJ
section
variable {c0:T0} {c1:T1} {d0:T2} {d1:T3} {d2:T4} {d3:T5} {d4:T6} {d5:T7} {d6:T8} {d7:T9} {d8:dT} {md:Nat} {m:M} {N:CR} {L:List NA} {es:List (iV×Option Nat)}
abbrev aiE:Type:=((Int×Unit)×(Unit×(Unit×(Unit×(T7×Unit)))))
def K0 (i:Int) (d5:T7):aiE:=((i,()),((),((),((),(d5,())))))
abbrev aiF:Type:=(Unit×(Unit×(Unit×(Unit×(T3×(T5×(T7×Unit)))))))
def EA (L:List NA) (s k:Nat) (es:List (iV×Option Nat)):Prop:=(es.map fun e=>e.1).Nodup∧∀r v,(r,v)∈es↔∃i p x,At L i p x∧¬(i=s∧p<k)∧r=x.2.2.ref∧v=some x.1
theorem Ae {es:List (iV×Option Nat)} (hk:(es.map fun e=>e.1).Nodup) {j:Nat} {r0:iV} {v0:Option Nat} (hj:es[j]?=some (r0,v0)) (r:iV) (v:Option Nat):(r,v)∈es.eraseIdx j↔(r,v)∈es∧r≠r0:=by
 have Sm:∀(p q:Nat) (a b:iV×Option Nat),es[p]?=some a→es[q]?=some b→a.1=b.1→p=q:=by
  intro p q a b hp hq e
  have Zj:=List.pairwise_iff_getElem.1 hk
  obtain ⟨l1,e1⟩:=zB.1 hp
  obtain ⟨l2,e2⟩:=zB.1 hq
  rcases Nat.lt_trichotomy p q with h | h | h
  ·have:=Zj p q (by simpa using l1) (by simpa using l2) h
   rw [List.getElem_map,List.getElem_map,e1,e2] at this;exact absurd e this
  ·exact h
  ·have:=Zj q p (by simpa using l2) (by simpa using l1) h
   rw [List.getElem_map,List.getElem_map,e1,e2] at this;exact absurd e.symm this
 rw [List.mem_eraseIdx_iff_getElem?]
 constructor
 ·rintro ⟨p,hn,hp⟩
  exact ⟨zG hp,fun e=>hn (Sm p j _ _ hp hj e)⟩
 ·rintro ⟨hm,hn⟩
  obtain ⟨p,hp⟩:=List.getElem?_of_mem hm
  refine ⟨p,fun e=>hn ?_,hp⟩
  subst e
  rw [hj] at hp;cases hp;rfl
theorem Cm (h:MR c0 c1 d0 d1 d2 d3 d4 d5 d6 d7 d8 md m N L es) {k0:Nat} (hi:MI k0 m) {s:Int} (hs:0≤s∧s<m.p.1) {a:NA} (ha:L[s.toNat]?=some a) {jo:Nat} (xw:a.jo=some jo) (v2:Ou) (Nj:v2.2.2.2.2.1=d6) (v3:(((List (Int×Bool))×((Int×Bool)×(Int×Unit)))×Unit)) (hv3:v3.1.2.1.1=s) :
  ∀(rem k:Nat) (N4:T7) (H4:List (iV×Option Nat)),k+rem=a.os.length→N4[N.mp]?=some H4→EA L s.toNat k H4 →
  ∃qE tm,qE[N.mp]?=some tm∧EA L s.toNat a.os.length tm∧∀(v4:aiF→Option Gd) (v5:((Int×Unit)×(T3×Unit))),
   xF (g.gV md c0 d3 d7 (a.os.map fun x=>some x.1) jo v2 v3 v4 v5) (K0 (k:Int) N4)
    (v4 ((),((),((),((),(v5.2.1,((aU d3 N.ja (some ((L.set s.toNat ⟨0,0,none,[]⟩).map fun a=>(a.used,(a.gate,a.jo))))),(qE,())))))))) rem
 | 0,k,N4,H4,hk,h5,ho=>by
  have hk:k=a.os.length:=by omega
  subst hk
  refine ⟨N4,H4,h5,ho,fun v4 v5=>.stop 0 fun G=>?_⟩
  have b3:=rI h
  have w9:=h.ar
  have LV:=pX h hi
  unfold g.gV K0
  rw [hv3]
  repeat refine HS ?_
  have e:aU (L.map fun a=>(a.used,(a.gate,a.jo))) (nN s) (0,(0,none))=(L.set s.toNat ⟨0,0,none,[]⟩).map fun a=>(a.used,(a.gate,a.jo)):=by
   rw [km (f:=fun a:NA=>(a.used,(a.gate,a.jo))) rfl];rfl
  rw [e]
 | rem+1,k,N4,H4,hk,h5,ho=>by
  have eh:k<a.os.length:=by omega
  have hx:a.os[k]?=some a.os[k]:=zD eh
  generalize Qz:a.os[k]=x at *
  have Fy:At L s.toNat k x:=⟨a,ha,hx⟩
  have e6:=vN h Fy
  obtain ⟨j,g1,g2⟩:=BN H4 0 ho.1 ((ho.2 x.2.2.ref (some x.1)).2 ⟨_,_,x,Fy,by omega,rfl,rfl⟩)
  rw [Nat.zero_add] at g1
  have hl9:a.os.length≤9000:=by
   obtain ⟨a',y,q1,q2,q3,q4,q5,q6,q7,q8⟩:=h.place hi Fy
   rw [ha] at q1;cases q1
   have:=q6.ol
   have e:a.er.aX.length=a.os.length:=by show (a.os.map _).length=_;rw [zH]
   have:=hi.kk
   omega
  have uO:aD d7 jo=some (a.os.map fun x=>some x.1):=by
   rcases h.jo a (zG ha) with ⟨k1,_⟩ | ⟨r,k1,k2⟩
   ·rw [k1] at xw;cases xw
   ·rw [k1] at xw;cases xw;exact k2
  have aeI:nth none (a.os.map fun x=>some x.1) (nN (k:Int))=some x.1:=bj (by show (a.os.map _)[k]?=_;rw [zL,hx];rfl)
  have b5:=wN h
  have oO:nth [] N4 N.mp=H4:=bj h5
  have jB:EA L s.toNat (k+1) (H4.eraseIdx j):=by
   refine ⟨?_,fun r v=>?_⟩
   ·exact ho.1.sublist ((List.eraseIdx_sublist H4 j).map _)
   ·rw [Ae ho.1 g2,ho.2]
    constructor
    ·rintro ⟨⟨i,p,y,hy,hn,h1,h2⟩,h3⟩
     refine ⟨i,p,y,hy,fun ⟨e1,e2⟩=>?_,h1,h2⟩
     by_cases e3:p=k
     ·rw [e1,e3] at hy
      obtain ⟨a2,w1,w2⟩:=hy
      rw [ha] at w1;cases w1
      rw [hx] at w2;cases w2
      exact h3 h1
     ·exact hn ⟨e1,by omega⟩
    ·rintro ⟨i,p,y,hy,hn,h1,h2⟩
     refine ⟨⟨i,p,y,hy,fun ⟨e1,e2⟩=>hn ⟨e1,by omega⟩,h1,h2⟩,fun e=>hn ?_⟩
     rw [h1] at e
     obtain ⟨a1,y1,q1,q2,q3,q4,q5,q6,q7,q8⟩:=h.place hi hy
     obtain ⟨a2,y2,w1,w2,w3,w4,w5,w6,w7,w8⟩:=h.place hi Fy
     rw [e,w8] at q8
     have hii:i=s.toNat:=by omega
     subst hii
     rw [w1] at q1;cases q1
     exact ⟨rfl,by have:=AI.one w6 q7 w7 e;omega⟩
  have am0:=(zB.1 h5).1
  obtain ⟨qE,tm,r1,r2,r3⟩:=Cm h hi hs ha xw v2 Nj v3 hv3 rem (k+1) (aU N4 N.mp (H4.eraseIdx j)) (H4.eraseIdx j) (by omega) (jZ h5) jB
  refine ⟨qE,tm,r1,r2,fun v4 v5=>.step (r3 v4 v5) fun G=>?_⟩
  rw [←oO] at g1
  unfold g.gV K0
  rw [Nj]
  dsimp only
  repeat refine HS ?_
  rw [e6]
  refine Eq.trans (sh g1) ?_
  have ed:aw [] N4 N.mp (fun r7=>JD r7 j)=aU N4 N.mp (H4.eraseIdx j):=by
   unfold aw;rw [oO];rfl
  have ei:af IntKind.i64 (k:Int) 1=((k+1:Nat):Int):=by rw [aG (by omega)];omega
  rw [ei]
  dsimp only
  rw [ed]
end
open Go.Bm Go.jJ
section
variable {c0:T0} {c1:T1} {d0:T2} {d1:T3} {d2:T4} {d3:T5} {d4:T6} {d5:T7} {d6:T8} {d7:T9} {d8:dT} {md:Nat} {m:M} {N:CR} {L:List NA} {es:List (iV×Option Nat)}
theorem nP {i:Nat} {us ga:Int} {j p:Nat} {y:Nat×Nat×jK} (h:At (L.set i ⟨us,ga,none,[]⟩) j p y):j≠i∧At L j p y:=by
 obtain ⟨c,h1,h2⟩:=h
 rcases getSet h1 with ⟨e1,e2⟩ | ⟨e,g⟩
 ·rw [e2] at h2;cases h2
 ·exact ⟨e,c,g,h2⟩
theorem OC {i:Nat} {us ga:Int} {j p:Nat} {y:Nat×Nat×jK} (hn:j≠i) (h:At L j p y):At (L.set i ⟨us,ga,none,[]⟩) j p y:=by
 obtain ⟨c,h1,h2⟩:=h
 exact ⟨c,by rw [List.getElem?_set,if_neg (fun e=>hn e.symm)];exact h1,h2⟩
theorem MR.clear (h:MR c0 c1 d0 d1 d2 d3 d4 d5 d6 d7 d8 md m N L es) {i:Nat} {a:NA} (ha:L[i]?=some a) {sV:T3} {Qj:List dW} (hsr:mM c1 d0 sV d2 N.sc m.fr m.en Qj m.fl) {qE:T7} {tm:List (iV×Option Nat)} (h5:qE[N.mp]?=some tm) (ho:EA L i a.os.length tm) :
  MR c0 c1 d0 sV d2 (aU d3 N.ja (some ((L.set i ⟨0,0,none,[]⟩).map fun a=>(a.used,(a.gate,a.jo))))) d4 qE d6 d7 d8 md { m with sc:=Qj,ar:=m.ar.set i oP } N (L.set i ⟨0,0,none,[]⟩) tm:=by
 refine ⟨h.box,hsr,h.th,aC h.ar,?_,?_,?_,?_,?_,?_,h5,ho.1,?_⟩
 ·show m.ar.set i _=_
  rw [h.er]
  exact (km (f:=NA.er) (x:=⟨0,0,none,[]⟩) rfl).symm
 ·intro b hb
  rcases rk ha hb with rfl | hb
  ·exact .inl ⟨rfl,rfl⟩
  ·exact h.jo b hb
 ·intro j p y hy
  exact h.ob j p y (nP hy).2
 ·intro j j' p p' y y' hy rn e
  exact h.n6 _ _ _ _ y y' (nP hy).2 (nP rn).2 e
 ·intro j j' p p' y y' hy rn e
  exact h.n8 _ _ _ _ y y' (nP hy).2 (nP rn).2 e
 ·intro j l b c r hb hc h1 h2
  rcases getSet hb with ⟨e1,e2⟩ | ⟨_,g1⟩
  ·rw [e2] at h1;cases h1
  ·rcases getSet hc with ⟨e3,e4⟩ | ⟨_,g2⟩
   ·rw [e4] at h2;cases h2
   ·exact h.n7 j l b c r g1 g2 h1 h2
 ·intro r v
  rw [ho.2]
  constructor
  ·rintro ⟨j,p,y,hy,hn,h1,h2⟩
   refine ⟨j,p,y,OC (fun e=>hn ⟨e,?_⟩) hy,h1,h2⟩
   obtain ⟨b,w1,w2⟩:=hy
   rw [e,ha] at w1;cases w1
   exact (zB.1 w2).1
  ·rintro ⟨j,p,y,hy,h1,h2⟩
   obtain ⟨k1,k2⟩:=nP hy
   exact ⟨j,p,y,k2,fun e=>k1 e.1,h1,h2⟩
theorem MR.YE (h:MR c0 c1 d0 d1 d2 d3 d4 d5 d6 d7 d8 md m N L es) {sV:T3} {Qj:List dW} (hsr:mM c1 d0 sV d2 N.sc m.fr m.en Qj m.fl):MR c0 c1 d0 sV d2 d3 d4 d5 d6 d7 d8 md { m with sc:=Qj } N L es:=
 ⟨h.box,hsr,h.th,h.ar,h.er,h.jo,h.ob,h.n6,h.n8,h.n7,h.mp,h.ek,h.em⟩
theorem zl (h:MR c0 c1 d0 d1 d2 d3 d4 d5 d6 d7 d8 md m N L es) {k:Nat} (hi:MI k m) {n:Int} (hn:0≤n∧n<m.th.length) {s:Int} (h1:1≤s∧s<m.p.1) (h2:(ab m.sc s).1.1=2) (l:List cR) (nn:Int) (said:List Int) :
  bL ((fun (yN:(Unit×(Unit×(Unit×(((Int×(Int×((List Int)×Unit)))×((Int×(Int×((List Int)×Unit)))×Unit))×(T8×(dT×Unit)))))))=>(jn (fun (Sa:(Unit×(Unit×(Unit×(Unit×(T3×(T5×(T7×Unit)))))))→_)=>(opt (nth j_ c0 md).2.2.1 none (fun fL=>(bd (g.dH fL ((l,(((s,true):Int×Bool),((0:Int),()))),()).1.2.1.1 c1 d0 d2 d1) (fun ia=>(br ia.1.1 (opt (nth j_ c0 md).2.2.1 none (fun ma=>(bd (g.fq ma ((l,(((s,true):Int×Bool),((0:Int),()))),()).1.2.1.1 c1 d0 d2 ia.2.1) (fun iy=>(opt (nth j_ c0 md).2.2.2.1 none (fun kC=>(bd (aD d3 kC) (fun mq=>(gd (bl ((l,(((s,true):Int×Bool),((0:Int),()))),()).1.2.1.1) (gd (bn (nN ((l,(((s,true):Int×Bool),((0:Int),()))),()).1.2.1.1) (len mq)) (bd (aD d3 kC) (fun gD=>(opt (nth (0,(0,none)) gD (nN ((l,(((s,true):Int×Bool),((0:Int),()))),()).1.2.1.1)).2.2 (loop (g.kM md c0 d3 ((l,(((s,true):Int×Bool),((0:Int),()))),()) Sa iy) ((0,()),((),((),((),(d5,())))))) (fun iQ=>(bd (aD d7 iQ) (fun nc=>(loop (g.gV md c0 d3 d7 nc iQ yN ((l,(((s,true):Int×Bool),((0:Int),()))),()) Sa iy) ((0,()),((),((),((),(d5,())))))))))))))))))))))) (Sa ((),((),((),((),(ia.2.1,(d3,(d5,())))))))))))))) (fun (IA:(Unit×(Unit×(Unit×(Unit×(T3×(T5×(T7×Unit))))))))=>(bd (aD d4 N.jt) (fun lS=>(some (((yN.2.2.2.1.2.1.1,(yN.2.2.2.1.2.1.2.1,yN.2.2.2.1.2.1.2.2.1)),(0,())),(d0,(IA.2.2.2.2.1,(d2,(IA.2.2.2.2.2.1,((aU d4 N.jt (some (aw ([0,0,0,0],[]) lS (nN n) (fun n9=>(n9.1,((l,(((s,true):Int×Bool),((0:Int),()))),()).1.1))))),(IA.2.2.2.2.2.2.1,(yN.2.2.2.2.1,(d7,(yN.2.2.2.2.2.1,())))))))))))))))) (NW 0 nn said d6 d8)) c0 c1 md (m.leave n s l (0,nn,said)):=by
 have hx:=hi.nX (i:=s) (by omega)
 have hr:=hi.si.cr _ _ hx
 have hc:=fH hr h2
 have sI:=hi.ls
 have yj:=hi.si.len
 have yf:=h.th
 have w9:=h.ar
 have b2:=ua h
 have b3:=rI h
 have LV:=pX h hi
 obtain ⟨sV,k1,k2⟩:=Dj h.sr s (by omega)
 rw [M.mu h1.1 (by rw [hi.ls];exact h1.2) hr h2]
 rw [rW h1.1 (by omega) hr h2] at k1 k2
 obtain ⟨na,xv,B0⟩:=yB h hi (s:=s) (by omega)
 have J5:aw ([0,0,0,0],[]) (m.th.map fun t=>(t.dc,t.aA)) (nN n) (fun n9=>(n9.1,l))=(m.gp n ⟨(m.ax n).dc,l⟩).th.map fun t=>(t.dc,t.aA):=nT hn ⟨(m.ax n).dc,l⟩ _ rfl
 by_cases h3:(ab m.sc s).1.2.1=1
 ·rw [if_pos h3] at k1 k2 ⊢
  have hc3:bf (3,0,(ab m.sc s).1.2.2.1,(ab m.sc s).1.2.2.2)=true:=pk (by omega)
  obtain ⟨N5,q1,q2⟩:=Gm k2 s (by show (m.sc.set _ _).length≤_;rw [zM];omega)
  have eu:cS (m.sc.set s.toNat ((3,0,(ab m.sc s).1.2.2.1,(ab m.sc s).1.2.2.2),(ab m.sc s).2)) s eJ=(m.sc.set s.toNat ((1,0,-1,b6 (ab m.sc s).1.2.2.2),(ab m.sc s).2),0):=by
   unfold cS
   rw [if_pos (bX.2 ⟨h1.1,by rw [zM];omega⟩),jN (by omega) (by omega),oD hc3 rfl,if_pos rfl,List.set_set]
  have TW:g.fq N.sc s c1 d0 d2 sV=some ((0,()),(N5,())):=by
   have e2:=congrArg Prod.snd eu
   rw [q1]
   exact congrArg (fun z=>some ((z,()),(N5,()))) e2
  have q2':mM c1 d0 N5 d2 N.sc m.fr m.en (m.sc.set s.toNat ((1,0,-1,b6 (ab m.sc s).1.2.2.2),(ab m.sc s).2)) m.fl:=by
   have e2:=congrArg Prod.fst eu
   rw [show (cS (m.sc.set s.toNat ((3,0,(ab m.sc s).1.2.2.1,(ab m.sc s).1.2.2.2),(ab m.sc s).2),true,(0:Int)).1 s eJ).1=_ from e2] at q2
   exact q2
  have xw:(nth (0,(0,none)) (L.map fun a=>(a.used,(a.gate,a.jo))) (nN s)).2.2=na.jo:=by rw [pW xv]
  have k1':g.dH N.sc s c1 d0 d2 d1=some ((true,(0,())),(sV,())):=k1
  have tS:∀(qE:T7) (tm:List (iV×Option Nat)),qE[N.mp]?=some tm→EA L s.toNat na.os.length tm →
    bL (some (((0,(nn,said)),(0,())),(d0,(N5,(d2,((aU d3 N.ja (some ((L.set s.toNat ⟨0,0,none,[]⟩).map fun a=>(a.used,(a.gate,a.jo))))),((aU d4 N.jt (some (aw ([0,0,0,0],[]) (m.th.map fun t=>(t.dc,t.aA)) (nN n) (fun n9=>(n9.1,l))))),(qE,(d6,(d7,(d8,()))))))))))) c0 c1 md
     ((M.cK { m with sc:=m.sc.set s.toNat ((1,0,-1,b6 (ab m.sc s).1.2.2.2),(ab m.sc s).2) } s oP).cD n l,(0,nn,said)):=by
   intro qE tm g1 g2
   rw [J5]
   exact ⟨_,_,_,_,_,_,_,_,_,rfl,N,_,tm,(h.clear xv q2' g1 g2).gp n ⟨(m.ax n).dc,l⟩⟩
  rcases h.jo na (zG xv) with ⟨j1,j2⟩ | ⟨j,j1,j2⟩
  ·rw [j1] at xw
   have sG:EA L s.toNat na.os.length es:=⟨h.ek,fun r v=>by
    rw [h.em]
    constructor
    ·rintro ⟨i,p,y,hy,e1,e2⟩
     refine ⟨i,p,y,hy,fun ⟨_,hp⟩=>?_,e1,e2⟩
     rw [j2] at hp;cases hp
    ·rintro ⟨i,p,y,hy,_,e1,e2⟩
     exact ⟨i,p,y,hy,e1,e2⟩⟩
   have hf:=tS d5 es h.mp sG
   repeat refine DS ?_
   rw [x9]
   unfold g.kM
   dsimp only
   repeat refine DS ?_
   have e:aU (L.map fun a=>(a.used,(a.gate,a.jo))) (nN s) (0,(0,none))=(L.set s.toNat ⟨0,0,none,[]⟩).map fun a=>(a.used,(a.gate,a.jo)):=by
    rw [km (f:=fun a:NA=>(a.used,(a.gate,a.jo))) rfl];rfl
   rw [e]
   exact hf
  ·rw [j1] at xw
   have sG:EA L s.toNat 0 es:=⟨h.ek,fun r v=>by
    rw [h.em]
    constructor
    ·rintro ⟨i,p,y,hy,e1,e2⟩
     exact ⟨i,p,y,hy,fun ⟨_,hp⟩=>(by cases hp),e1,e2⟩
    ·rintro ⟨i,p,y,hy,_,e1,e2⟩
     exact ⟨i,p,y,hy,e1,e2⟩⟩
   obtain ⟨qE,tm,r1,r2,r3⟩:=Cm h hi (s:=s) (by omega) xv j1 (NW 0 nn said d6 d8) rfl ((l,(((s,true):Int×Bool),((0:Int),()))),()) rfl na.os.length 0 d5 es (by omega) h.mp sG
   have hf:=tS qE tm r1 r2
   have hl9:na.os.length<lG:=by
    have:=(hi.tq (i:=s) (by omega)).2.ol
    rw [B0] at this
    have e:na.er.aX.length=na.os.length:=by show (na.os.map _).length=_;rw [zH]
    have:=hi.kk
    unfold lG;omega
   repeat refine DS ?_
   refine bL.of ((r3 _ _).loop hl9) ?_
   repeat refine DS ?_
   exact hf
 ·rw [if_neg h3] at k1 k2 ⊢
  have k1':g.dH N.sc s c1 d0 d2 d1=some ((false,(0,())),(sV,())):=k1
  repeat refine DS ?_
  rw [J5]
  exact ⟨_,_,_,_,_,_,_,_,_,rfl,N,L,es,(h.YE k2).gp n ⟨(m.ax n).dc,l⟩⟩
end
open Go.Bm Go.jJ
section
variable {c0:T0} {c1:T1} {d0:T2} {d1:T3} {d2:T4} {d3:T5} {d4:T6} {d5:T7} {d6:T8} {d7:T9} {d8:dT} {md:Nat} {m:M} {N:CR} {L:List NA} {es:List (iV×Option Nat)}
theorem MI.mono {k k':Nat} (h:MI k m) (hk:k≤k') (D0:k'≤9000):MI k' m:=
 ⟨D0,h.pr,h.ff,h.si,by have:=h.fk;omega,h.ls,h.la,h.lt,h.th,fun i x a h1 h2=>by
  have:=h.ai i x a h1 h2
  exact ⟨this.us,this.ga,by have:=this.ol;omega,this.ob,this.od,this.id⟩⟩
theorem RZ (K:Ou→Option Gd):loop (g.kL d0 d1 d2 d3 d4 d5 d7 K) (yp (-1) 0 0 [] d6 d8)=K (NW 0 0 [] d6 d8):=by
 refine (xF.stop 0 fun G=>?_).loop (by unfold lG;omega)
 unfold g.kL yp
 dsimp only
 repeat refine HS ?_
 rfl
theorem TL (h:MR c0 c1 d0 d1 d2 d3 d4 d5 d6 d7 d8 md m N L es) {k:Nat} (hi:MI k m) (yk:CT m) {n:Int} (hn:0≤n∧n<m.th.length) {r gg v a b t:Int} :
  bL (g.iA md n (5,r,gg,v,a,b,t) c0 c1 d0 d1 d2 d3 d4 d5 d6 d7 d8 N.jt) c0 c1 md (m.exit n):=by
 have ht:=hi.ax hn
 have yf:=h.th
 have w9:=h.ar
 have b2:=ua h
 have b3:=rI h
 have yj:=hi.si.len
 have AG:=hi.kk
 have LV:=pX h hi
 have AK:=ht.2.2.len
 unfold g.iA
 refine bL.of (kh (c:=(5,r,gg,v,a,b,t)) rfl) ?_
 dsimp only
 cases hx:(m.ax n).aA.getLast? with
 | none=>
  have he:(m.ax n).aA=[]:=List.getLast?_eq_none_iff.1 hx
  have hP:g.ku (nth ([0,0,0,0],[]) (m.th.map fun t=>(t.dc,t.aA)) (nN n)).2=some (([],((0,false),(23,()))),()):=by
   rw [pb hn,he];exact xC
  unfold M.exit
  rw [hx]
  repeat refine DS ?_
  rw [nT hn ⟨(m.ax n).dc,[]⟩ _ rfl]
  have e2:m.gp n ⟨(m.ax n).dc,[]⟩=m:=by
   rw [←he]
   unfold M.gp
   have:=kb (M.qb hn)
   show { m with th:=m.th.set n.toNat (m.ax n) }=m
   rw [this]
  have h2:=h.gp n ⟨(m.ax n).dc,[]⟩
  rw [e2] at h2 ⊢
  exact bL.code h2.rel 23
 | some x=>
  obtain ⟨s,bb⟩:=x
  have hP:g.ku (nth ([0,0,0,0],[]) (m.th.map fun t=>(t.dc,t.aA)) (nN n)).2=some (((m.ax n).aA.dropLast,((s,bb),(0,()))),()):=by
   rw [pb hn];exact CA (by show (m.ax n).aA.length≤1000;omega) hx
  unfold M.exit
  rw [hx]
  cases bb with
  | false=>
   repeat refine DS ?_
   rw [nT hn ⟨(m.ax n).dc,(m.ax n).aA.dropLast⟩ _ rfl]
   exact ⟨_,_,_,_,_,_,_,_,_,rfl,N,L,es,h.gp n _⟩
  | true=>
   have hm:=pD hx
   have iH:=hi.live yk (M.ko hn) (.inr hm)
   have h1:=(ht.2.2.Dp _ hm).2.2 rfl
   simp only at h1
   have hs:0≤s∧s<m.p.1:=⟨iH.2.2.1,iH.2.2.2⟩
   have hCt:=rV h.sr s (by omega)
   have D1:lb m.sc 0 s=true:=bX.2 ⟨hs.1,by rw [hi.ls];exact hs.2⟩
   have BX:kq m.sc s=((ab m.sc s).1,0):=by unfold kq;rw [if_pos D1]
   dsimp only
   rw [BX] at hCt ⊢
   obtain ⟨na,xv,B0⟩:=yB h hi hs
   have Ks:=(hi.tq hs).2
   dsimp only
   rw [if_neg (by simp)]
   repeat refine DS ?_
   by_cases h3:(ab m.sc s).1.2.1=1
   ·rw [if_pos h3]
    refine bL.of (ak h3) ?_
    have xw:(nth (0,(0,none)) (L.map fun a=>(a.used,(a.gate,a.jo))) (nN s)).2.2=na.jo:=by rw [pW xv]
    have hi9:=MI.mono hi AG (Nat.le_refl _)
    have hmX:=hi9.qW hs ((hi9.tq hs).2.fin m.f)
    rcases h.jo na (zG xv) with ⟨j1,j2⟩ | ⟨j,j1,j2⟩
    ·rw [j1] at xw
     have ho:(m.bm s).aX=[]:=by rw [B0];show na.os.map _=[];rw [j2];rfl
     have BW:m.cK s { m.bm s with aX:=[] }=m:=by
      have e:({ m.bm s with aX:=[] }:mG)=m.bm s:=by
       rw [←ho]
      rw [e]
      unfold M.cK
      rw [kb (hi.tq hs).1]
     rw [ho]
     show bL _ c0 c1 md ((m.cK s { m.bm s with aX:=[] }).leave n s (m.ax n).aA.dropLast (0,0,[]))
     rw [BW]
     repeat refine DS ?_
     refine bL.of (RZ _) ?_
     exact zl h hi hn ⟨h1,hs.2⟩ iH.2.1 _ 0 []
    ·rw [j1] at xw
     have hMW:M.lJ m s ((m.bm s).aX.take (m.bm s).aX.length++(bM m.f ((m.bm s).aX.drop (m.bm s).aX.length)).1)=m:=by
      rw [List.take_length,List.drop_length]
      show m.cK s { m.bm s with aX:=(m.bm s).aX++[] }=m
      rw [List.append_nil]
      unfold M.cK
      rw [kb (hi.tq hs).1]
     obtain ⟨qD,tZ,L',a',r1,r2,r3,r4⟩:=wq (c0:=c0) (c1:=c1) (d0:=d0) (d1:=d1) (d2:=d2) (d3:=d3) (d4:=d4) (d5:=d5) (d7:=d7) (md:=md) (N:=N) (es:=es) hi9 hs (m.bm s).aX rfl (m.bm s).aX.length d6 d8 L na (Nat.le_refl _) (by rw [hMW];exact h) xv j1
     rw [List.drop_length] at r4
     have hlen:(m.bm s).aX.length<lG:=by have:=Ks.ol;unfold lG;omega
     have wh:(na.os.map fun x=>some x.1).length=(m.bm s).aX.length:=by
      rw [B0];show _=(na.os.map _).length;rw [zH,zH]
     have e0:aK IntKind.i64 (zN (len (na.os.map fun x=>some x.1))) 1=(((m.bm s).aX.length:Nat):Int)-1:=by
      have:=Ks.ol
      rw [cF,bB,wh,aN (by omega)]
     repeat refine DS ?_
     rw [e0]
     refine bL.of ((r4 _).loop hlen) ?_
     cases hh:(bM m.f (m.bm s).aX).2.2.2 with
     | true=>
      rw [if_pos rfl,if_pos rfl]
      exact ⟨_,_,_,_,_,_,_,_,_,rfl,N,L',es,r1⟩
     | false=>
      rw [if_neg (by simp),if_neg (by simp)]
      exact zl r1 hmX hn ⟨h1,hs.2⟩ iH.2.1 _ _ _
   ·rw [if_neg h3]
    refine bL.of (ao h3) ?_
    exact zl h hi hn ⟨h1,hs.2⟩ iH.2.1 _ 0 []
structure wX (c:oZ):Prop where
 r:0≤c.2.1
 h:0≤c.2.2.1
 v:0≤c.2.2.2.1
theorem nk {c:oZ} (hr:cC c=false) {K:((Bool×Unit)×Unit)→Option Gd}:bd (g.bT (c.1,(c.2.1,(c.2.2.1,(c.2.2.2.1,(c.2.2.2.2.1,(c.2.2.2.2.2.1,c.2.2.2.2.2.2))))))) K=K ((false,()),()):=by rw [IM,hr]
theorem TQ (h:MR c0 c1 d0 d1 d2 d3 d4 d5 d6 d7 d8 md m N L es) {n:Int} {c:oZ} (hr:cC c=false):bL (g.fG md n c c0 c1 d0 d1 d2 d3 d4 d5 d6 d7 d8 N.jt) c0 c1 md (m.code 1):=by
 unfold g.fG
 refine bL.of (nk hr) ?_
 repeat refine DS ?_
 exact bL.code h.rel 1
theorem TJ (h:MR c0 c1 d0 d1 d2 d3 d4 d5 d6 d7 d8 md m N L es) {n:Int} {c:oZ} (hr:cC c=false):bL (g.fF md n c c0 c1 d0 d1 d2 d3 d4 d5 d6 d7 d8 N.jt) c0 c1 md (m.code 1):=by
 unfold g.fF
 refine bL.of (nk hr) ?_
 repeat refine DS ?_
 exact bL.code h.rel 1
theorem TG (h:MR c0 c1 d0 d1 d2 d3 d4 d5 d6 d7 d8 md m N L es) {n:Int} {c:oZ} (hr:cC c=false):bL (g.fE md n c c0 c1 d0 d1 d2 d3 d4 d5 d6 d7 d8 N.jt) c0 c1 md (m.code 1):=by
 unfold g.fE
 refine bL.of (nk hr) ?_
 repeat refine DS ?_
 exact bL.code h.rel 1
theorem TE (h:MR c0 c1 d0 d1 d2 d3 d4 d5 d6 d7 d8 md m N L es) {n:Int} {c:oZ} (hr:cC c=false):bL (g.fy md n c c0 c1 d0 d1 d2 d3 d4 d5 d6 d7 d8 N.jt) c0 c1 md (m.code 1):=by
 unfold g.fy
 refine bL.of (nk hr) ?_
 repeat refine DS ?_
 exact bL.code h.rel 1
theorem Oz (h:MR c0 c1 d0 d1 d2 d3 d4 d5 d6 d7 d8 md m N L es) {n:Int} {c:oZ} (hr:cC c=false):bL (g.e_ md n c c0 c1 d0 d1 d2 d3 d4 d5 d6 d7 d8 N.jt) c0 c1 md (m.code 1):=by
 unfold g.e_
 refine bL.of (nk hr) ?_
 repeat refine DS ?_
 exact bL.code h.rel 1
theorem Ox (h:MR c0 c1 d0 d1 d2 d3 d4 d5 d6 d7 d8 md m N L es) {n:Int} {c:oZ} (hr:cC c=false):bL (g.e9 md n c c0 c1 d0 d1 d2 d3 d4 d5 d6 d7 d8 N.jt) c0 c1 md (m.code 1):=by
 unfold g.e9
 refine bL.of (nk hr) ?_
 repeat refine DS ?_
 exact bL.code h.rel 1
theorem Tv (h:MR c0 c1 d0 d1 d2 d3 d4 d5 d6 d7 d8 md m N L es) {k:Nat} (hi:MI k m) (yk:CT m) {n:Int} (hn:0≤n∧n<m.th.length) {c:oZ} (hc:wX c) :
  bL (br (aj c.1 0) (g.iE md n c c0 c1 d0 d1 d2 d3 d4 d5 d6 d7 d8) (br (aj c.1 1) (g.fG md n c c0 c1 d0 d1 d2 d3 d4 d5 d6 d7 d8 N.jt) (br (aj c.1 2) (g.iD md n c c0 c1 d0 d1 d2 d3 d4 d5 d6 d7 d8) (br (aj c.1 3) (g.iC md n c c0 c1 d0 d1 d2 d3 d4 d5 d6 d7 d8) (br (aj c.1 4) (g.iB md n c c0 c1 d0 d1 d2 d3 d4 d5 d6 d7 d8 N.jt) (br (aj c.1 5) (g.iA md n c c0 c1 d0 d1 d2 d3 d4 d5 d6 d7 d8 N.jt) (br (aj c.1 6) (g.iz md n c c0 c1 d0 d1 d2 d3 d4 d5 d6 d7 d8 N.jt) (br (aj c.1 7) (g.fF md n c c0 c1 d0 d1 d2 d3 d4 d5 d6 d7 d8 N.jt) (br (aj c.1 8) (g.fE md n c c0 c1 d0 d1 d2 d3 d4 d5 d6 d7 d8 N.jt) (br (aj c.1 9) (g.fy md n c c0 c1 d0 d1 d2 d3 d4 d5 d6 d7 d8 N.jt) (br (aj c.1 10) (g.e_ md n c c0 c1 d0 d1 d2 d3 d4 d5 d6 d7 d8 N.jt) (br (aj c.1 11) (g.e9 md n c c0 c1 d0 d1 d2 d3 d4 d5 d6 d7 d8 N.jt) (bd (g.aQ 1) (fun DD=>(some (((DD.1.1.1,(DD.1.1.2.1,DD.1.1.2.2)),(0,())),(d0,(d1,(d2,(d3,(d4,(d5,(d6,(d7,(d8,())))))))))))))))))))))))))
   c0 c1 md (if cC c=false then m.code 1 else m.act n c):=by
 obtain ⟨op,r,gg,v,a,b,t⟩:=c
 obtain ⟨AF,LX,zt⟩:=hc
 dsimp only at AF LX zt
 unfold M.act
 dsimp only
 by_cases h0:op=0
 ·subst h0
  refine bL.of (ak rfl) ?_
  rw [show cC (0,r,gg,v,a,b,t)=true from rfl,if_neg (by simp),if_pos rfl]
  exact TR h.rel n rfl
 refine bL.of (ao h0) ?_
 rw [if_neg h0]
 by_cases h1:op=1
 ·subst h1
  refine bL.of (ak rfl) ?_
  rw [if_pos rfl]
  cases hf:cC (1,r,gg,v,a,b,t) with
  | false=>rw [if_pos rfl];exact TQ h hf
  | true=>rw [if_neg (by simp)];exact TP h hi hn hf AF
 refine bL.of (ao h1) ?_
 rw [if_neg h1]
 by_cases h2:op=2
 ·subst h2
  refine bL.of (ak rfl) ?_
  rw [show cC (2,r,gg,v,a,b,t)=true from rfl,if_neg (by simp),if_pos rfl]
  exact TO h hi n
 refine bL.of (ao h2) ?_
 rw [if_neg h2]
 by_cases h3:op=3
 ·subst h3
  refine bL.of (ak rfl) ?_
  rw [show cC (3,r,gg,v,a,b,t)=true from rfl,if_neg (by simp),if_pos rfl]
  exact TN h hi n
 refine bL.of (ao h3) ?_
 rw [if_neg h3]
 by_cases h4:op=4
 ·subst h4
  refine bL.of (ak rfl) ?_
  rw [show cC (4,r,gg,v,a,b,t)=true from rfl,if_neg (by simp),if_pos rfl]
  exact TM h hi hn
 refine bL.of (ao h4) ?_
 rw [if_neg h4]
 by_cases h5:op=5
 ·subst h5
  refine bL.of (ak rfl) ?_
  rw [show cC (5,r,gg,v,a,b,t)=true from rfl,if_neg (by simp),if_pos rfl]
  exact TL h hi yk hn
 refine bL.of (ao h5) ?_
 rw [if_neg h5]
 by_cases h6:op=6
 ·subst h6
  refine bL.of (ak rfl) ?_
  rw [show cC (6,r,gg,v,a,b,t)=true from rfl,if_neg (by simp),if_pos rfl]
  exact TK h hi hn
 refine bL.of (ao h6) ?_
 rw [if_neg h6]
 by_cases h7:op=7
 ·subst h7
  refine bL.of (ak rfl) ?_
  rw [if_pos rfl]
  cases hf:cC (7,r,gg,v,a,b,t) with
  | false=>rw [if_pos rfl];exact TJ h hf
  | true=>rw [if_neg (by simp)];exact TH h hi yk hn hf AF
 refine bL.of (ao h7) ?_
 rw [if_neg h7]
 by_cases h8:op=8
 ·subst h8
  refine bL.of (ak rfl) ?_
  rw [if_pos rfl]
  cases hf:cC (8,r,gg,v,a,b,t) with
  | false=>rw [if_pos rfl];exact TG h hf
  | true=>rw [if_neg (by simp)];exact TF h hi hn hf AF LX
 refine bL.of (ao h8) ?_
 rw [if_neg h8]
 by_cases h9:op=9
 ·subst h9
  refine bL.of (ak rfl) ?_
  rw [if_pos rfl]
  cases hf:cC (9,r,gg,v,a,b,t) with
  | false=>rw [if_pos rfl];exact TE h hf
  | true=>rw [if_neg (by simp)];exact TD h hi hn hf zt LX
 refine bL.of (ao h9) ?_
 rw [if_neg h9]
 by_cases C5:op=10
 ·subst C5
  refine bL.of (ak rfl) ?_
  rw [if_pos rfl]
  cases hf:cC (10,r,gg,v,a,b,t) with
  | false=>rw [if_pos rfl];exact Oz h hf
  | true=>rw [if_neg (by simp)];exact Oy h hi hn hf AF
 refine bL.of (ao C5) ?_
 rw [if_neg C5]
 by_cases FD:op=11
 ·subst FD
  refine bL.of (ak rfl) ?_
  rw [if_pos rfl]
  cases hf:cC (11,r,gg,v,a,b,t) with
  | false=>rw [if_pos rfl];exact Ox h hf
  | true=>rw [if_neg (by simp)];exact Ow h hi hn hf zt
 refine bL.of (ao FD) ?_
 rw [if_neg FD]
 have:(if cC (op,r,gg,v,a,b,t)=false then m.code 1 else m.code 1)=m.code 1:=by split<;>rfl
 rw [this]
 exact bL.code h.rel 1
theorem aiD (h:ug c0 c1 d0 d1 d2 d3 d4 d5 d6 d7 d8 md m) {k:Nat} (hi:MI k m) (yk:CT m) (n:Int) {c:oZ} (hc:wX c) :
  ∃AR sV AQ Ah Ag qE qD uP tZ,g.di md n c c0 c1 d0 d1 d2 d3 d4 d5 d6 d7 d8=some ((((m.step n c).2.1.1,((m.step n c).2.1.2.1,(m.step n c).2.1.2.2)),((m.step n c).2.2,())),(AR,(sV,(AQ,(Ah,(Ag,(qE,(qD,(uP,(tZ,()))))))))))
   ∧ ug c0 c1 AR sV AQ Ah Ag qE qD uP tZ md (m.step n c).1:=by
 obtain ⟨N,L,es,h⟩:=h
 have yf:=h.th
 have b4:=Tk h
 have eh:=hi.lt
 have hp:=hi.u9
 have wZ:aK IntKind.i64 (zN (len (m.th.map fun t=>(t.dc,t.aA)))) 1=(m.th.length:Int)-1:=by
  rw [cF,bB,zH,aN (by omega)]
 unfold g.di M.step
 cases hw:within n 0 ((m.th.length:Int)-1) with
 | false=>
  rw [if_pos rfl]
  refine ⟨d0,d1,d2,d3,d4,d5,d6,d7,d8,?_,h.rel⟩
  rw [←wZ] at hw
  repeat refine HS ?_
  rfl
 | true=>
  rw [if_neg (by simp)]
  have hn:=bF.1 hw
  have hn:0≤n∧n<m.th.length:=⟨hn.1,by omega⟩
  rw [←wZ] at hw
  obtain ⟨AR,sV,AQ,Ah,Ag,qE,qD,uP,tZ,k1,k2⟩:=Tv h hi yk hn hc
  have e:(if cC c=false then (m,((1,0,[]):L9),(0:Int)) else ((m.act n c).1,(m.act n c).2,0))=((if cC c=false then m.code 1 else m.act n c).1,(if cC c=false then m.code 1 else m.act n c).2,0):=by
   split<;>rfl
  rw [e]
  refine ⟨AR,sV,AQ,Ah,Ag,qE,qD,uP,tZ,?_,k2⟩
  refine Eq.trans (sh b4) ?_
  refine nK yf ?_
  refine nK (bD _ _ _) ?_
  refine Eq.trans bJ ?_
  refine Eq.trans (oG hw) ?_
  refine Eq.trans (sh b4) ?_
  refine nK yf ?_
  refine Eq.trans bZ ?_
  refine Eq.trans (a4 hn.1) ?_
  refine Eq.trans bY ?_
  refine Eq.trans (aZ (by rw [cM,bB,zH];omega)) ?_
  exact k1
end
open Go.Bm Go.jJ
def qg (o:h_):Prop:=(o.1=0∧0≤o.2.1∧o.2.1≤99∧o.2.2=0)∨(o.1=1∧0≤o.2.1∧o.2.1≤5∧o.2.2=0)∨(o.1=2∧0≤o.2.1∧o.2.1≤5∧0≤o.2.2∧o.2.2≤5)∨(o.1=3∧0≤o.2.1∧o.2.1≤5∧0≤o.2.2∧o.2.2≤8)∨(o.1=4∧o.2.1=0∧o.2.2=0)
def lv (f:List (List h_)):Prop:=f.length≤8∧∀l∈f,l.length≤8∧∀o∈l,qg o
theorem lv.ok {f:List (List h_)} (h:lv f):m9 f:=⟨h.1,fun l hl=>⟨(h.2 l hl).1,fun o ho=>by
 have:=(h.2 l hl).2 o ho
 unfold qg at this;unfold BF;omega⟩⟩
theorem Cd {f:List (List h_)} {i:Nat} {l:List h_} (hl:nth [] f i=l) (h8:l.length≤8) (ho:∀o∈l,qg o) (v1) :
  loop (g.l6 f (((i:Int),()),((),((),((),())))) v1) ((0,()),((),((),((),()))))=v1 (((af IntKind.i64 (i:Int) 1),()),((),((),((),())))):=by
 refine (dJ (fun k=>((((k:Nat):Int),()),((),((),((),()))))) (fun _=>v1 (((af IntKind.i64 (i:Int) 1),()),((),((),((),()))))) l.length (by unfold lG;omega) (fun K=>?_) (fun k hk=>.inr ⟨rfl,fun K=>?_⟩))
 ·unfold g.l6
  dsimp only
  rw [show nth [] f (nN (i:Int))=l from hl]
  repeat refine HS ?_
  rfl
 ·have hp:=ho l[k] (List.getElem_mem hk)
  have e:∀d,nth d l (nN (k:Int))=l[k]:=fun d=>gE hk
  unfold g.l6
  dsimp only
  rw [show nth [] f (nN (i:Int))=l from hl]
  rw [e]
  generalize l[k]=o at *
  have ei:af IntKind.i64 (k:Int) 1=((k+1:Nat):Int):=by rw [aG (by omega)];omega
  have ew:kU IntKind.i64 o.1=o.1:=bP (by unfold qg at hp;omega)
  rw [ei,ew]
  obtain ⟨op,a,b⟩:=o
  unfold qg at hp
  dsimp only at hp ⊢
  have wT:∀x lo hi:Int,lo≤x→x≤hi→within x lo hi=true:=fun x lo hi h1 h2=>bF.2 ⟨h1,h2⟩
  rcases hp with ⟨rfl,h1,h2,rfl⟩ | ⟨rfl,h1,h2,rfl⟩ | ⟨rfl,h1,h2,h3,h4⟩ | ⟨rfl,h1,h2,h3,h4⟩ | ⟨rfl,rfl,rfl⟩
  ·have w1:=wT a 0 99 (by omega) (by omega)
   have w2:=wT 0 0 0 (by omega) (by omega)
   repeat refine HS ?_
   rfl
  ·have w1:=wT a 0 5 (by omega) (by omega)
   have w2:=wT 0 0 0 (by omega) (by omega)
   repeat refine HS ?_
   rfl
  ·have w1:=wT a 0 5 (by omega) (by omega)
   have w2:=wT b 0 5 (by omega) (by omega)
   repeat refine HS ?_
   rfl
  ·have w1:=wT a 0 5 (by omega) (by omega)
   have w2:=wT b 0 8 (by omega) (by omega)
   repeat refine HS ?_
   rfl
  ·have w2:=wT 0 0 0 (by omega) (by omega)
   repeat refine HS ?_
   rfl
theorem Ca {f:List (List h_)} (h:lv f):g.qn f=some ((true,()),()):=by
 have h8:=h.1
 unfold g.qn
 refine (dJ (fun k=>((((k:Nat):Int),()),((),((),((),()))))) (fun _=>some ((true,()),())) f.length (by unfold lG;omega) (fun K=>?_) (fun k hk=>.inr ⟨rfl,fun K=>?_⟩))
 ·unfold g.oz
  dsimp only
  repeat refine HS ?_
  have:cZ (zN (len f)) 8=true:=decide_eq_true (by rw [cF,bB];omega)
  rw [this]
 ·have hl:=h.2 f[k] (List.getElem_mem hk)
  unfold g.oz
  dsimp only
  repeat refine HS ?_
  refine Eq.trans (Cd (gE hk) hl.1 hl.2 K) ?_
  have ei:af IntKind.i64 (k:Int) 1=((k+1:Nat):Int):=by rw [aG (by omega)];omega
  rw [ei]
theorem z8 {r2:T2} {r4:T4} {a n:Int} (ha:0≤a∧a≤65536∧a%8=0) (hn:0≤n∧n≤65536∧n%8=0) :
  ∃mK mJ,g.lq a n r2 r4=some (((some r2.length),(0,())),(mK,(mJ,())))∧oJ mK mJ r2.length a (a+n) (if 0<n then [(a,n)] else []):=by
 have w1:within a 0 65536=true:=bF.2 ⟨ha.1,ha.2.1⟩
 have w2:within n 0 65536=true:=bF.2 ⟨hn.1,hn.2.1⟩
 have hb:=(E4 (a:=a) (b:=n) (by omega) (by omega)).2 ⟨ha.2.2,hn.2.2⟩
 have es:af IntKind.i64 a n=a+n:=aG (by omega)
 by_cases h0:0<n
 ·rw [if_pos h0]
  refine ⟨?r2,?r4,?eq,?rel⟩
  case eq=>
   unfold g.lq
   repeat refine HS ?_
   rfl
  case rel=>
   rw [es]
   refine ⟨some r4.length,?_,.inr ⟨_,rfl,dw⟩⟩
   unfold aw
   rw [jV]
   exact jZ (by show (r2++[_])[r2.length]?=_;simp;rfl)
 ·rw [if_neg h0]
  refine ⟨?s2,?s4,?eq2,?rel2⟩
  case eq2=>
   unfold g.lq
   repeat refine HS ?_
   rfl
  case rel2=>
   rw [es]
   exact ⟨none,by show (r2++[_])[r2.length]?=_;simp,.inl ⟨rfl,rfl⟩⟩
abbrev lP:dW:=((0,0,-1,0),(0,0))
abbrev rU:dW:=((0,0,0,0),(0,0))
theorem IL {n k:Nat} (hk:k<n):(List.replicate k lP++List.replicate (n-k) rU).set k lP=List.replicate (k+1) lP++List.replicate (n-(k+1)) rU:=by
 rw [List.set_append_right _ _ (by simp),List.length_replicate,Nat.sub_self]
 obtain ⟨m,hm⟩:∃m,n-k=m+1:=⟨n-k-1,by omega⟩
 rw [hm,List.replicate_succ,List.set_cons_zero,List.replicate_succ',show n-(k+1)=m by omega]
 simp
theorem uV {α:Type} {l:List α} {x y:α}:aU (cat l [x]) (len l) y=cat l [y]:=by
 show (l++[x]).set l.length y=l++[y]
 rw [List.set_append_right _ _ (Nat.le_refl _),Nat.sub_self];rfl
theorem yK {p:rM} (hp:dL p=true) (r1:T1) (r2:T2) (r3:T3) (r4:T4) :
  ∃r1' mK Bt mJ,g.nW p r1 r2 r3 r4=some (((some r1.length),(0,())),(r1',(mK,(Bt,(mJ,()))))) ∧
   mM r1' mK Bt mJ r1.length (p.1*64+p.2.2.1) (p.1*64+p.2.2.1+p.2.2.2) (((2,1,-1,0),(p.1*64,p.2.2.1))::List.replicate (p.1-1).toNat lP) (if 0<p.2.2.2 then [(p.1*64+p.2.2.1,p.2.2.2)] else []):=by
 have h:=da.1 hp
 obtain ⟨mK,mJ,g1,g2⟩:=z8 (r2:=r2) (r4:=r4) (a:=p.1*64+p.2.2.1) (n:=p.2.2.2) (by omega) (by omega)
 obtain ⟨n,hn⟩:∃n:Nat,p.1=((n+1:Nat):Int):=⟨(p.1-1).toNat,by omega⟩
 have Nu:(p.1-1).toNat=n:=by omega
 have Kc:nN p.1=n+1:=by rw [cM];omega
 have hI:=oL hp
 have hH:=Bw hp
 have hR:=oa p
 rw [hp] at hR
 have eI:p=(p.1,(p.2.1,(p.2.2.1,p.2.2.2))):=rfl
 have BX:(nth (none,none) (cat r1 [((some (len r3)),(none:Option Nat))]) (len r1)).1=some (len r3):=by rw [jV]
 have uO:∀X:List dW,aD (cat r3 [some X]) (len r3)=some X:=fun X=>dw
 refine ⟨aw (none,none) (cat r1 [((some (len r3)),none)]) (len r1) (fun oU=>(oU.1,(some r2.length))),mK,cat r3 [some (((2,1,-1,0),(p.1*64,p.2.2.1))::List.replicate n lP)],mJ,?_,?_⟩
 ·unfold g.nW
  refine nK hR ?_
  repeat refine HS ?_
  rw [Kc]
  have hgd:((n+1:Nat):Int)≤((16777216:Nat):Int):=by omega
  have qN:rep (α:=dW) (n+1) ((0,(0,(0,0))),(0,0))=List.replicate 0 lP++List.replicate (n+1-0) rU:=rfl
  repeat refine HS ?_
  have tS:∀(v0:List dW),v0.length=n+1→loop (g.lB p r1 r2 r3 r4 v0) ((0,()),((),((),((),((cat r3 [(some (List.replicate 0 lP++List.replicate (n+1-0) rU))]),())))))=some (((some r1.length),(0,())),(aw (none,none) (cat r1 [((some (len r3)),none)]) (len r1) (fun oU=>(oU.1,(some r2.length))),(mK,(cat r3 [some (((2,1,-1,0),(p.1*64,p.2.2.1))::List.replicate n lP)],(mJ,()))))):=by
   intro v0 zt
   refine (dJ (fun k=>((((k:Nat):Int),()),((),((),((),((cat r3 [(some (List.replicate k lP++List.replicate (n+1-k) rU))]),())))))) (fun _=>_) (n+1) (by unfold lG;omega) (fun K=>?_) (fun k hk=>.inr ⟨rfl,fun K=>?_⟩))
   ·have QE:=uO (List.replicate (n+1) lP++List.replicate (n+1-(n+1)) rU)
    have eX:List.replicate (n+1) lP++List.replicate (n+1-(n+1)) rU=lP::List.replicate n lP:=by
     rw [Nat.sub_self];simp [List.replicate_succ]
    rw [eX] at QE ⊢
    have Un:(lP::List.replicate n lP).length=n+1:=by simp
    have akB:=uO (aw ((0,(0,(0,0))),(0,0)) (lP::List.replicate n lP) 0 (fun mI=>((2,(1,((-1),0))),mI.2)))
    have wh:(aw ((0,(0,(0,0))),(0,0)) (lP::List.replicate n lP) 0 (fun mI=>((2,(1,((-1),0))),mI.2))).length=n+1:=by
     show (List.set _ _ _).length=_;rw [zM];exact Un
    unfold g.lB
    dsimp only
    refine Eq.trans (a7 (by rw [cF,bB,zt];omega)) ?_
    repeat refine HS ?_
    rw [yF,uV]
    rfl
   ·have QE:=uO (List.replicate k lP++List.replicate (n+1-k) rU)
    have Un:(List.replicate k lP++List.replicate (n+1-k) rU).length=n+1:=by simp;omega
    have ei:af IntKind.i64 (k:Int) 1=((k+1:Nat):Int):=by rw [aG (by omega)];omega
    have eN:nth ((0,(0,(0,0))),(0,0)) (List.replicate k lP++List.replicate (n+1-k) rU) (nN (k:Int))=rU:=by
     refine bj ?_
     show (List.replicate k lP++List.replicate (n+1-k) rU)[k]?=_
     rw [zJ (by simp),List.length_replicate,Nat.sub_self,List.getElem?_replicate,if_pos (by omega)]
    have eU:aw ((0,(0,(0,0))),(0,0)) (List.replicate k lP++List.replicate (n+1-k) rU) (nN (k:Int)) (fun r3=>((r3.1.1,(r3.1.2.1,((-1),r3.1.2.2.2))),r3.2))=List.replicate (k+1) lP++List.replicate (n+1-(k+1)) rU:=by
     unfold aw
     rw [eN]
     exact IL hk
    unfold g.lB
    dsimp only
    refine Eq.trans (aZ (by rw [cF,bB,zt];omega)) ?_
    repeat refine HS ?_
    rw [ei,eU,uV]
  rw [qN]
  refine nK (uO _) ?_
  exact tS _ (by simp)
 ·rw [Nu]
  refine ⟨len r3,r2.length,?_,uO _,g2⟩
  unfold aw
  rw [jV]
  exact jZ (by show (r1++[_])[r1.length]?=_;simp;rfl)
theorem vn {l:List h_} (hl:l.length≤1000):g.kE l=some ((l,()),()):=by
 unfold g.kE
 repeat refine HS ?_
 rfl
theorem Ip {α:Type} {f:List α} {z:α} {k:Nat} (hk:k<f.length):(f.take k++List.replicate (f.length-k) z).set k f[k]=f.take (k+1)++List.replicate (f.length-(k+1)) z:=by
 have hl:(f.take k).length=k:=by rw [List.length_take];omega
 rw [List.set_append_right _ _ (by omega),hl,Nat.sub_self]
 obtain ⟨m,hm⟩:∃m,f.length-k=m+1:=⟨f.length-k-1,by omega⟩
 rw [hm,List.replicate_succ,List.set_cons_zero,List.take_add_one,zD hk,show f.length-(k+1)=m by omega]
 rw [List.append_assoc];rfl
theorem BK {p:rM} (hp:dL p=true) {f:List (List h_)} (hf:lv f) (c0:T8) (c1:T9) (c2:dT) (d0:T0) (d1:T1) (d2:T2) (d3:T3) (d4:T4) (d5:T5) (d6:T6) (d7:T7) :
  ∃AR sV AQ Ah Ag qE qD uP,g.mf p f c0 c1 c2 d0 d1 d2 d3 d4 d5 d6 d7=some (((some d0.length),(0,())),(AR,(sV,(AQ,(Ah,(Ag,(qE,(qD,(uP,())))))))))
   ∧ ug AR sV AQ Ah Ag qE qD uP c0 c1 c2 d0.length (M.new p f):=by
 have h:=da.1 hp
 have h8:=hf.1
 have hR:=oa p
 rw [hp] at hR
 have hF:=Ca hf
 obtain ⟨r1,r2,r3,r4,k1,k2⟩:=yK hp d1 d2 d3 d4
 refine ⟨cat d0 [(p,(f,((some d1.length),((some (len d5)),((some (len d6)),(some (len d7)))))))],r1,r2,r3,r4,cat d5 [(some (rep (α:=(Int×(Int×(Option Nat)))) (nN p.1) (0,(0,none))))],cat d6 [(some (rep (α:=((List Int)×(List (Int×Bool)))) (nN p.2.1) ([0,0,0,0],[])))],cat d7 [[]],?_,?_⟩
 ·unfold g.mf
  repeat refine HS ?_
  have qN:rep (α:=List h_) (nN (zN (len f))) []=f.take 0++List.replicate (f.length-0) []:=rfl
  rw [qN]
  refine (dJ (fun k=>((((k:Nat):Int),()),(((f.take k++List.replicate (f.length-k) []),()),((),((),()))))) (fun _=>_) f.length (by unfold lG;omega) (fun K=>?_) (fun k hk=>.inr ⟨rfl,fun K=>?_⟩))
  ·unfold g.og
   dsimp only
   rw [List.take_length,Nat.sub_self]
   repeat refine HS ?_
   simp only [List.replicate_zero,List.append_nil]
   rfl
  ·have hl:=hf.2 f[k] (List.getElem_mem hk)
   have e:nth [] f (nN (k:Int))=f[k]:=gE hk
   have hc:=vn (l:=f[k]) (by omega)
   have hlen:(f.take k++List.replicate (f.length-k) ([]:List h_)).length=f.length:=by simp;omega
   have ei:af IntKind.i64 (k:Int) 1=((k+1:Nat):Int):=by rw [aG (by omega)];omega
   unfold g.og
   dsimp only
   rw [e]
   repeat refine HS ?_
   rw [ei]
   have eu:aU (f.take k++List.replicate (f.length-k) ([]:List h_)) (nN (k:Int)) f[k]=f.take (k+1)++List.replicate (f.length-(k+1)) []:=Ip hk
   rw [eu]
 ·have hn:nN p.1=p.1.toNat:=rfl
  have hAt:∀i q x,¬At (List.replicate p.1.toNat (⟨0,0,none,[]⟩:NA)) i q x:=by
   rintro i q x ⟨a,h1,h2⟩
   have:=List.eq_of_mem_replicate (zG h1)
   subst this;cases h2
  refine ⟨⟨d1.length,len d5,len d6,len d7⟩,List.replicate p.1.toNat ⟨0,0,none,[]⟩,[],?_,k2,?_,?_,?_,?_,?_,?_,?_,?_,?_,List.nodup_nil,?_⟩
  ·show (d0++[_])[d0.length]?=_
   rw [zJ (Nat.le_refl _),Nat.sub_self];rfl
  ·refine Eq.trans dw ?_
   show _=some ((List.replicate p.2.1.toNat _).map _)
   rw [List.map_replicate];rfl
  ·refine Eq.trans dw ?_
   rw [List.map_replicate];rfl
  ·show List.replicate p.1.toNat oP=_
   rw [List.map_replicate];rfl
  ·intro a ha
   have:=List.eq_of_mem_replicate ha
   subst this;exact .inl ⟨rfl,rfl⟩
  ·intro i q x hx;exact absurd hx (hAt i q x)
  ·intro i j q q' x y hx;exact absurd hx (hAt i q x)
  ·intro i j q q' x y hx;exact absurd hx (hAt i q x)
  ·intro i j a b r ha hb h1
   have:=List.eq_of_mem_replicate (zG ha)
   subst this;cases h1
  ·show (d7++[_])[d7.length]?=_
   simp
  ·intro r v
   constructor
   ·intro hv;cases hv
   ·rintro ⟨i,q,x,hx,_⟩;exact absurd hx (hAt i q x)
open Go.Bm Go.jJ
def qR {β:Type} (x:Option ((Bool×Unit)×β)):Prop:=∃d,x=some ((true,()),d)
theorem qR.of {β:Type} {x y:Option ((Bool×Unit)×β)} (e:x=y) (h:qR y):qR x:=by rw [e];exact h
theorem YS {β:Type} {x y:Option ((Bool×Unit)×β)} (k:qR y) (h:x=y:=by (first | with_reducible exact (cP _ _) | with_reducible exact a9 | with_reducible exact bc | with_reducible exact bh | with_reducible exact (sh (by assumption)) | with_reducible exact (uj (by assumption)) | with_reducible exact (oG (by assumption)) | with_reducible exact (uR (by assumption)) | with_reducible exact a8 | with_reducible exact aO | with_reducible exact bZ | with_reducible exact bY | with_reducible exact b7 | with_reducible exact b8 | with_reducible exact b_ | with_reducible exact b9 | with_reducible exact bJ | with_reducible exact Ao | (with_reducible apply CI;with_reducible (first | exact bD _ _ _ | assumption | exact aC (by assumption) | exact aC (aC (by assumption)) | exact aC (aC (aC (by assumption))) | exact aC (aC (aC (aC (by assumption)))) | exact aC (aC (aC (aC (aC (by assumption))))))) | (with_reducible refine aZ ?qh;case qh=>first | omega | (simp (disch:=omega) only [aG,aN,a5,bP,bU,aT,a_,cF,bB,cQ,cM,aY,aF,zE,List.length_nil,zO,zR,zH,fU,f_,dQ,lK,dg,zM]<;>omega)) | (with_reducible refine a7 ?qh;case qh=>first | omega | (simp (disch:=omega) only [aG,aN,a5,bP,bU,aT,a_,cF,bB,cQ,cM,aY,aF,zE,List.length_nil,zO,zR,zH,fU,f_,dQ,lK,dg,zM]<;>omega)) | (with_reducible refine a4 ?qh;case qh=>first | omega | (simp (disch:=omega) only [aG,aN,a5,bP,bU,aT,a_,cF,bB,cQ,cM,aY,aF,zE,List.length_nil,zO,zR,zH,fU,f_,dQ,lK,dg,zM]<;>omega)) | (with_reducible refine ba ?qh;case qh=>first | omega | (simp (disch:=omega) only [aG,aN,a5,bP,bU,aT,a_,cF,bB,cQ,cM,aY,aF,zE,List.length_nil,zO,zR,zH,fU,f_,dQ,lK,dg,zM]<;>omega)) | (with_reducible refine ak ?qh;case qh=>first | omega | (simp (disch:=omega) only [aG,aN,a5,bP,bU,aT,a_,cF,bB,cQ,cM,aY,aF,zE,List.length_nil,zO,zR,zH,fU,f_,dQ,lK,dg,zM]<;>omega)) | (with_reducible refine ao ?qh;case qh=>first | omega | (simp (disch:=omega) only [aG,aN,a5,bP,bU,aT,a_,cF,bB,cQ,cM,aY,aF,zE,List.length_nil,zO,zR,zH,fU,f_,dQ,lK,dg,zM]<;>omega)))):qR x:=by rw [h];exact k
theorem wR {α β:Type} {x:Option α} {f:α→Option ((Bool×Unit)×β)} {a:α} (h:x=some a) (k:qR (f a)):qR (bd x f):=by rw [h];exact k
theorem qR.mk {β:Type} {d:β}:qR (some ((true,()),d)):=⟨d,rfl⟩
theorem qR.mk' {β:Type} {b:Bool} {d:β} (h:b=true):qR (some ((b,()),d)):=by subst h;exact ⟨d,rfl⟩
structure St (c0:T0) (c1:T1) (d0:T2) (d1:T3) (d2:T4) (d3:T5) (d4:T6) (d5:T7) (d6:T8) (d7:T9) (d8:dT) (md:Nat) (k:Nat) (m:M):Prop where
 rel:ug c0 c1 d0 d1 d2 d3 d4 d5 d6 d7 d8 md m
 mi:MI k m
 ct:CT m
section
variable {c0:T0} {c1:T1} {d0:T2} {d1:T3} {d2:T4} {d3:T5} {d4:T6} {d5:T7} {d6:T8} {d7:T9} {d8:dT} {md:Nat} {m:M} {k:Nat}
theorem St.step (h:St c0 c1 d0 d1 d2 d3 d4 d5 d6 d7 d8 md k m) (hk:k<9000) (n:Int) {c:oZ} (hc:wX c) :
  ∃AR sV AQ Ah Ag qE qD uP tZ,g.di md n c c0 c1 d0 d1 d2 d3 d4 d5 d6 d7 d8=some ((((m.step n c).2.1.1,((m.step n c).2.1.2.1,(m.step n c).2.1.2.2)),((m.step n c).2.2,())),(AR,(sV,(AQ,(Ah,(Ag,(qE,(qD,(uP,(tZ,()))))))))))
   ∧ St c0 c1 AR sV AQ Ah Ag qE qD uP tZ md (k+1) (m.step n c).1:=by
 obtain ⟨e0,e1,e2,e3,e4,e5,e6,e7,e8,k1,k2⟩:=aiD h.rel h.mi h.ct n hc
 exact ⟨e0,e1,e2,e3,e4,e5,e6,e7,e8,k1,k2,h.mi.step hk h.ct n c,h.ct.step h.mi n c⟩
theorem St.yes {β:Type} (h:St c0 c1 d0 d1 d2 d3 d4 d5 d6 d7 d8 md k m) (hk:k<9000) (n:Int) {c:oZ} (hc:wX c) {f:Gd→Option ((Bool×Unit)×β)}
  (K:∀AR sV AQ Ah Ag qE qD uP tZ,St c0 c1 AR sV AQ Ah Ag qE qD uP tZ md (k+1) (m.step n c).1→qR (f ((((m.step n c).2.1.1,((m.step n c).2.1.2.1,(m.step n c).2.1.2.2)),((m.step n c).2.2,())),(AR,(sV,(AQ,(Ah,(Ag,(qE,(qD,(uP,(tZ,())))))))))))) :
  qR (bd (g.di md n c c0 c1 d0 d1 d2 d3 d4 d5 d6 d7 d8) f):=by
 obtain ⟨e0,e1,e2,e3,e4,e5,e6,e7,e8,k1,k2⟩:=h.step hk n hc
 exact wR k1 (K _ _ _ _ _ _ _ _ _ k2)
end
theorem St.new {p:rM} (hp:dL p=true) {f:List (List h_)} (hf:lv f) (c0:T8) (c1:T9) (c2:dT) (d0:T0) (d1:T1) (d2:T2) (d3:T3) (d4:T4) (d5:T5) (d6:T6) (d7:T7) :
  ∃AR sV AQ Ah Ag qE qD uP,g.mf p f c0 c1 c2 d0 d1 d2 d3 d4 d5 d6 d7=some (((some d0.length),(0,())),(AR,(sV,(AQ,(Ah,(Ag,(qE,(qD,(uP,())))))))))
   ∧ St AR sV AQ Ah Ag qE qD uP c0 c1 c2 d0.length 0 (M.new p f):=by
 obtain ⟨e0,e1,e2,e3,e4,e5,e6,e7,k1,k2⟩:=BK hp hf c0 c1 c2 d0 d1 d2 d3 d4 d5 d6 d7
 obtain ⟨i1,i2⟩:=MI.new hp hf.ok
 exact ⟨e0,e1,e2,e3,e4,e5,e6,e7,k1,k2,i1,i2⟩
abbrev Qp:rM:=(4,(2,(128,512)))
theorem GZ:lv []:=⟨by simp,fun l hl=>by cases hl⟩
theorem Gk (d0:T0) (d1:T1) (d2:T2) (d3:T3) (d4:T4) (d5:T5) (d6:T6) (d7:T7) (d8:T8) (d9:T9) (d10:dT):qR (g.iP d0 d1 d2 d3 d4 d5 d6 d7 d8 d9 d10):=by
 have hp:dL Qp=true:=by decide
 obtain ⟨e0,e1,e2,e3,e4,e5,e6,e7,k1,h⟩:=St.new hp GZ d8 d9 d10 d0 d1 d2 d3 d4 d5 d6 d7
 unfold g.iP
 refine wR (rfl:g.kH=some ((Qp,()),())) ?_
 refine wR k1 ?_
 repeat refine YS ?_
 dsimp only
 refine h.yes (by omega) 0 ⟨by decide,by decide,by decide⟩ fun _ _ _ _ _ _ _ _ _ h=>?_
 dsimp only
 refine h.yes (by omega) 0 ⟨by decide,by decide,by decide⟩ fun _ _ _ _ _ _ _ _ _ h=>?_
 dsimp only
 refine h.yes (by omega) 0 ⟨by decide,by decide,by decide⟩ fun _ _ _ _ _ _ _ _ _ h=>?_
 dsimp only
 refine h.yes (by omega) 0 ⟨by decide,by decide,by decide⟩ fun _ _ _ _ _ _ _ _ _ h=>?_
 dsimp only
 refine h.yes (by omega) 0 ⟨by decide,by decide,by decide⟩ fun _ _ _ _ _ _ _ _ _ h=>?_
 dsimp only
 refine qR.of (ak (by decide +kernel)) ?_
 refine qR.of (ak (by decide +kernel)) ?_
 refine qR.of (ak (by decide +kernel)) ?_
 refine qR.of (aZ (by decide +kernel)) ?_
 refine qR.of (ak (by decide +kernel)) ?_
 exact qR.mk' (decide_eq_true (by decide +kernel))
end Go.Proofs.YtihiooaimdoapaaGreat
namespace Go.jJ
open Go.Bm
def ND (m:M):Prop:=∀(i:Nat) (x:dW),m.sc[i]?=some x→x.1.1≠3
def PT (m:M):Prop:=∀t∈m.th,∀(A B:List cR) (s:Int),t.aA=A++(s,true)::B→(ab m.sc s).1.2.2.1=db A
theorem ND.set {m:M} (h:ND m) {i:Nat} {y:dW} (hy:y.1.1≠3):ND { m with sc:=m.sc.set i y }:=fun j z hz=>by
 rcases getSet (show (m.sc.set i y)[j]?=some z from hz) with ⟨_,e⟩ | ⟨_,g⟩
 ·rw [e];exact hy
 ·exact h j z g
theorem PT.aA {m:M} (h:PT m) {n:Int} {l:List cR} (hl:∀(A B:List cR) (s:Int),l=A++(s,true)::B→(ab m.sc s).1.2.2.1=db A):PT (m.cD n l):=by
 intro t ht A B s e
 rcases List.mem_or_eq_of_mem_set (show t∈m.th.set n.toNat _ from ht) with h1 | h1
 ·exact h t h1 A B s e
 ·rw [h1] at e;exact hl A B s e
theorem PT.fV {m:M} (h:PT m) {n:Int} (hn:0≤n∧n<m.th.length) (r v:Int):PT (m.fV n r v):=by
 intro t ht A B s e
 rcases List.mem_or_eq_of_mem_set (show t∈m.th.set n.toNat _ from ht) with h1 | h1
 ·exact h t h1 A B s e
 ·rw [h1] at e;exact h _ (M.ko hn) A B s e
theorem nU {l A B:List cR} {x:cR} (h:l.dropLast=A++x::B):∃B',l=A++x::B':=by
 rcases List.eq_nil_or_concat l with rfl | ⟨l',y,rfl⟩
 ·simp at h
 ·rw [List.concat_eq_append] at *
  rw [List.dropLast_concat] at h
  exact ⟨B++[y],by rw [h];simp⟩
theorem Jr {m:M} {s:Int} (h:xA m.th s=0) {t:yD} (ht:t∈m.th):(s,true)∉t.aA:=fun hm=>by
 have:=ve ht hm
 omega
theorem PT.YE {m:M} (h:PT m) {Qj:List dW} (hs:∀t∈m.th,∀s,(s,true)∈t.aA→(ab Qj s).1.2.2.1=(ab m.sc s).1.2.2.1):PT { m with sc:=Qj }:=by
 intro t ht A B s e
 rw [←h t ht A B s e]
 exact hs t ht s (by rw [e];simp)
theorem kj {l:List dW} {i:Nat} {y:dW} {s:Int} (h0:0≤s):ab (l.set i y) s=if s=i∧i<l.length then y else ab l s:=by
 unfold ab nth nN
 rw [zA,List.getElem?_set]
 by_cases h:i=s.toNat
 ·by_cases h2:i<l.length
  ·rw [if_pos h,if_pos (by omega),if_pos (by omega)];rfl
  ·rw [if_pos h,if_neg (by omega),if_neg (by omega)]
   rw [zA,zb (by omega)]
 ·rw [if_neg h,if_neg (by omega),zA]
theorem wC {k:Nat} {m:M} (h:MI k m) {t:yD} (ht:t∈m.th) {s:Int} (hs:(s,true)∈t.aA):1≤s∧s<m.p.1:=by
 have:=(h.th t ht).2.2.Dp _ hs
 exact ⟨this.2.2 rfl,this.2.1⟩
theorem PI.enter {k:Nat} {m:M} (h:MI k m) (hc:CT m) (hd:ND m) (hp:PT m) {n:Int} (hn:0≤n∧n<m.th.length) (a:Int):ND (m.enter n a).1∧PT (m.enter n a).1:=by
 unfold M.enter
 split
 ·exact ⟨hd,hp⟩
 rename_i ha
 have ha:1≤a∧a≤m.p.1-1:=by rw [←bF];simpa using ha
 split
 ·exact ⟨hd,hp⟩
 rename_i hq
 split
 ·exact ⟨hd,hp⟩
 rename_i hu
 have hq:(m.ax n).aA.length<6:=by
  unfold push at hq
  split at hq
  ·exact absurd (by decide) hq
  ·omega
 have hx:=h.nX (i:=a) (by omega)
 have sI:=h.ls
 have D1:lb m.sc 1 a=true:=bX.2 ⟨by omega,by omega⟩
 have qP:=h.si.cr _ _ hx
 unfold cS at hu ⊢
 rw [if_pos D1] at hu ⊢
 split
 ·rename_i h0
  have DV:=kf qP h0
  have Hm:=hc a.toNat _ (by omega) hx
  have e1:((a.toNat:Nat):Int)=a:=by omega
  rw [e1] at Hm
  have key:∀t∈m.th,(a,true)∈t.aA→(ab m.sc a).1.2.2.1=db (m.ax n).aA:=by
   intro t ht hm
   rcases DV.2 with h1 | ⟨_,h1,_⟩
   ·have:=ve ht hm
    rcases jD qP with ⟨_,h2,_⟩ | h2 | ⟨h2,_⟩<;>omega
   ·exact h1
  have BX:PT { m with sc:=m.sc.set a.toNat ((bS (ab m.sc a).1 (db (m.ax n).aA)).1,(ab m.sc a).2) }:=by
   refine hp.YE fun t ht s hs=>?_
   have hr:=wC h ht hs
   rw [kj (by omega)]
   split
   ·rename_i hh
    have hsa:s=a:=by omega
    subst hsa
    rw [DV.1,key t ht hs]
   ·rfl
  refine ⟨?_,BX.aA fun A B s e=>?_⟩
  ·refine ND.set hd ?_
   rw [DV.1];exact (by decide:(2:Int)≠3)
  ·unfold push at e
   rw [if_neg (by omega)] at e
   rcases nV e with ⟨_,e2,e3⟩ | ⟨B',_,e3⟩
   ·cases e2
    rw [←e3,kj (by omega),if_pos ⟨by omega,by omega⟩,DV.1]
   ·exact BX _ (M.ko hn) A B' s e3
 ·rename_i h0
  rw [if_neg h0] at hu;exact absurd h0 hu
theorem PI.leave {k:Nat} {m:M} (h:MI k m) (hc:CT m) (hd:ND m) (hp:PT m) {n:Int} (hn:0≤n∧n<m.th.length) {s:Int} {a:L9} (h1:1≤s∧s<m.p.1) (h2:(ab m.sc s).1.1=2) (hl:(m.ax n).aA.getLast?=some (s,true)) :
  ND (m.leave n s (m.ax n).aA.dropLast a).1∧PT (m.leave n s (m.ax n).aA.dropLast a).1:=by
 have hx:=h.nX (i:=s) (by omega)
 have hr:=h.si.cr _ _ hx
 have sI:=h.ls
 have QP:=CT.leave (a:=a) h hc hn h1 h2 hl
 rw [M.mu h1.1 (by rw [h.ls];exact h1.2) hr h2] at QP ⊢
 have BW:=hp _ (M.ko hn)
 split
 ·rename_i h3
  rw [if_pos h3] at QP
  refine ⟨ND.set (m:=m.cK s oP) hd (by exact (by decide:(1:Int)≠3)),?_⟩
  have hz:∀t∈(m.cD n (m.ax n).aA.dropLast).th,(s,true)∉t.aA:=by
   intro t ht
   refine Jr (m:=m.cD n (m.ax n).aA.dropLast) ?_ ht
   have:=QP s.toNat ((1,0,-1,b6 (ab m.sc s).1.2.2.2),(ab m.sc s).2) (by omega) (by
    show (m.sc.set s.toNat _)[s.toNat]?=_
    rw [List.getElem?_set,if_pos rfl,if_pos (by omega)])
   have e:((s.toNat:Nat):Int)=s:=by omega
   rw [e] at this
   have this:(0:Int)=((xA (m.cD n (m.ax n).aA.dropLast).th s:Nat):Int):=this
   omega
  intro t ht A B q e
  have ht':t∈(m.cD n (m.ax n).aA.dropLast).th:=ht
  have hq:q≠s:=fun eq=>hz t ht' (by rw [e,eq];simp)
  have hm:PT (m.cD n (m.ax n).aA.dropLast):=hp.aA fun A B s e=>by
   obtain ⟨B',e2⟩:=nU e
   exact BW A B' s e2
  have hqr:0≤q:=by
   rcases List.mem_or_eq_of_mem_set (show t∈m.th.set n.toNat _ from ht) with g | g
   ·have:=wC h g (s:=q) (by rw [e];simp);omega
   ·rw [g] at e
    obtain ⟨B',e2⟩:=nU e
    have:=wC h (M.ko hn) (s:=q) (by rw [e2];simp);omega
  rw [←hm t ht' A B q e]
  show (ab (m.sc.set s.toNat _) q).1.2.2.1=_
  rw [kj hqr,if_neg (by omega)];rfl
 ·refine ⟨ND.set hd (by simp),?_⟩
  have BX:PT { m with sc:=m.sc.set s.toNat ((2,(ab m.sc s).1.2.1-1,(ab m.sc s).1.2.2.1,(ab m.sc s).1.2.2.2),(ab m.sc s).2) }:=by
   refine hp.YE fun t ht q hq=>?_
   have hr:=wC h ht hq
   rw [kj (by omega)]
   split
   ·rename_i hh
    have:q=s:=by omega
    subst this;rfl
   ·rfl
  refine BX.aA fun A B q e=>?_
  obtain ⟨B',e2⟩:=nU e
  exact BX _ (M.ko hn) A B' q e2
theorem PI.exit {k:Nat} {m:M} (h:MI k m) (hc:CT m) (hd:ND m) (hp:PT m) {n:Int} (hn:0≤n∧n<m.th.length):ND (m.exit n).1∧PT (m.exit n).1:=by
 have ht:=h.ax hn
 have BW:=hp _ (M.ko hn)
 unfold M.exit
 split
 ·exact ⟨hd,hp⟩
 ·rename_i x hx
  obtain ⟨s,b⟩:=x
  split
  ·refine ⟨hd,hp.aA fun A B s e=>?_⟩
   obtain ⟨B',e2⟩:=nU e
   exact BW A B' s e2
  ·rename_i hb
   have hm:=pD hx
   have hb:b=true:=by simpa using hb
   subst hb
   have iH:=h.live hc (M.ko hn) (.inr hm)
   have hr:=ht.2.2.Dp _ hm
   have h1:=hr.2.2 rfl
   simp only at h1
   have ha:=(h.tq (i:=s) ⟨iH.2.2.1,iH.2.2.2⟩).2
   have B1:=h.qW (i:=s) ⟨iH.2.2.1,iH.2.2.2⟩ (ha.fin m.f)
   split
   ·split
    ·exact ⟨hd,hp⟩
    ·exact PI.leave B1 hc hd hp hn ⟨h1,iH.2.2.2⟩ iH.2.1 hx
   ·exact PI.leave h hc hd hp hn ⟨h1,iH.2.2.2⟩ iH.2.1 hx
theorem PI.lr {k:Nat} {m:M} (h:MI k m) (hd:ND m) (hp:PT m) {n:Int} (hn:0≤n∧n<m.th.length) (a:Int):ND (m.lr n a).1∧PT (m.lr n a).1:=by
 unfold M.lr
 split
 ·exact ⟨hd,hp⟩
 split
 ·exact ⟨hd,hp⟩
 split
 ·exact ⟨hd,hp⟩
 rename_i hq
 have hq:(m.ax n).aA.length<6:=by
  unfold push at hq
  split at hq
  ·exact absurd (by decide) hq
  ·omega
 refine ⟨hd,hp.aA fun A B s e=>?_⟩
 unfold push at e
 rw [if_neg (by omega)] at e
 rcases nV e with ⟨_,e2,_⟩ | ⟨B',_,e3⟩
 ·cases e2
 ·exact hp _ (M.ko hn) A B' s e3
theorem PT.idle {k:Nat} {m:M} (h:MI k m) (hc:CT m) (hp:PT m) {i:Nat} {x y:dW} (hx:m.sc[i]?=some x) (h0:x.1.1=0∨x.1.1=1):PT { m with sc:=m.sc.set i y }:=by
 refine hp.YE fun t ht s hs=>?_
 have hr:=wC h ht hs
 rw [kj (by omega)]
 split
 ·rename_i hh
  exfalso
  have Hm:=hc i x (by omega) hx
  have:=ve ht hs
  rw [hh.1] at this
  rcases jD (h.si.cr i x hx) with ⟨_,h2,_⟩ | h2 | ⟨h2,_⟩<;>omega
 ·rfl
theorem PI.create {k:Nat} {m:M} (h:MI k m) (hc:CT m) (hd:ND m) (hp:PT m) (a:Int):ND { m with sc:=(bC m.sc m.fl a).1,fl:=(bC m.sc m.fl a).2.1 }∧PT { m with sc:=(bC m.sc m.fl a).1,fl:=(bC m.sc m.fl a).2.1 }:=by
 have key:(bC m.sc m.fl a).1=m.sc∨∃(i:Nat) (x:dW) (y:dW),m.sc[i]?=some x∧x.1.1=0∧y.1.1=1∧(bC m.sc m.fl a).1=m.sc.set i y:=by
  unfold bC
  split
  ·exact .inl rfl
  ·cases mz:g_ m.sc with
   | none=>exact .inl rfl
   | some i=>
    simp only
    cases ZD:jy m.fl (rK a) with
    | none=>exact .inl rfl
    | some r=>
     obtain ⟨x,h1,h2⟩:=gW mz
     exact .inr ⟨i,x,_,h1,h2,rfl,rfl⟩
 rcases key with e | ⟨i,x,y,h1,h2,h3,e⟩
 ·rw [e];exact ⟨hd,hp⟩
 ·rw [e]
  exact ⟨ND.set hd (by omega),PT.idle h hc hp h1 (.inl h2)⟩
theorem PI.lE {k:Nat} {m:M} (h:MI k m) (hc:CT m) (hd:ND m) (hp:PT m) (a:Int):ND { m with sc:=(bg m.fr m.en m.sc m.fl a).1,fl:=(bg m.fr m.en m.sc m.fl a).2.1 }∧PT { m with sc:=(bg m.fr m.en m.sc m.fl a).1,fl:=(bg m.fr m.en m.sc m.fl a).2.1 }:=by
 have key:(bg m.fr m.en m.sc m.fl a).1=m.sc∨∃(i:Nat) (x:dW) (y:dW),m.sc[i]?=some x∧x.1.1=1∧y.1.1=0∧(bg m.fr m.en m.sc m.fl a).1=m.sc.set i y:=by
  unfold bg
  split
  ·exact .inl rfl
  ·rename_i hn
   have hn:1≤a∧a<m.sc.length:=by rw [←bX];simpa using hn
   split
   ·exact .inl rfl
   ·split
    ·exact .inl rfl
    ·rename_i h1
     exact .inr ⟨a.toNat,_,_,iX (by omega) hn.2,by omega,rfl,rfl⟩
 rcases key with e | ⟨i,x,y,h1,h2,h3,e⟩
 ·rw [e];exact ⟨hd,hp⟩
 ·rw [e]
  exact ⟨ND.set hd (by omega),PT.idle h hc hp h1 (.inr h2)⟩
def PI (m:M):Prop:=ND m∧PT m
theorem PI.c_ {m:M} (h:PI m) {n:Int} (hn:0≤n∧n<m.th.length) (r v:Int):PI (m.fV n r v):=⟨h.1,h.2.fV hn r v⟩
theorem PI.put {m to:M} (h:PI m) (ht:PI to) (l:List cR) (v s:Int):PI (m.put l v s to).1:=by
 unfold M.put
 split
 ·exact ht
 ·split
  ·exact h
  ·split
   ·exact h
   ·split
    ·exact h
    ·exact ht
theorem PI.act {k:Nat} {m:M} (h:MI k m) (hc:CT m) (hp:PI m) {n:Int} (hn:0≤n∧n<m.th.length) (c:oZ):PI (m.act n c).1:=by
 obtain ⟨op,r,g,v,a,b,t⟩:=c
 refine cw (fun o:Out=>PI o.1) (fun _=>hp) fun _=>?_
 refine cw (fun o:Out=>PI o.1) (fun _=>hp.c_ hn _ _) fun _=>?_
 refine cw (fun o:Out=>PI o.1) (fun _=>PI.create h hc hp.1 hp.2 a) fun _=>?_
 refine cw (fun o:Out=>PI o.1) (fun _=>PI.lE h hc hp.1 hp.2 a) fun _=>?_
 refine cw (fun o:Out=>PI o.1) (fun _=>PI.enter h hc hp.1 hp.2 hn a) fun _=>?_
 refine cw (fun o:Out=>PI o.1) (fun _=>PI.exit h hc hp.1 hp.2 hn) fun _=>?_
 refine cw (fun o:Out=>PI o.1) (fun _=>PI.lr h hp.1 hp.2 hn a) fun _=>?_
 refine cw (fun o:Out=>PI o.1) (fun _=>?_) fun _=>?_
 ·unfold M.alloc
  refine cw (fun o:Out=>PI o.1) (fun _=>hp) fun _=>?_
  exact cw (fun o:Out=>PI o.1) (fun _=>hp) fun _=>PI.c_ (m:=M.cK m _ _) hp hn _ _
 refine cw (fun o:Out=>PI o.1) (fun _=>?_) fun _=>?_
 ·unfold M.load
  refine cw (fun o:Out=>PI o.1) (fun _=>hp) fun _=>?_
  split
  ·exact hp
  ·exact cw (fun o:Out=>PI o.1) (fun _=>hp) fun _=>hp.c_ hn _ _
 refine cw (fun o:Out=>PI o.1) (fun _=>?_) fun _=>?_
 ·unfold M.store
  refine cw (fun o:Out=>PI o.1) (fun _=>hp) fun _=>?_
  split
  ·exact hp
  ·exact cw (fun o:Out=>PI o.1) (fun _=>hp) fun _=>PI.put (to:=M.setObj m _ _) hp hp _ _ _
 refine cw (fun o:Out=>PI o.1) (fun _=>?_) fun _=>?_
 ·unfold M.gm
  refine cw (fun o:Out=>PI o.1) (fun _=>hp) fun _=>?_
  exact cw (fun o:Out=>PI o.1) (fun _=>hp) fun _=>hp.c_ hn _ _
 refine cw (fun o:Out=>PI o.1) (fun _=>?_) fun _=>hp
 unfold M.gate
 refine cw (fun o:Out=>PI o.1) (fun _=>hp) fun _=>?_
 exact cw (fun o:Out=>PI o.1) (fun _=>hp) fun _=>PI.put (to:=M.cK m _ _) hp hp _ _ _
theorem PI.step {k:Nat} {m:M} (h:MI k m) (hc:CT m) (hp:PI m) (n:Int) (c:oZ):PI (m.step n c).1:=by
 unfold M.step
 split
 ·exact hp
 ·rename_i hn
  have hn:0≤n∧n≤(m.th.length:Int)-1:=by rw [←bF];simpa using hn
  split
  ·exact hp
  ·exact PI.act h hc hp ⟨hn.1,by omega⟩ c
theorem PI.new {p:rM} {f:List (List h_)}:PI (M.new p f):=by
 refine ⟨fun i x hx=>?_,fun t ht A B s e=>?_⟩
 ·cases i with
  | zero=>
   have:some (((2,1,-1,0),(p.1*64,p.2.2.1)):dW)=some x:=by simpa [M.new] using hx
   cases this;exact (by decide:(2:Int)≠3)
  | succ i=>
   have hx:(List.replicate (p.1-1).toNat (((0,0,-1,0),(0,0)):dW))[i]?=some x:=by simpa [M.new] using hx
   rw [List.eq_of_mem_replicate (zG hx)];decide
 ·have:=List.eq_of_mem_replicate (show t∈List.replicate p.2.1.toNat _ from ht)
  rw [this] at e
  simp at e
theorem counts {k:Nat} {m:M} (h:MI k m) (hc:CT m) (hp:PI m) {s:Int} (hs:1≤s∧s<m.p.1) :
  (ab m.sc s).1.2.1=(xA m.th s:Int)∧((ab m.sc s).1.1=2↔0<xA m.th s)∧(xA m.th s=0→(ab m.sc s).1.2.2.1 = -1∧m.bm s=oP) ∧
  (0<(ab m.sc s).1.2.2.1→0≤(ab m.sc s).1.2.2.1∧(ab m.sc s).1.2.2.1<m.p.1∧(ab m.sc (ab m.sc s).1.2.2.1).1.1=2):=by
 have hx:=h.nX (i:=s) (by omega)
 have Hm:=hc s.toNat _ (by omega) hx
 have e1:((s.toNat:Nat):Int)=s:=by omega
 rw [e1] at Hm
 have Ul:=hp.1 _ _ hx
 have qP:=h.si.cr _ _ hx
 have qN:=jD qP
 have Ks:=(h.tq (i:=s) (by omega)).2
 refine ⟨Hm,?_,?_,?_⟩
 ·constructor
  ·intro h2
   have:=fH qP h2
   omega
  ·intro h2
   rcases qN with ⟨_,h3,_⟩ | h3 | ⟨h3,_⟩
   ·omega
   ·exact h3
   ·exact absurd h3 Ul
 ·intro h0
  have h2:(ab m.sc s).1.1≠2:=fun h2=>by have:=fH qP h2;omega
  refine ⟨?_,Ks.id h2⟩
  rcases qN with ⟨_,_,h3⟩ | h3 | ⟨h3,_⟩
  ·exact h3
  ·exact absurd h3 h2
  ·exact absurd h3 Ul
 ·intro h0
  have h2:(ab m.sc s).1.1=2:=by
   rcases qN with ⟨_,_,h3⟩ | h3 | ⟨h3,_⟩
   ·omega
   ·exact h3
   ·exact absurd h3 Ul
  have hlc:=fH qP h2
  have hex:∃t∈m.th,(s,true)∈t.aA:=by
   apply Classical.byContradiction
   intro jB
   have:xA m.th s=0:=by
    unfold xA
    refine vl _ fun v hv=>?_
    obtain ⟨t,ht,rfl⟩:=List.mem_map.1 hv
    unfold wI
    exact List.count_eq_zero.2 fun hm=>jB ⟨t,ht,hm⟩
   omega
  obtain ⟨t,ht,hm⟩:=hex
  obtain ⟨A,B,e⟩:=List.append_of_mem hm
  have hpt:=hp.2 t ht A B s e
  have zx:=(h.th t ht).2.2
  have hA:rE m.p A:=by
   refine ⟨by have:=zx.len;rw [e] at this;simp at this;omega,fun x hx=>zx.Dp x (by rw [e];simp [hx]),fun A' B' q e'=>zx.AX A' (B'++(s,true)::B) q (by rw [e,e'];simp)⟩
  rw [hpt] at h0 ⊢
  rcases qx hA with h3 | h3
  ·omega
  ·have:=h.live hc ht (s:=db A) (.inr (by rw [e];simp [h3]))
   exact ⟨this.2.2.1,this.2.2.2,this.2.1⟩
end Go.jJ