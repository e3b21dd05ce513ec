/- TurnsZeros holds: picks of 0 let the first thread that is live go on to its end, for all cases and picks. No conditions. -/
import Derived.KernelRfl
import Derived.ProofKit
import Derived.Test.YtklkjncibchelaaGreatQE
set_option maxHeartbeats 2000000
noncomputable section
set_option linter.unusedVariables false
namespace Go.Proofs.YtklkjncibchelaaGreat
open Go.Bm
theorem Mv (a n:Int) (hn:1≤n):a.tmod n=if a%n=0 then 0 else if a<0 then a%n-n else a%n:=by
 have h1:=Int.emod_nonneg a (show n≠0 by omega)
 have h2:=Int.emod_lt_of_pos a (show 0<n by omega)
 by_cases ha:0≤a
 ·rw [Int.tmod_eq_emod_of_nonneg ha]
  split
  ·assumption
  ·rw [if_neg (by omega)]
 ·rw [Int.tmod_eq_emod]
  have hd:n ∣ a↔a%n=0:=Int.dvd_iff_emod_eq_zero
  by_cases hz:a%n=0
  ·rw [if_pos (Or.inr (hd.2 hz)),if_pos hz];omega
  ·rw [if_neg (by rintro (h | h);exact ha h;exact hz (hd.1 h)),if_neg hz,if_pos (by omega)];omega
theorem HP {a n:Int} (hn:1≤n∧n≤9223372036854775807):g.gK a n=some ((a%n,(0,())),()):=by
 have h1:=Int.emod_nonneg a (show n≠0 by omega)
 have h2:=Int.emod_lt_of_pos a (show 0<n by omega)
 unfold g.gK cq
 rw [cL (by omega),gD,bh (by omega),Mv a n hn.1]
 by_cases hz:a%n=0
 ·rw [if_pos hz,cL (by omega),hz]
 ·rw [if_neg hz]
  by_cases ha:a<0
  ·rw [if_pos ha,dw (by omega),aS (by omega)]
   congr 4;omega
  ·rw [if_neg ha,cL (by omega)]
set_option linter.unusedVariables false
set_option linter.unusedSimpArgs false
open Go.Bm Go.n6
abbrev Op.frm (o:xE):Int:=o.2.2.1
theorem rn {α:Type} {l:List α} {i j:Nat} {x:α} (h:i≠j):(l.set i x)[j]?=l[j]?:=List.getElem?_set_ne h
structure ZI (s:WS):Prop where
 seq:∀(j:Nat) a b,s.ops[j]?=some a→s.ops[j+1]?=some b→a.1≤b.1∧0≤Op.to a∧Op.frm b=Op.to a+1
 lt:∀(j:Nat) o,s.ops[j]?=some o→Op.to o<(s.st:Int)
 cur:(s.ops=[]∧s.st=0∧∀(k:Nat) t,s.tl[k]?=some t→Th.busy t=false) ∨
  ∃(q k:Nat) (o:xE),s.ops.length=q+1∧s.ops[q]?=some o∧o.1=(k:Int)∧(∀(i:Nat) t,i<k→s.tl[i]?=some t→eo t=true)∧(∀(i:Nat) t,i≠k→s.tl[i]?=some t→Th.busy t=false) ∧
   ((∃t,s.tl[k]?=some t∧Th.busy t=true∧Th.at t=(q:Int))∨((∀t,s.tl[k]?=some t→Th.busy t=false)∧Op.to o=(s.st:Int)-1∧0≤Op.to o))
theorem sk {t:nK} (h:eo t=true):Th.busy t=false:=by
 unfold eo at h
 cases hb:Th.busy t with
 | false=>rfl
 | true=>rw [hb] at h;cases h
theorem ZI.step {s s':WS} (H:ZI s) {i:Nat} {t:nK} (ht:s.tl[i]?=some t) (eO:∀(j:Nat) u,j<i→s.tl[j]?=some u→eo u=true) (hS:pI i t s s'):ZI s':=by
 obtain ⟨t1,gP,r',hB,qL,hX⟩:=hS
 have mid:Th.busy t1=true∧∃(q:Nat) (o:xE),gP.length=q+1∧gP[q]?=some o∧o.1=(i:Int)∧Th.at t1=(q:Int)∧(∀(j:Nat) a b,gP[j]?=some a→gP[j+1]?=some b→a.1≤b.1∧0≤Op.to a∧Op.frm b=Op.to a+1)∧(∀(j:Nat) u,j≠i→s.tl[j]?=some u→Th.busy u=false)∧(∀(j:Nat) o,gP[j]?=some o→Op.to o<(s.st:Int)):=by
  rcases hB with ⟨hb,rfl,rfl⟩ | ⟨hb,c,cs,r,h1,h2,rfl,rfl⟩
  ·rcases H.cur with ⟨_,_,h⟩ | ⟨q,k,o,a1,a2,a3,a4,a5,a6⟩
   ·have:=h i _ ht;rw [hb] at this;cases this
   ·have hk:i=k:=by
     by_cases e:i=k
     ·exact e
     ·have:=a5 i _ e ht;rw [hb] at this;cases this
    subst hk
    rcases a6 with ⟨u,b1,b2,b3⟩ | ⟨b1,_⟩
    ·rw [ht] at b1;cases b1
     exact ⟨hb,q,o,a1,a2,a3,b3,H.seq,a5,H.lt⟩
    ·have:=b1 _ ht;rw [hb] at this;cases this
  ·refine ⟨rfl,s.ops.length,qy i c s.st,by rw [zY];rfl,by rw [zJ (Nat.le_refl _),Nat.sub_self];rfl,rfl,rfl,?_,?_,?_⟩
   ·intro j a b e1 e2
    have hj:j+1<s.ops.length+1:=by have:=(zB.1 e2).1;rw [zY] at this;exact this
    rw [zK (by omega)] at e1
    by_cases e:j+1<s.ops.length
    ·rw [zK e] at e2
     exact H.seq j a b e1 e2
    ·have e':j+1=s.ops.length:=by omega
     rw [e',zJ (Nat.le_refl _),Nat.sub_self] at e2
     cases e2
     rcases H.cur with ⟨h,_⟩ | ⟨q,k,o,a1,a2,a3,a4,a5,a6⟩
     ·rw [h] at e';simp at e'
     ·have:j=q:=by omega
      subst this
      rw [a2] at e1;cases e1
      have ij:¬i<k:=fun Cw=>by
       have h3:=a4 i _ Cw ht
       unfold eo at h3
       have ND:Th.calls t=c::cs:=h1
       rw [ND] at h3
       simp at h3
      have hnb:∀u,s.tl[k]?=some u→Th.busy u=false:=fun u hu=>by
       by_cases e:k=i
       ·subst e;rw [ht] at hu;cases hu;exact hb
       ·exact sk (eO k u (by omega) hu)
      rcases a6 with ⟨u,b1,b2,_⟩ | ⟨_,b2,b3⟩
      ·have:=hnb u b1;rw [b2] at this;cases this
      ·refine ⟨?_,b3,?_⟩
       ·show a.1≤(i:Int);rw [a3];omega
       ·show (s.st:Int)=_;rw [b2];omega
   ·intro j u hj hu
    by_cases e:j<i
    ·exact sk (eO j u e hu)
    ·rcases H.cur with ⟨_,_,h⟩ | ⟨q,k,o,a1,a2,a3,a4,a5,a6⟩
     ·exact h j u hu
     ·by_cases ek:j=k
      ·exfalso
       subst ek
       have h3:=a4 i _ (by omega) ht
       unfold eo at h3
       have ND:Th.calls t=c::cs:=h1
       rw [ND] at h3
       simp at h3
      ·exact a5 j u ek hu
   ·intro j o ho
    have hj:j<s.ops.length+1:=by have:=(zB.1 ho).1;rw [zY] at this;exact this
    by_cases e:j<s.ops.length
    ·rw [zK e] at ho
     exact H.lt j o ho
    ·rw [show j=s.ops.length by omega,zJ (Nat.le_refl _),Nat.sub_self] at ho
     cases ho
     show (-1:Int)<_
     omega
 obtain ⟨hb1,q,o,m1,m2,m3,m4,m5,m6,m7⟩:=mid
 have Nt:i<s.tl.length:=(zB.1 ht).1
 have LM:∀t2,∀(j:Nat) u,j<i→(s.tl.set i t2)[j]?=some u→eo u=true:=fun t2 j u hj hu=>by
  rw [rn (by omega)] at hu;exact eO j u hj hu
 have bus:∀t2,∀(j:Nat) u,j≠i→(s.tl.set i t2)[j]?=some u→Th.busy u=false:=fun t2 j u hj hu=>by
  rw [rn (Ne.symm hj)] at hu;exact m6 j u hj hu
 rcases hX with ⟨_,x2,x3,_⟩ | ⟨_,oC,w',q',o',x1,x2,x3,x4,x5,x6,_⟩
 ·refine ⟨by rw [x2];exact m5,fun j o' ho=>by rw [x2] at ho;have:=m7 j o' ho;rw [qL];omega,.inr ⟨q,i,o,by rw [x2];exact m1,by rw [x2];exact m2,m3,by rw [x3];exact LM _,by rw [x3];exact bus _,.inl ⟨jW t1 r',by rw [x3];exact List.getElem?_set_self Nt,hb1,m4⟩⟩⟩
 ·have hq:q'=q:=by rw [m4] at x1;omega
  subst hq
  rw [m2] at x2;cases x2
  have hq:q' < gP.length:=(zB.1 m2).1
  refine ⟨?_,?_,.inr ⟨q',i,rO o s.st r',by rw [x5,zM];exact m1,by rw [x5];exact List.getElem?_set_self hq,m3,by rw [x6];exact LM _,by rw [x6];exact bus _,.inr ⟨fun u hu=>?_,?_,?_⟩⟩⟩
  ·intro j a b e1 e2
   rw [x5] at e1 e2
   have hj:j+1<gP.length:=by have:=(zB.1 e2).1;rwa [zM] at this
   rw [rn (by omega)] at e1
   by_cases e:q'=j+1
   ·rw [←e,List.getElem?_set_self hq] at e2
    cases e2
    have:=m5 j a o e1 (by rw [←e];exact m2)
    exact this
   ·rw [rn e] at e2
    exact m5 j a b e1 e2
  ·intro j o' ho
   rw [x5] at ho
   by_cases e:q'=j
   ·rw [←e,List.getElem?_set_self hq] at ho
    cases ho
    show (s.st:Int)<_
    rw [qL];omega
   ·rw [rn e] at ho
    have:=m7 j o' ho
    rw [qL];omega
  ·rw [x6,List.getElem?_set_self Nt] at hu;cases hu;rfl
  ·show (s.st:Int)=_;rw [qL];omega
  ·show (0:Int)≤(s.st:Int);omega
set_option linter.unusedVariables false
set_option linter.unusedSimpArgs false
open Go.Bm Go.n6
theorem lT {q:Nat→Bool}:∀{n:Nat} {k:Int} {l:List Int},eg q n=k::l→∃i:Nat,k=(i:Int)∧i<n∧q i=true∧∀j,j<i→q j=false
 | 0,k,l,h=>by cases h
 | n+1,k,l,h=>by
  unfold eg at h
  split at h
  ·rename_i hq
   cases hl:eg q n with
   | nil=>
    rw [hl] at h
    cases h
    refine ⟨n,rfl,by omega,hq,fun j hj=>?_⟩
    cases Y1:q j with
    | false=>rfl
    | true=>
     have:=Ck (q:=q) hj Y1
     rw [hl] at this;simp at this
   | cons a m=>
    rw [hl] at h
    cases h
    obtain ⟨i,h1,h2,h3⟩:=lT hl
    exact ⟨i,h1,by omega,h3⟩
  ·obtain ⟨i,h1,h2,h3⟩:=lT h
   exact ⟨i,h1,by omega,h3⟩
theorem yz {s:WS} {k:Int} {l:List Int} (h:iX s=k::l):∃(i:Nat) (t:nK),k=(i:Int)∧s.tl[i]?=some t∧eo t=false∧∀(j:Nat) u,j<i→s.tl[j]?=some u→eo u=true:=by
 obtain ⟨i,h1,h2,h3,h4⟩:=lT h
 have ht:=zD h2
 refine ⟨i,_,h1,ht,?_,fun j u hj hu=>?_⟩
 ·have:=mK ht;rw [h3] at this
  cases he:eo s.tl[i] with
  | false=>rfl
  | true=>rw [he] at this;cases this
 ·have:=mK hu;rw [h4 j hj] at this
  cases he:eo u with
  | false=>rw [he] at this;cases this
  | true=>rfl
def Mk (l:List Int):Prop:=∀p∈l,∀n:Int,1≤n→n≤4→p%n=0
def adL (C:WC) (c5:T5) (kk:Nat) (r:(Int×(Int×Unit))×Ds):Prop:=∃(n:Nat) (s':WS),n≤1000∧WI n C s' c5 r.2∧ZI s'∧0≤r.1.1∧r.1.1≤(kk:Int)∧s'.st≤kk∧s'.ops.length≤1000 ∧
 ((r.1.2.1=0∧iX s'=[])∨(r.1.2.1=3∧iX s'≠[]∧s'.st=kk))
theorem Jy {n:Nat} {C:WC} {s:WS} {c5:T5} {D:Ds} (H:WI n C s c5 D) (hz:ZI s) (h0:s.st=0) (mN:s.ops.length≤n) (hn:n≤100) (kK:List Int) (hp:Mk kK) (hl:kK.length≤400) :
  Ok (g.nb C.wi kK (kK.length:Int) c5 D.1 D.2.1 D.2.2.1 D.2.2.2.1 D.2.2.2.2.1 D.2.2.2.2.2.1 D.2.2.2.2.2.2.1 D.2.2.2.2.2.2.2.1 D.2.2.2.2.2.2.2.2.1) (adL C c5 kK.length):=by
 unfold g.nb
 refine .br (fun hb=>absurd (df.1 hb) (by omega)) fun _=>?_
 refine .loop (fun m z=>∃(i:Nat) (s':WS),z.1.1=(i:Int)∧i+m=kK.length∧WI (n+i) C s' c5 z.2.2.2.2∧ZI s'∧s'.st=i∧s'.ops.length≤n+i)
  (fun m z gg hI ih=>?_) (N:=kK.length) (by unfold kQ;omega) ⟨0,s,rfl,by omega,H,hz,h0,by omega⟩
 obtain ⟨i,s',e1,e2,H',e3,e4,e5⟩:=hI
 unfold g.oK
 rw [e1,fl]
 have h4:=H'.four
 have hl4:=H'.LM
 refine .br (fun hb=>?_) fun hb=>?_
 ·have hi:i<kK.length:=by have:=df.1 hb;omega
  refine .gd (by rw [bx];omega) (.gd (by rw [bP,aI];exact hi) (.bd (vE H' (tH s') (fun k t h=>mK h)) fun r hr=>?_))
  have hr:r.1.1=iX s':=hr
  rw [hr,fl]
  have hll:(iX s').length≤s'.tl.length:=lS _ _
  cases hq:iX s' with
  | nil=>exact .br (fun _=>.some ⟨n+i,s',by omega,H',e3,by show (0:Int)≤(i:Int);omega,by show (i:Int)≤_;omega,by omega,by omega,.inl ⟨rfl,hq⟩⟩) fun hb=>absurd rfl (b0.1 hb)
  | cons k l=>
   rw [hq,zR] at hll
   refine .br (fun hb=>absurd (cj.1 hb) (by rw [zR];omega)) fun _=>.br (fun hb=>absurd (cj.1 hb) (by omega)) fun _=>?_
   have aaV:nth 0 kK (nN (i:Int))=kK[i]:=fV hi
   have hz0:kK[i]%(((k::l).length:Nat):Int)=0:=hp _ (List.getElem_mem hi) _ (by rw [zR];omega) (by rw [zR];omega)
   refine .eT (HP (by rw [zR];omega)) ?_
   rw [aaV,hz0]
   have LY:nth (0:Int) (k::l) (nN 0)=k:=rfl
   rw [LY]
   obtain ⟨j,t,rfl,q1,q2,q3⟩:=yz hq
   have hj:j<s'.tl.length:=(zB.1 q1).1
   refine .gd (by rw [bx];exact Int.le_refl _) (.gd (by rw [bP,aI];exact Nat.succ_pos _) (.bd (Ba H' (by omega) (by omega) e5 (j:Int) (by omega)) fun p Cs=>?_))
   rcases Cs with ⟨_,⟨hx,_⟩ | ⟨i',t',hx,hy,YQ,_⟩⟩ | ⟨_,i',t',s3,hx,hy,YQ,hS,hW,_,hC⟩
   ·exact absurd ⟨Int.natCast_nonneg j,by omega⟩ hx
   ·have:j=i':=by omega
    subst this
    rw [q1] at hy;cases hy;rw [q2] at YQ;cases YQ
   ·have:j=i':=by omega
    subst this
    rw [q1] at hy;cases hy
    have hl3:=hS.len
    have he:ae .i64 (i:Int) 1=((i+1:Nat):Int):=by rw [aS (by omega)];rfl
    have NB:WI (n+(i+1)) C s3 c5 p.2:=hW
    exact ih (m-1) _ (by omega) ⟨i+1,s3,he,by omega,NB,e3.step q1 q3 hS,by rw [hS.st,e4],by omega⟩
 ·have hi:i=kK.length:=by have:=iM.1 hb;omega
  rw [bL (by omega),Int.sub_self]
  refine .bd (GS H' (by omega) e5 0 (Int.le_refl _) (by omega) (fun s2=>s2=s') (fun L s2=>s2=s'∧L=iX s') rfl (fun s2 _ h=>⟨h,by rw [h]⟩) (fun k l s2 _ eO h=>by rw [h.1] at eO;omega) (fun s2 h=>h.1)) fun r hr=>?_
  obtain ⟨made,s2,k1,k2,k3,k4,k5,k6,k7⟩:=hr.out
  have Cu:made=0:=by omega
  subst Cu
  refine .some ?_
  rcases k7 with ⟨b1,rfl,b3⟩ | ⟨b1,b2,k,l,rfl,b3⟩
  ·exact ⟨n+i+0,s2,by omega,k2,e3,by show (0:Int)≤(kK.length:Int);omega,Int.le_refl _,by omega,by omega,.inl ⟨b1,b3⟩⟩
  ·exact ⟨n+i+0,s2,by omega,k2,e3,by show (0:Int)≤(kK.length:Int);omega,Int.le_refl _,by omega,by omega,.inr ⟨b1,by rw [←b3];simp,by omega⟩⟩
set_option linter.unusedVariables false
set_option linter.unusedSimpArgs false
open Go.Bm Go.n6
def I7 (p:mC):mC:=(1+p.1%8,(1+p.2.1%4,(8*(p.2.2.1%64),8*(p.2.2.2%128))))
theorem yX (p:mC):eI (I7 p)=true:=by
 rw [ev];unfold I7;simp only;omega
theorem wo (p:mC):g.hH p=some ((I7 p,()),()):=by
 unfold g.hH
 rw [kR 3 (by omega) (by decide),kR 2 (by omega) (by decide),kR 6 (by omega) (by decide),kR 7 (by omega) (by decide)]
 rw [aS (by omega),aS (by omega),cK (by omega),cK (by omega)]
 rfl
def pA (o:oI):oI:=
 if o.1%5=0 then (o.1%5,(o.2.1%64,0)) else if o.1%5=1 then (o.1%5,(o.2.1%8%6,0)) else if o.1%5=2 then (o.1%5,(o.2.1%8%6,o.2.2%8%6))
 else if o.1%5=3 then (o.1%5,(o.2.1%8%6,o.2.2%8)) else (o.1%5,(0,0))
def k_ (l:List oI):List oI:=(l.take 8).map pA
def CG (f:List (List oI)):List (List oI):=(f.take 8).map k_
theorem xf (o:oI):nk (pA o):=by
 have e0:o.1%5=0∨o.1%5=1∨o.1%5=2∨o.1%5=3∨o.1%5=4:=by omega
 unfold pA
 rcases e0 with h | h | h | h | h
 ·rw [if_pos h];refine .inl ⟨h,?_,?_,rfl⟩<;>dsimp only<;>omega
 ·rw [if_neg (by omega),if_pos h];refine .inr (.inl ⟨h,?_,?_,rfl⟩)<;>dsimp only<;>omega
 ·rw [if_neg (by omega),if_neg (by omega),if_pos h];refine .inr (.inr (.inl ⟨h,?_,?_,?_,?_⟩))<;>dsimp only<;>omega
 ·rw [if_neg (by omega),if_neg (by omega),if_neg (by omega),if_pos h];refine .inr (.inr (.inr (.inl ⟨h,?_,?_,?_,?_⟩)))<;>dsimp only<;>omega
 ·rw [if_neg (by omega),if_neg (by omega),if_neg (by omega),if_neg (by omega)];exact .inr (.inr (.inr (.inr ⟨h,rfl,rfl⟩)))
theorem yZ (f:List (List oI)):lD (CG f):=by
 refine ⟨by unfold CG;simp;omega,fun l hl=>?_⟩
 obtain ⟨l',_,rfl⟩:=List.mem_map.1 hl
 refine ⟨by unfold k_;simp;omega,fun o ho=>?_⟩
 obtain ⟨o',_,rfl⟩:=List.mem_map.1 ho
 exact xf o'
theorem nQ {α β:Type} (f:α→β) {l:List α} {k:Nat} (hk:k<l.length):(l.take (k+1)).map f=(l.take k).map f++[f l[k]]:=by
 rw [List.take_add_one,zD hk,List.map_append];rfl
abbrev adS:Type:=((Int×Unit)×(((List (List oI))×Unit)×(Unit×(Unit×Unit))))
theorem NM {f:List (List oI)} (mN:∀l∈f,∀o∈l,0≤o.1) {i:Nat} (hi:i<f.length) (hi8:i<8) {out:List (List oI)} (ho:out.length=i) (v1:adS→Option (((List (List oI))×Unit)×Unit)) :
  loop (g.fF f (((i:Int),()),((out,()),((),((),())))) v1) ((0,()),(([],()),((),((),()))))=v1 ((((i+1:Nat):Int),()),(((out++[k_ f[i]]),()),((),((),())))):=by
 have hff:nth [] f (nN (i:Int))=f[i]:=fV hi
 have ei:ae IntKind.i64 (i:Int) 1=((i+1:Nat):Int):=by rw [aS (by omega)];omega
 generalize hl:f[i]=l at *
 have mN:=mN l (by rw [←hl];exact List.getElem_mem hi)
 refine (lR (fun k=>((((k:Nat):Int),()),((((l.take k).map pA,()),((),((),())))))) (fun _=>v1 ((((i+1:Nat):Int),()),(((out++[k_ l]),()),((),((),()))))) (min l.length 8) (by unfold kQ;omega) (fun K=>?_) (fun k hk=>.inr ⟨rfl,fun K=>?_⟩))
 ·have e8:(l.take (min l.length 8)).map pA=k_ l:=by
   unfold k_
   by_cases h:l.length≤8
   ·rw [Nat.min_eq_left h,List.take_length,za h]
   ·rw [Nat.min_eq_right (by omega)]
  rw [e8]
  unfold g.fF
  dsimp only
  rw [hff]
  by_cases h:l.length≤8
  ·rw [Nat.min_eq_left h]
   repeat refine HS ?_
   rw [ei];rfl
  ·rw [Nat.min_eq_right (by omega)]
   repeat refine HS ?_
   rw [ei];rfl
 ·have h1:k<l.length:=by omega
  have h2:k<8:=by omega
  have e:∀d,nth d l (nN (k:Int))=l[k]:=fun d=>fV h1
  have h0:=mN l[k] (List.getElem_mem h1)
  have ek:ae IntKind.i64 (k:Int) 1=((k+1:Nat):Int):=by rw [aS (by omega)];omega
  have hlen:((l.take k).map pA).length=k:=by simp;omega
  rw [nQ pA h1]
  generalize (l.take k).map pA=p at *
  unfold g.fF
  dsimp only
  rw [hff,e]
  generalize l[k]=o at *
  have er:cq o.1 5=o.1%5:=cJ h0
  have eA:bits BinOp.and IntKind.i64 o.2.1 63=o.2.1%64:=kR 6 (by omega) (by decide)
  have eB:bits BinOp.and IntKind.i64 o.2.1 7=o.2.1%8:=kR 3 (by omega) (by decide)
  have eC:bits BinOp.and IntKind.i64 o.2.2 7=o.2.2%8:=kR 3 (by omega) (by decide)
  have eD:cq (o.2.1%8) 6=o.2.1%8%6:=cJ (by omega)
  have eE:cq (o.2.2%8) 6=o.2.2%8%6:=cJ (by omega)
  rw [er,eA,eB,eC,eD,eE,ek]
  unfold pA
  by_cases c0:o.1%5=0
  ·rw [if_pos c0]
   repeat refine HS ?_
   rfl
  rw [if_neg c0]
  by_cases c1:o.1%5=1
  ·rw [if_pos c1]
   repeat refine HS ?_
   rfl
  rw [if_neg c1]
  by_cases c2:o.1%5=2
  ·rw [if_pos c2]
   repeat refine HS ?_
   rfl
  rw [if_neg c2]
  by_cases c3:o.1%5=3
  ·rw [if_pos c3]
   repeat refine HS ?_
   rfl
  rw [if_neg c3]
  repeat refine HS ?_
  rfl
theorem wm {f:List (List oI)} (mN:∀l∈f,∀o∈l,0≤o.1):g.g_ f=some ((CG f,()),()):=by
 unfold g.g_
 refine (lR (fun k=>((((k:Nat):Int),()),((((f.take k).map k_,()),((),((),())))))) (fun _=>some ((CG f,()),())) (min f.length 8) (by unfold kQ;omega) (fun K=>?_) (fun k hk=>.inr ⟨rfl,fun K=>?_⟩))
 ·have e8:(f.take (min f.length 8)).map k_=CG f:=by
   unfold CG
   by_cases h:f.length≤8
   ·rw [Nat.min_eq_left h,List.take_length,za h]
   ·rw [Nat.min_eq_right (by omega)]
  rw [e8]
  unfold g.ig
  dsimp only
  by_cases h:f.length≤8
  ·rw [Nat.min_eq_left h]
   by_cases h8:f.length=8
   ·repeat refine HS ?_
    rfl
   ·repeat refine HS ?_
    rfl
  ·rw [Nat.min_eq_right (by omega)]
   repeat refine HS ?_
   rfl
 ·have h1:k<f.length:=by omega
  have h2:k<8:=by omega
  have hlen:((f.take k).map k_).length=k:=by simp;omega
  rw [nQ k_ h1]
  unfold g.ig
  dsimp only
  repeat refine HS ?_
  exact NM mN h1 h2 hlen K
def qm (l:List q8):Prop:=∀c∈l,0≤c.2.1∧0≤c.2.2.1∧0≤c.2.2.2.1
theorem Ay (a b:Int):lW a b≤a∧lW a b≤b:=by unfold lW;split<;>omega
theorem Az {a b:Int} (h:0≤a) (h2:0≤b):0≤lW a b:=by unfold lW;split<;>omega
theorem Dy {α:Type} {x:α} {n:Nat} {l:List α} (h:x∈tk n (dr 0 l)):x∈l:=by
 have h:x∈List.take n (List.drop 0 l):=h
 rw [List.drop_zero] at h
 exact List.mem_of_mem_take h
set_option linter.unusedVariables false
set_option linter.unusedSimpArgs false
open Go.Bm Go.n6
theorem HH {c0:T1} {d0:T2} {a j n:Nat} (h:AR c0 d0 a j n) (bm w:Int) (h8:n≤131072):Ok (g.dZ a bm w c0 d0) (fun r=>AR c0 r.2.1 a j n):=by
 have hA:=h
 obtain ⟨h1,h2,l,h3,h4⟩:=h
 unfold g.dZ
 refine .bd (Q:=fun r=>r.1.1=true→0≤bm∧bm<8*(n:Int)) ?_ fun r hr=>.br (fun hb=>.some hA) fun hb=>?_
 ·unfold g.gx
  refine .br (fun e=>.d_ (bw h1) (.eT h3 (.br (fun e2=>.some fun _=>?_) fun _=>.some fun h=>nomatch h))) fun _=>.some fun h=>nomatch h
  have e:=Ar.1 e
  have e2:=df.1 e2
  rw [cK (by rw [eP,aI];omega),eP,aI] at e2
  omega
 ·have hr:=hr (ia.1 hb)
  have hq:mv .i64 bm 8=bm / 8:=dy (by omega)
  rw [hq]
  refine .d_ (bw h1) (.eT h3 (.gd (by rw [bx];omega) (.gd (by rw [bP,dc,aI];omega) (.eT h3 (.some (hA.put ?_))))))
  show (l.set _ _).length=n
  rw [zM];exact h4
theorem rF {x:Nat} {c0:tV} {c1:T1} {d0:T2} {a j n:Nat} {P F G} (hx:c0[x]?=some (P,(F,(some a,G)))) (h:AR c1 d0 a j n) (p s w:Int) (c2:qE) (c3:pQ):Ok (g.bg x p s w c0 c1 c2 c3 d0) (fun r=>AR c1 r.2.1 a j n):=by
 unfold g.bg g.iv
 refine .d_ (by rw [bw hx]) (.eT rfl (.bd (HH h _ _ h.2.1) fun r hr=>.some hr))
theorem BM (c:Int×(Int×(Int×Int))):Ok (g.fT c) (fun _=>True):=by
 unfold g.fT
 refine .oG (fun _=>True) (fun s _=>.oG (fun _=>True) (fun s _=>.oG (fun _=>True) (fun s _=>?_) fun k hk=>.br (fun _=>hk _ trivial) fun _=>hk _ trivial) fun k hk=>.br (fun _=>hk _ trivial) fun _=>hk _ trivial) fun k hk=>.br (fun _=>.some trivial) fun _=>.br (fun _=>.some trivial) fun _=>hk _ trivial
 exact .br (fun _=>.br (fun _=>.some trivial) fun _=>.some trivial) fun _=>.br (fun _=>.br (fun _=>.br (fun _=>.some trivial) fun _=>.some trivial) fun _=>.some trivial) fun _=>.br (fun _=>.br (fun _=>.some trivial) fun _=>.some trivial) fun _=>.some trivial
theorem D4 {x:Nat} {c0:tV} {c1:T1} {d0:T2} {a j n:Nat} {P F G} (hx:c0[x]?=some (P,(F,(some a,G)))) (h:AR c1 d0 a j n) (s:Int) (c:Int×(Int×(Int×Int))) (c2:qE) (c3:pQ):Ok (g.b9 x s c c0 c1 c2 c3 d0) (fun r=>AR c1 r.2.1 a j n):=by
 unfold g.b9
 refine .bd (Q:=fun _=>True) ?_ fun p _=>.bd (rF hx h _ _ _ _ _) fun r hr=>.some hr
 unfold g.iK
 exact .bd (BM c) fun _ _=>.br (fun _=>.some trivial) fun _=>.some trivial
theorem yn {n:Int} (hn:0≤n∧n≤131072) (d0:T1) (d1:T2):Ok (g.hJ n d0 d1) (fun r=>∃a j,r.1.1=some a∧AR r.2.1 r.2.2.1 a j (n / 8).toNat):=by
 unfold g.hJ
 have hq:mv .i64 n 8=n / 8:=dy (by omega)
 rw [hq]
 refine .gd (by rw [bx];omega) (.gd (by rw [cR,dc];omega) (.some ⟨d0.length,d1.length,rfl,?_,by omega,_,eJ,?_⟩))
 ·show (d0++[some d1.length])[d0.length]?=_
  rw [zJ (Nat.le_refl _),Nat.sub_self];rfl
 ·show (List.replicate _ _).length=_
  rw [List.length_replicate,dc]
theorem ym {a n:Int} (hn:0≤n∧n≤131072) (d0:qE) (d1:pQ):Ok (g.fJ a n d0 d1) (fun r=>∃x,r.1.1=some x):=by
 unfold g.fJ
 have hq:mv .i64 n 8=n / 8:=dy (by omega)
 rw [hq]
 have hd:∀d,nth d (cat d0 [(a,(some (len d1)))]) (len d0)=(a,some (len d1)):=fun d=>bw (by show (d0++[_])[d0.length]?=_;rw [zJ (Nat.le_refl _),Nat.sub_self];rfl)
 refine .gd (by rw [bx];omega) (.gd (by rw [cR,dc];omega) ?_)
 refine .loop (fun m z=>∃(i:Nat) (l:List Bool),z.1.1=(i:Int)∧i+m=(n / 8).toNat∧aT z.2.2.2.2.1 d1.length=some l∧l.length=(n / 8).toNat) (fun m z gg hI ih=>?_) (N:=(n / 8).toNat) (by unfold kQ;omega) ⟨0,_,rfl,by omega,eJ,?_⟩
 ·obtain ⟨i,l,h1,h2,h3,h4⟩:=hI
  unfold g.jR
  rw [hd,h1]
  refine .d_ rfl (.eT h3 (.br (fun e=>.d_ rfl (.eT h3 (.gd (by rw [bx];omega) (.gd ?_ (.eT h3 (ih (m-1) _ ?_ ⟨i+1,_,by show ae .i64 (i:Int) 1=_;rw [aS (by omega)];rfl,?_,bV h3,?_⟩)))))) fun e=>.some ⟨_,rfl⟩))
  ·have e:=df.1 e;rw [eP,aI] at e;rw [bP,dc,aI];omega
  ·have e:=df.1 e;rw [eP,aI] at e;omega
  ·have e:=df.1 e;rw [eP,aI] at e;omega
  ·show (l.set _ _).length=_
   rw [zM];exact h4
 ·show (List.replicate _ _).length=_
  rw [List.length_replicate,dc]
theorem yl {p:mC} (hp:eI p=true) (f:List (List oI)) (d0:tV) (d1:T1) (d2:T2) (d3:qE) (d4:pQ):Ok (g.g9 p f d0 d1 d2 d3 d4) (fun r=>∃x,r.1.1=some x):=by
 have UQ:=ev.1 hp
 unfold g.g9 g.iJ g.iI
 refine .eT rfl (.eT rfl ?_)
 have e1:cm .i64 64 p.1=64*p.1:=cK (by omega)
 have e2:ae .i64 (64*p.1) p.2.2.1=64*p.1+p.2.2.1:=aS (by omega)
 have e3:ae .i64 (64*p.1+p.2.2.1) p.2.2.2=64*p.1+p.2.2.1+p.2.2.2:=aS (by omega)
 dsimp only
 rw [e1,e2,e3]
 refine .bd (yn (by omega) d1 d2) fun r2 h2=>?_
 obtain ⟨a,j,k1,k2⟩:=h2
 refine .d_ k1 (.bd (ym (by omega) d3 d4) fun r4 h4=>?_)
 obtain ⟨x,k4⟩:=h4
 refine .d_ k4 ?_
 have hx:(cat d0 [(p,(f,(some a,some x)))])[len d0]?=some (p,(f,(some a,some x))):=by
  show (d0++[_])[d0.length]?=_
  rw [zJ (Nat.le_refl _),Nat.sub_self];rfl
 refine .bd (D4 hx k2 _ _ _ _) fun r hr=>?_
 unfold g.cH
 exact .eT rfl (.bd (rF hx hr _ _ _ _ _) fun r hr=>.bd (rF hx hr _ _ _ _ _) fun r hr=>.some ⟨_,rfl⟩)
set_option maxHeartbeats 4000000 in
theorem yk {p:mC} (hp:eI p=true) (f:List (List oI)) (l:List (List q8)) (hl:l.length≤1000) (c0:T7) (d0:zn) (d1:tV) (d2:T1) (d3:T2) (d4:qE) (d5:pQ) (d6:A_):Ok (g.fI p f l c0 d0 d1 d2 d3 d4 d5 d6) (fun r=>∃x,r.1.1=some x):=by
 have UQ:=ev.1 hp
 unfold g.fI
 refine .bd (yl hp f d1 d2 d3 d4 d5) fun r hr=>?_
 obtain ⟨x,hx⟩:=hr
 refine .d_ hx ?_
 refine .loop (fun m z=>∃(i:Nat) (w:Option Nat×(Option Nat×(Option Nat×Int))),z.1.1=(i:Int)∧i+m=p.2.1.toNat∧z.2.2.2.2.1[d0.length]?=some w∧((w.2.1=none∧i=0)∨∃j tl,w.2.1=some j∧aT z.2.2.2.2.2.1 j=some tl∧tl.length=i)) (fun m z gg hI ih=>?_) (N:=p.2.1.toNat) (by unfold kQ;omega) ⟨0,_,rfl,by omega,by show (d0++[_])[d0.length]?=_;rw [zJ (Nat.le_refl _),Nat.sub_self];rfl,.inl ⟨rfl,rfl⟩⟩
 obtain ⟨i,w,h1,h2,h3,h4⟩:=hI
 unfold g.ic
 rw [h1]
 have hd:∀d,nth d z.2.2.2.2.1 (len d0)=w:=fun d=>bw h3
 have G5:ae .i64 (i:Int) 1=((i+1:Nat):Int):=by rw [aS (by omega)];rfl
 have hu:∀d f,(ah d z.2.2.2.2.1 (len d0) f)[d0.length]?=some (f w):=fun d f=>by show (ah d z.2.2.2.2.1 d0.length f)[d0.length]?=_;rw [xX h3];exact kU h3 _
 refine .br (fun e=>?_) fun e=>.some ⟨_,rfl⟩
 have e:=df.1 e
 refine .oG (fun _=>True) (fun u _=>?_) fun k hk=>.br (fun e2=>.gd (by rw [bx];omega) (.gd (by have e2:=df.1 e2;rw [eP,aI] at e2;rw [bP,dc,aI];omega) (hk _ trivial))) fun _=>hk _ trivial
 rw [hd]
 rcases h4 with ⟨q1,q2⟩ | ⟨j,tl,q1,q2,q3⟩
 ·exact .yp q1 (.gd (by rw [cR];show 1≤_;omega) (ih (m-1) _ (by omega) ⟨i+1,(w.1,(some z.2.2.2.2.2.1.length,w.2.2)),G5,by omega,hu (none,(none,(none,0))) (fun r=>(r.1,(some z.2.2.2.2.2.1.length,r.2.2))),.inr ⟨_,_,rfl,eJ,by rw [q2];rfl⟩⟩))
 ·refine .d_ q1 (.eT q2 (.gd ?_ (.gd ?_ (ih (m-1) _ (by omega) ⟨i+1,(w.1,(some (upd z.2.2.2.2.2.1 j none).length,w.2.2)),G5,by omega,hu (none,(none,(none,0))) (fun r=>(r.1,(some (upd z.2.2.2.2.2.1 j none).length,r.2.2))),.inr ⟨_,_,rfl,eJ,?_⟩⟩))))
  ·rw [cR,aK];show tl.length+1≤_;omega
  ·rw [bP,aI];exact og q2
  ·show (tl++[_]).length=_
   rw [zY,q3];rfl
set_option linter.unusedVariables false
set_option linter.unusedSimpArgs false
open Go.Bm
set_option maxRecDepth 1000000
set_option maxHeartbeats 0
def TR:da:=⟨[(true,(.pair (.pair (.int .i64) (.pair (.int .i64) (.pair (.int .i64) (.int .i64)))) (.pair (.aF (.aF (.pair (.int .u8) (.pair (.int .i64) (.int .i64))))) (.aF (.aF (.pair (.int .u8) (.pair (.int .u8) (.pair (.int .u8) (.pair (.int .u8) (.pair (.int .i64) (.pair (.int .i64) (.int .i64))))))))))))],[(false,(.ptr 0)),(false,(.ptr 10))],[(7,R7),(17,R17)],[(0,R0),(1,R1),(2,R2),(3,R3),(4,R4),(5,R5),(6,R6),(8,R8),(9,R9),(10,Zh),(11,O7),(12,JA),(13,Jz),(14,OC),(15,Mo),(16,Zg)]⟩
def g.jB (a0:(U4×((List lI)×(List qo)))) (c0:T7) (c1:T7) (d0:T0) (d1:T1) (d2:T2) (d3:T3) (d4:T4) (d5:T5) (d6:T6) (d7:T2) (d8:T9) (d9:zn) (d10:tV) (d11:T1) (d12:T2) (d13:qE) (d14:pQ) (d15:A_) (v0:((U4×Unit)×Unit)) (k:(((Int×Unit)×(((List qo)×Unit)×nB))→(Option U7))) (s:((Int×Unit)×(((List qo)×Unit)×nB))):(Option U7):=(br (aQ s.1.1 (zN (len s.2.1.1))) (gd (bn s.1.1) (gd (bu (nN s.1.1) (len s.2.1.1)) (gd (bn s.1.1) (gd (bu (nN s.1.1) (len s.2.1.1)) (gd (bn (lW (zN (len (nth [] s.2.1.1 (nN s.1.1)))) 12)) (gd (bp 0 (nN (lW (zN (len (nth [] s.2.1.1 (nN s.1.1)))) 12))) (gd (bp (nN (lW (zN (len (nth [] s.2.1.1 (nN s.1.1)))) 12)) (len (nth [] s.2.1.1 (nN s.1.1)))) (gd (bn s.1.1) (gd (bu (nN s.1.1) (len s.2.1.1)) (k (((ae .i64 s.1.1 1),()),(((ah [] s.2.1.1 (nN s.1.1) (fun r0=>(tk (ay (nN (lW (zN (len r0)) 12)) 0) (dr 0 r0)))),()),((),((),())))))))))))))) (bd (g.g_ a0.2.1) (fun p1=>(bd (g.jb v0.1.1 p1.1.1 s.2.1.1 c0 d0 d1 d2 d3 d4 d5 d6 d7 d8) (fun p2=>(opt p2.1.1 (bd (g.fI v0.1.1 p1.1.1 s.2.1.1 c1 d9 d10 d11 d12 d13 d14 d15) (fun p3=>(opt p3.1.1 (some ((none,(none,())),(p2.2.1,(p2.2.2.1,(p2.2.2.2.1,(p2.2.2.2.2.1,(p2.2.2.2.2.2.1,(p2.2.2.2.2.2.2.1,(p2.2.2.2.2.2.2.2.1,(p2.2.2.2.2.2.2.2.2.1,(p2.2.2.2.2.2.2.2.2.2.1,p3.2))))))))))) (fun p4=>(some ((none,((some p4),())),(p2.2.1,(p2.2.2.1,(p2.2.2.2.1,(p2.2.2.2.2.1,(p2.2.2.2.2.2.1,(p2.2.2.2.2.2.2.1,(p2.2.2.2.2.2.2.2.1,(p2.2.2.2.2.2.2.2.2.1,(p2.2.2.2.2.2.2.2.2.2.1,p3.2))))))))))))))) (fun p5=>(bd (g.fI v0.1.1 p1.1.1 s.2.1.1 c1 d9 d10 d11 d12 d13 d14 d15) (fun p6=>(opt p6.1.1 (some (((some p5),(none,())),(p2.2.1,(p2.2.2.1,(p2.2.2.2.1,(p2.2.2.2.2.1,(p2.2.2.2.2.2.1,(p2.2.2.2.2.2.2.1,(p2.2.2.2.2.2.2.2.1,(p2.2.2.2.2.2.2.2.2.1,(p2.2.2.2.2.2.2.2.2.2.1,p6.2))))))))))) (fun p7=>(some (((some p5),((some p7),())),(p2.2.1,(p2.2.2.1,(p2.2.2.2.1,(p2.2.2.2.2.1,(p2.2.2.2.2.2.1,(p2.2.2.2.2.2.2.1,(p2.2.2.2.2.2.2.2.1,(p2.2.2.2.2.2.2.2.2.1,(p2.2.2.2.2.2.2.2.2.2.1,p6.2))))))))))))))))))))))
def g.jA (a0:(U4×((List lI)×(List qo)))) (v0:((U4×Unit)×Unit)) (v1:(Unit×(((List qo)×Unit)×nB))→(Option U7)) (k:(((Int×Unit)×(((List qo)×Unit)×nB))→(Option U7))) (s:((Int×Unit)×(((List qo)×Unit)×nB))):(Option U7):=(jn (fun (k0:(Unit×U2)→_)=>(br (aQ s.1.1 (zN (len a0.2.2))) (br (aQ s.1.1 v0.1.1.2.1) (k0 ((),((),((),((),()))))) (v1 ((),((s.2.1.1,()),((),((),())))))) (v1 ((),((s.2.1.1,()),((),((),()))))))) (fun (s1:(Unit×U2))=>(gd (bn s.1.1) (gd (bu (nN s.1.1) (len a0.2.2)) (gd (bn s.1.1) (gd (bu (nN s.1.1) (len a0.2.2)) (gd (bn (lW (zN (len (nth [] a0.2.2 (nN s.1.1)))) 64)) (gd (bp 0 (nN (lW (zN (len (nth [] a0.2.2 (nN s.1.1)))) 64))) (gd (bp (nN (lW (zN (len (nth [] a0.2.2 (nN s.1.1)))) 64)) (len (nth [] a0.2.2 (nN s.1.1)))) (gd (bp (aK (len s.2.1.1) (len [(tk (ay (nN (lW (zN (len (nth [] a0.2.2 (nN s.1.1)))) 64)) 0) (dr 0 (nth [] a0.2.2 (nN s.1.1))))])) 16777216) (k (((ae .i64 s.1.1 1),()),(((cat s.2.1.1 [(tk (ay (nN (lW (zN (len (nth [] a0.2.2 (nN s.1.1)))) 64)) 0) (dr 0 (nth [] a0.2.2 (nN s.1.1))))]),()),((),((),())))))))))))))))
def g.gF (a0:(U4×((List lI)×(List qo)))) (c0:T7) (c1:T7) (d0:T0) (d1:T1) (d2:T2) (d3:T3) (d4:T4) (d5:T5) (d6:T6) (d7:T2) (d8:T9) (d9:zn) (d10:tV) (d11:T1) (d12:T2) (d13:qE) (d14:pQ) (d15:A_):(Option U7):=(bd (g.hH a0.1) (fun p0=>(jn (fun (k1:(Unit×(((List qo)×Unit)×nB))→_)=>(loop (g.jA a0 p0 k1) ((0,()),(([],()),((),((),())))))) (fun (s6:(Unit×(((List qo)×Unit)×nB)))=>(loop (g.jB a0 c0 c1 d0 d1 d2 d3 d4 d5 d6 d7 d8 d9 d10 d11 d12 d13 d14 d15 p0) ((0,()),((s6.2.1.1,()),((),((),())))))))))
def F19:Plain TR:=fun x c d=>g.gF x.1 c.1 c.2.1 d.1 d.2.1 d.2.2.1 d.2.2.2.1 d.2.2.2.2.1 d.2.2.2.2.2.1 d.2.2.2.2.2.2.1 d.2.2.2.2.2.2.2.1 d.2.2.2.2.2.2.2.2.1 d.2.2.2.2.2.2.2.2.2.1 d.2.2.2.2.2.2.2.2.2.2.1 d.2.2.2.2.2.2.2.2.2.2.2.1 d.2.2.2.2.2.2.2.2.2.2.2.2.1 d.2.2.2.2.2.2.2.2.2.2.2.2.2.1 d.2.2.2.2.2.2.2.2.2.2.2.2.2.2.1 d.2.2.2.2.2.2.2.2.2.2.2.2.2.2.2.1
theorem adt:bj Tryz.prog 19 TR F19:=bD (ao X4 (ao adv (ao adu (ao adi (aH))))) fun x c d=>by kernel_rfl
set_option linter.unusedVariables false
set_option linter.unusedSimpArgs false
open Go.Bm Go.n6
def xI (c0:T7) (r:(Option Nat×(Option Nat×Unit))×(T0×(T1×(T2×(T3×(T4×(T5×(T6×(T2×(T9×(zn×(tV×(T1×(T2×(qE×(pQ×(A_×Unit))))))))))))))))):Prop:=
 ∃(p:mC) (ck:List (List q8)) (b y:Nat) (C:WC),eI p=true∧uz p ck∧r.1.1=some C.wi∧r.1.2.1=some y ∧
  WI 0 C (Yt p ck b) r.2.2.2.2.2.2.1 (r.2.1,(r.2.2.1,(r.2.2.2.1,(r.2.2.2.2.1,(r.2.2.2.2.2.1,(r.2.2.2.2.2.2.2.1,(c0,(r.2.2.2.2.2.2.2.2.1,(r.2.2.2.2.2.2.2.2.2.1,())))))))))
theorem Jn (a:mC×(List (List oI)×List (List q8))) (mN:∀l∈a.2.1,∀o∈l,0≤o.1) (sJ:∀l∈a.2.2,qm l) (c0 c1:T7) (d0:T0) (d1:T1) (d2:T2) (d3:T3) (d4:T4) (d5:T5) (d6:T6) (d7:T2) (d8:T9) (d9:zn) (d10:tV) (d11:T1) (d12:T2) (d13:qE) (d14:pQ) (d15:A_):Ok (g.gF a c0 c1 d0 d1 d2 d3 d4 d5 d6 d7 d8 d9 d10 d11 d12 d13 d14 d15) (xI c0):=by
 unfold g.gF
 have hp:=yX a.1
 have UQ:=ev.1 hp
 refine .eT (wo a.1) ?_
 generalize I7 a.1=p at *
 refine .oG (fun s=>(s.2.1.1.length:Int)≤p.2.1∧∀l∈s.2.1.1,l.length≤64∧qm l) (fun s hs=>?_) fun kk nH=>?_
 ·obtain ⟨s1,s2⟩:=hs
  refine .loop (fun m z=>∃k:Nat,z.1.1=(k:Int)∧z.2.1.1.length=s.2.1.1.length∧k+m=s.2.1.1.length∧∀l∈z.2.1.1,l.length≤64∧qm l) (fun m z gg hI ih=>?_) (N:=s.2.1.1.length) (by unfold kQ;omega) ⟨0,rfl,rfl,by omega,s2⟩
  obtain ⟨k,h1,h2,h3,h4⟩:=hI
  unfold g.jB
  rw [h1,fl]
  have ek:nN (k:Int)=k:=rfl
  refine .br (fun hb=>?_) fun hb=>?_
  ·have hb:=df.1 hb
   have hk:k<z.2.1.1.length:=by omega
   have hg:bu (nN (k:Int)) (len z.2.1.1):=by rw [bP,aI,ek];exact hk
   have en:∀d,nth d z.2.1.1 (nN (k:Int))=z.2.1.1[k]:=fun d=>fV hk
   have hx:ae .i64 (k:Int) 1=((k+1:Nat):Int):=by rw [aS (by omega)];rfl
   have hl:=h4 _ (List.getElem_mem hk)
   have hm:=Ay (zN (len z.2.1.1[k])) 12
   have wZ:0≤lW (zN (len z.2.1.1[k])) 12:=Az (by rw [fl];omega) (by omega)
   simp only [en]
   refine .gd (by rw [bx];omega) (.gd hg (.gd (by rw [bx];omega) (.gd hg (.gd (by rw [bx];exact wZ) (.gd (by rw [cR];exact Nat.zero_le _) (.gd ?_ (.gd (by rw [bx];omega) (.gd hg (ih (m-1) _ (by omega) ⟨k+1,hx,?_,by omega,?_⟩)))))))))
   ·rw [fl] at hm ⊢
    rw [cR,dc,aI];omega
   ·show (ah _ _ _ _).length=_
    rw [xX (show z.2.1.1[nN (k:Int)]?=some z.2.1.1[k] from zD hk),zM];exact h2
   ·show ∀l∈ah _ _ _ _,_
    rw [xX (show z.2.1.1[nN (k:Int)]?=some z.2.1.1[k] from zD hk)]
    intro l YY
    rcases List.mem_or_eq_of_mem_set YY with h | rfl
    ·exact h4 l h
    ·refine ⟨?_,fun c hc=>hl.2 c (Dy hc)⟩
     show (List.take _ (List.drop 0 _)).length≤64
     rw [List.length_take,List.drop_zero];omega
  ·have hq:uz p z.2.1.1:=⟨by rw [h2];exact s1,h4⟩
   have hlq:=hq.1
   refine .eT (wm mN) (.bd (OF hp (yZ _) hq _ _ _ _ _ _ _ _ _ _) fun r2 wX=>?_)
   obtain ⟨n1,n2,C,n3,n4,H⟩:=wX
   refine .d_ n1 (.bd (yk hp _ _ (by omega) _ _ _ _ _ _ _ _) fun r6 OQ=>?_)
   obtain ⟨y,hy⟩:=OQ
   exact .d_ hy (.some ⟨p,z.2.1.1,_,y,C,hp,hq,by rw [n3],rfl,H⟩)
 ·refine .loop (fun m z=>∃k:Nat,z.1.1=(k:Int)∧z.2.1.1.length=k∧(k:Int)≤p.2.1∧(k:Int)+m=p.2.1∧∀l∈z.2.1.1,l.length≤64∧qm l) (fun m z gg hI ih=>?_) (N:=p.2.1.toNat) (by unfold kQ;omega) ⟨0,rfl,rfl,by omega,by omega,fun l h=>nomatch h⟩
  obtain ⟨k,h1,h2,h3,h4,h5⟩:=hI
  have fin:∀b:Int×(Unit×(Unit×Unit)),Ok (kk ((),((z.2.1.1,()),((),((),()))))) (xI c0):=fun _=>nH _ ⟨by show (z.2.1.1.length:Int)≤p.2.1;rw [h2];exact h3,h5⟩
  unfold g.jA
  rw [h1]
  refine .oG (fun _=>(k:Int)<p.2.1∧k<a.2.2.length) (fun s hs=>?_) fun kk2 aa6=>.br (fun e=>.br (fun e2=>aa6 _ ⟨df.1 e2,by have:=df.1 e;rw [fl] at this;omega⟩) fun _=>fin (0,((),((),())))) fun _=>fin (0,((),((),())))
  obtain ⟨Nl,hs⟩:=hs
  have ek:nN (k:Int)=k:=rfl
  have hg:bu (nN (k:Int)) (len a.2.2):=by rw [bP,aI,ek];exact hs
  have en:∀d,nth d a.2.2 (nN (k:Int))=a.2.2[k]:=fun d=>fV hs
  have hx:ae .i64 (k:Int) 1=((k+1:Nat):Int):=by rw [aS (by omega)];rfl
  have hm:=Ay (zN (len a.2.2[k])) 64
  have wZ:0≤lW (zN (len a.2.2[k])) 64:=Az (by rw [fl];omega) (by omega)
  simp only [en]
  refine .gd (by rw [bx];omega) (.gd hg (.gd (by rw [bx];omega) (.gd hg (.gd (by rw [bx];exact wZ) (.gd (by rw [cR];exact Nat.zero_le _) (.gd ?_ (.gd ?_ (ih (m-1) _ (by omega) ⟨k+1,hx,?_,by omega,by omega,?_⟩))))))))
  ·rw [fl] at hm ⊢
   rw [cR,dc,aI];omega
  ·rw [cR];show len z.2.1.1+1≤_;rw [aI];omega
  ·show (z.2.1.1++[_]).length=_
   rw [zY,h2];rfl
  ·intro l hl
   rcases zX.1 hl with h | h
   ·exact h5 l h
   ·rw [zF] at h
    subst h
    refine ⟨?_,fun c hc=>sJ _ (List.getElem_mem hs) c (Dy hc)⟩
    show (List.take _ (List.drop 0 _)).length≤64
    rw [List.length_take,List.drop_zero]
    have:ay (nN (lW (zN (len a.2.2[k])) 64)) 0≤64:=by show nN _-0≤64;rw [dc];omega
    omega
set_option linter.unusedVariables false
open Go.Bm
set_option maxRecDepth 1000000
set_option maxHeartbeats 0
def e.gK (L:g4) (J:g5) (a0:Int) (a1:Int):(Option (ja×Unit)):=(br (aQ a1 1) (some ((0,(1,())),())) (gd (IB a1) (br (aQ (cq a0 a1) 0) (some (((ae IntKind.i64 (cq a0 a1) a1),(0,())),())) (some (((cq a0 a1),(0,())),())))))
def e.ab (L:g4) (J:g5) (a0:Int) (a1:Int) (a2:Int):mF:=(br (cP a1 a0) (some (((cP a0 a2),()),())) (some ((false,()),())))
def e.fh (L:g4) (J:g5) (a0:U4):mF:=(bd (e.ab L J a0.1 1 8) (fun p0=>(br p0.1.1 (bd (e.ab L J a0.2.1 1 4) (fun p1=>(br p1.1.1 (bd (e.ab L J a0.2.2.1 0 2048) (fun p2=>(br p2.1.1 (bd (e.ab L J a0.2.2.2 0 8192) (fun p3=>(br p3.1.1 (some (((ak (cq (bits BinOp.or IntKind.i64 a0.2.2.1 a0.2.2.2) 8) 0),()),())) (some ((false,()),()))))) (some ((false,()),()))))) (some ((false,()),()))))) (some ((false,()),())))))
def e.h_ (L:g4) (J:g5) (a0:(List lI)) (v0:gE) (v1:gE→mF) (k:(gE→mF)) (s:gE):mF:=(br (aQ s.1.1 (zN (len (nth [] a0 (nN v0.1.1))))) (gd (bn s.1.1) (gd (bu (nN s.1.1) (len (nth [] a0 (nN v0.1.1)))) (br (cP 5 (cS IntKind.i64 (nth (0,(0,0)) (nth [] a0 (nN v0.1.1)) (nN s.1.1)).1)) (some ((false,()),())) (br (ak (nth (0,(0,0)) (nth [] a0 (nN v0.1.1)) (nN s.1.1)).1 0) (bd (e.ab L J (nth (0,(0,0)) (nth [] a0 (nN v0.1.1)) (nN s.1.1)).2.1 0 99) (fun p0=>(br (az p0.1.1) (some ((false,()),())) (br (ak (nth (0,(0,0)) (nth [] a0 (nN v0.1.1)) (nN s.1.1)).1 0) (bd (e.ab L J (nth (0,(0,0)) (nth [] a0 (nN v0.1.1)) (nN s.1.1)).2.2 0 0) (fun p1=>(br (az p1.1.1) (some ((false,()),())) (k (((ae IntKind.i64 s.1.1 1),()),((),((),((),())))))))) (br (ak (nth (0,(0,0)) (nth [] a0 (nN v0.1.1)) (nN s.1.1)).1 1) (bd (e.ab L J (nth (0,(0,0)) (nth [] a0 (nN v0.1.1)) (nN s.1.1)).2.2 0 0) (fun p2=>(br (az p2.1.1) (some ((false,()),())) (k (((ae IntKind.i64 s.1.1 1),()),((),((),((),())))))))) (br (ak (nth (0,(0,0)) (nth [] a0 (nN v0.1.1)) (nN s.1.1)).1 2) (bd (e.ab L J (nth (0,(0,0)) (nth [] a0 (nN v0.1.1)) (nN s.1.1)).2.2 0 5) (fun p3=>(br (az p3.1.1) (some ((false,()),())) (k (((ae IntKind.i64 s.1.1 1),()),((),((),((),())))))))) (br (ak (nth (0,(0,0)) (nth [] a0 (nN v0.1.1)) (nN s.1.1)).1 3) (bd (e.ab L J (nth (0,(0,0)) (nth [] a0 (nN v0.1.1)) (nN s.1.1)).2.2 0 8) (fun p4=>(br (az p4.1.1) (some ((false,()),())) (k (((ae IntKind.i64 s.1.1 1),()),((),((),((),())))))))) (br (ak (nth (0,(0,0)) (nth [] a0 (nN v0.1.1)) (nN s.1.1)).1 4) (bd (e.ab L J (nth (0,(0,0)) (nth [] a0 (nN v0.1.1)) (nN s.1.1)).2.2 0 0) (fun p5=>(br (az p5.1.1) (some ((false,()),())) (k (((ae IntKind.i64 s.1.1 1),()),((),((),((),())))))))) none)))))))) (br (ak (nth (0,(0,0)) (nth [] a0 (nN v0.1.1)) (nN s.1.1)).1 1) (bd (e.ab L J (nth (0,(0,0)) (nth [] a0 (nN v0.1.1)) (nN s.1.1)).2.1 0 5) (fun p6=>(br (az p6.1.1) (some ((false,()),())) (br (ak (nth (0,(0,0)) (nth [] a0 (nN v0.1.1)) (nN s.1.1)).1 0) (bd (e.ab L J (nth (0,(0,0)) (nth [] a0 (nN v0.1.1)) (nN s.1.1)).2.2 0 0) (fun p7=>(br (az p7.1.1) (some ((false,()),())) (k (((ae IntKind.i64 s.1.1 1),()),((),((),((),())))))))) (br (ak (nth (0,(0,0)) (nth [] a0 (nN v0.1.1)) (nN s.1.1)).1 1) (bd (e.ab L J (nth (0,(0,0)) (nth [] a0 (nN v0.1.1)) (nN s.1.1)).2.2 0 0) (fun p8=>(br (az p8.1.1) (some ((false,()),())) (k (((ae IntKind.i64 s.1.1 1),()),((),((),((),())))))))) (br (ak (nth (0,(0,0)) (nth [] a0 (nN v0.1.1)) (nN s.1.1)).1 2) (bd (e.ab L J (nth (0,(0,0)) (nth [] a0 (nN v0.1.1)) (nN s.1.1)).2.2 0 5) (fun p9=>(br (az p9.1.1) (some ((false,()),())) (k (((ae IntKind.i64 s.1.1 1),()),((),((),((),())))))))) (br (ak (nth (0,(0,0)) (nth [] a0 (nN v0.1.1)) (nN s.1.1)).1 3) (bd (e.ab L J (nth (0,(0,0)) (nth [] a0 (nN v0.1.1)) (nN s.1.1)).2.2 0 8) (fun gI=>(br (az gI.1.1) (some ((false,()),())) (k (((ae IntKind.i64 s.1.1 1),()),((),((),((),())))))))) (br (ak (nth (0,(0,0)) (nth [] a0 (nN v0.1.1)) (nN s.1.1)).1 4) (bd (e.ab L J (nth (0,(0,0)) (nth [] a0 (nN v0.1.1)) (nN s.1.1)).2.2 0 0) (fun kV=>(br (az kV.1.1) (some ((false,()),())) (k (((ae IntKind.i64 s.1.1 1),()),((),((),((),())))))))) none)))))))) (br (ak (nth (0,(0,0)) (nth [] a0 (nN v0.1.1)) (nN s.1.1)).1 2) (bd (e.ab L J (nth (0,(0,0)) (nth [] a0 (nN v0.1.1)) (nN s.1.1)).2.1 0 5) (fun cA=>(br (az cA.1.1) (some ((false,()),())) (br (ak (nth (0,(0,0)) (nth [] a0 (nN v0.1.1)) (nN s.1.1)).1 0) (bd (e.ab L J (nth (0,(0,0)) (nth [] a0 (nN v0.1.1)) (nN s.1.1)).2.2 0 0) (fun cb=>(br (az cb.1.1) (some ((false,()),())) (k (((ae IntKind.i64 s.1.1 1),()),((),((),((),())))))))) (br (ak (nth (0,(0,0)) (nth [] a0 (nN v0.1.1)) (nN s.1.1)).1 1) (bd (e.ab L J (nth (0,(0,0)) (nth [] a0 (nN v0.1.1)) (nN s.1.1)).2.2 0 0) (fun iB=>(br (az iB.1.1) (some ((false,()),())) (k (((ae IntKind.i64 s.1.1 1),()),((),((),((),())))))))) (br (ak (nth (0,(0,0)) (nth [] a0 (nN v0.1.1)) (nN s.1.1)).1 2) (bd (e.ab L J (nth (0,(0,0)) (nth [] a0 (nN v0.1.1)) (nN s.1.1)).2.2 0 5) (fun dI=>(br (az dI.1.1) (some ((false,()),())) (k (((ae IntKind.i64 s.1.1 1),()),((),((),((),())))))))) (br (ak (nth (0,(0,0)) (nth [] a0 (nN v0.1.1)) (nN s.1.1)).1 3) (bd (e.ab L J (nth (0,(0,0)) (nth [] a0 (nN v0.1.1)) (nN s.1.1)).2.2 0 8) (fun eZ=>(br (az eZ.1.1) (some ((false,()),())) (k (((ae IntKind.i64 s.1.1 1),()),((),((),((),())))))))) (br (ak (nth (0,(0,0)) (nth [] a0 (nN v0.1.1)) (nN s.1.1)).1 4) (bd (e.ab L J (nth (0,(0,0)) (nth [] a0 (nN v0.1.1)) (nN s.1.1)).2.2 0 0) (fun gy=>(br (az gy.1.1) (some ((false,()),())) (k (((ae IntKind.i64 s.1.1 1),()),((),((),((),())))))))) none)))))))) (br (ak (nth (0,(0,0)) (nth [] a0 (nN v0.1.1)) (nN s.1.1)).1 3) (bd (e.ab L J (nth (0,(0,0)) (nth [] a0 (nN v0.1.1)) (nN s.1.1)).2.1 0 5) (fun fL=>(br (az fL.1.1) (some ((false,()),())) (br (ak (nth (0,(0,0)) (nth [] a0 (nN v0.1.1)) (nN s.1.1)).1 0) (bd (e.ab L J (nth (0,(0,0)) (nth [] a0 (nN v0.1.1)) (nN s.1.1)).2.2 0 0) (fun kF=>(br (az kF.1.1) (some ((false,()),())) (k (((ae IntKind.i64 s.1.1 1),()),((),((),((),())))))))) (br (ak (nth (0,(0,0)) (nth [] a0 (nN v0.1.1)) (nN s.1.1)).1 1) (bd (e.ab L J (nth (0,(0,0)) (nth [] a0 (nN v0.1.1)) (nN s.1.1)).2.2 0 0) (fun dT=>(br (az dT.1.1) (some ((false,()),())) (k (((ae IntKind.i64 s.1.1 1),()),((),((),((),())))))))) (br (ak (nth (0,(0,0)) (nth [] a0 (nN v0.1.1)) (nN s.1.1)).1 2) (bd (e.ab L J (nth (0,(0,0)) (nth [] a0 (nN v0.1.1)) (nN s.1.1)).2.2 0 5) (fun mu=>(br (az mu.1.1) (some ((false,()),())) (k (((ae IntKind.i64 s.1.1 1),()),((),((),((),())))))))) (br (ak (nth (0,(0,0)) (nth [] a0 (nN v0.1.1)) (nN s.1.1)).1 3) (bd (e.ab L J (nth (0,(0,0)) (nth [] a0 (nN v0.1.1)) (nN s.1.1)).2.2 0 8) (fun jh=>(br (az jh.1.1) (some ((false,()),())) (k (((ae IntKind.i64 s.1.1 1),()),((),((),((),())))))))) (br (ak (nth (0,(0,0)) (nth [] a0 (nN v0.1.1)) (nN s.1.1)).1 4) (bd (e.ab L J (nth (0,(0,0)) (nth [] a0 (nN v0.1.1)) (nN s.1.1)).2.2 0 0) (fun fk=>(br (az fk.1.1) (some ((false,()),())) (k (((ae IntKind.i64 s.1.1 1),()),((),((),((),())))))))) none)))))))) (br (ak (nth (0,(0,0)) (nth [] a0 (nN v0.1.1)) (nN s.1.1)).1 4) (bd (e.ab L J (nth (0,(0,0)) (nth [] a0 (nN v0.1.1)) (nN s.1.1)).2.1 0 0) (fun jX=>(br (az jX.1.1) (some ((false,()),())) (br (ak (nth (0,(0,0)) (nth [] a0 (nN v0.1.1)) (nN s.1.1)).1 0) (bd (e.ab L J (nth (0,(0,0)) (nth [] a0 (nN v0.1.1)) (nN s.1.1)).2.2 0 0) (fun fq=>(br (az fq.1.1) (some ((false,()),())) (k (((ae IntKind.i64 s.1.1 1),()),((),((),((),())))))))) (br (ak (nth (0,(0,0)) (nth [] a0 (nN v0.1.1)) (nN s.1.1)).1 1) (bd (e.ab L J (nth (0,(0,0)) (nth [] a0 (nN v0.1.1)) (nN s.1.1)).2.2 0 0) (fun eN=>(br (az eN.1.1) (some ((false,()),())) (k (((ae IntKind.i64 s.1.1 1),()),((),((),((),())))))))) (br (ak (nth (0,(0,0)) (nth [] a0 (nN v0.1.1)) (nN s.1.1)).1 2) (bd (e.ab L J (nth (0,(0,0)) (nth [] a0 (nN v0.1.1)) (nN s.1.1)).2.2 0 5) (fun mr=>(br (az mr.1.1) (some ((false,()),())) (k (((ae IntKind.i64 s.1.1 1),()),((),((),((),())))))))) (br (ak (nth (0,(0,0)) (nth [] a0 (nN v0.1.1)) (nN s.1.1)).1 3) (bd (e.ab L J (nth (0,(0,0)) (nth [] a0 (nN v0.1.1)) (nN s.1.1)).2.2 0 8) (fun mD=>(br (az mD.1.1) (some ((false,()),())) (k (((ae IntKind.i64 s.1.1 1),()),((),((),((),())))))))) (br (ak (nth (0,(0,0)) (nth [] a0 (nN v0.1.1)) (nN s.1.1)).1 4) (bd (e.ab L J (nth (0,(0,0)) (nth [] a0 (nN v0.1.1)) (nN s.1.1)).2.2 0 0) (fun jS=>(br (az jS.1.1) (some ((false,()),())) (k (((ae IntKind.i64 s.1.1 1),()),((),((),((),())))))))) none)))))))) none)))))))) (br (aQ 8 (zN (len (nth [] a0 (nN v0.1.1))))) (some ((false,()),())) (v1 (((ae IntKind.i64 v0.1.1 1),()),((),((),((),())))))))
def e.iP (L:g4) (J:g5) (a0:(List lI)) (k:(gE→mF)) (s:gE):mF:=(br (aQ s.1.1 (zN (len a0))) (gd (bn s.1.1) (gd (bu (nN s.1.1) (len a0)) (L _ _ (e.h_ L J a0 s k) ((0,()),((),((),((),()))))))) (some (((cP (zN (len a0)) 8),()),())))
def e.ke (L:g4) (J:g5) (a0:(List lI)):mF:=(L _ _ (e.iP L J a0) ((0,()),((),((),((),())))))
def e.bS (L:g4) (J:g5) (a0:U4):(Option (((Int×Int)×(Int×Unit))×Unit)):=(bd (e.fh L J a0) (fun p0=>(br (az p0.1.1) (some (((0,0),(1,())),())) (some ((((cm IntKind.i64 a0.1 64),a0.2.2.1),(0,())),())))))
def e.gq (L:g4) (J:g5) (a0:U4):(Option (((Int×Int)×(Int×Unit))×Unit)):=(bd (e.bS L J a0) (fun p0=>(br (az (ak p0.1.2.1 0)) (some (((0,0),(p0.1.2.1,())),())) (some ((((ae IntKind.i64 p0.1.1.1 p0.1.1.2),a0.2.2.2),(0,())),())))))
def e.j9 (L:g4) (J:g5) (a0:U4):(Option (ja×Unit)):=(bd (e.gq L J a0) (fun p0=>(some (((ae IntKind.i64 p0.1.1.1 p0.1.1.2),(p0.1.2.1,())),()))))
def e.kg (L:g4) (J:g5) (a0:Int) (d0:T1) (d1:T2):(Option (((Option Nat)×(Int×Unit))×(T1×(T2×Unit)))):=(bd (e.ab L J a0 0 65536) (fun p0=>(br (az p0.1.1) (some ((none,(1,())),(d0,(d1,())))) (br (az (ak (cq a0 8) 0)) (some ((none,(1,())),(d0,(d1,())))) (gd (bn a0) (gd (bp (nN a0) 16777216) (some (((some (len d0)),(0,())),((cat d0 [(some (len d1))]),((cat d1 [(some (rep (α:=Int) (nN a0) 0))]),()))))))))))
def e.fX (L:g4) (J:g5) (a0:Int) (a1:Int) (d0:T3) (d1:T4):(Option (((Option Nat)×(Int×Unit))×m8)):=(J _ _ (fun (k0:(Unit×U2)→_)=>(bd (e.ab L J a0 0 65536) (fun p1=>(br (az p1.1.1) (some ((none,(1,())),(d0,(d1,())))) (bd (e.ab L J a1 0 65536) (fun p2=>(br (az p2.1.1) (some ((none,(1,())),(d0,(d1,())))) (br (az (ak (cq (bits BinOp.or IntKind.i64 a0 a1) 8) 0)) (some ((none,(1,())),(d0,(d1,())))) (k0 ((),((),((),((),()))))))))))))) (fun (s3:(Unit×U2))=>(br (aQ 0 a1) (some (((some (len d0)),(0,())),((ah (0,(0,none)) (cat d0 [(a0,((ae IntKind.i64 a0 a1),none))]) (len d0) (fun r5=>(r5.1,(r5.2.1,(some (len d1)))))),((cat d1 [(some [(a0,a1)])]),())))) (some (((some (len d0)),(0,())),((cat d0 [(a0,((ae IntKind.i64 a0 a1),none))]),(d1,())))))))
def e.db (L:g4) (J:g5) (a0:U4) (a1:Int) (a2:Int):(Option (ja×Unit)):=(J _ _ (fun (k0:iV→_)=>(bd (e.fh L J a0) (fun p1=>(br (az p1.1.1) (k0 ((true,()),((),((),((),()))))) (bd (e.ab L J a1 0 4) (fun p2=>(k0 (((az p2.1.1),()),((),((),((),()))))))))))) (fun (s3:iV)=>(br s3.1.1 (some ((0,(1,())),())) (bd (e.ab L J a2 0 (aE IntKind.i64 a0.1 1)) (fun p4=>(br (az p4.1.1) (some ((0,(2,())),())) (some (((ae IntKind.i64 (cm IntKind.i64 a2 64) (cm IntKind.i64 a1 8)),(0,())),()))))))))
def e.cN (L:g4) (J:g5) (a0:Nat) (a1:Int) (c0:T1) (c1:T2):mF:=(opt (nth none c0 a0) (bd (e.ab L J a1 0 (-8)) (fun p0=>(br p0.1.1 (some (((ak (cq a1 8) 0),()),())) (some ((false,()),()))))) (fun p1=>(bd (aT c1 p1) (fun p2=>(bd (e.ab L J a1 0 (aE IntKind.i64 (zN (len p2)) 8)) (fun p3=>(br p3.1.1 (some (((ak (cq a1 8) 0),()),())) (some ((false,()),())))))))))
def e.fZ (L:g4) (J:g5) (a0:Nat) (a1:Int) (a2:Int) (c0:T1) (k:(((Int×Unit)×(Unit×(Unit×(Unit×(T2×Unit)))))→(Option ((Int×Unit)×(T2×Unit))))) (s:((Int×Unit)×(Unit×(Unit×(Unit×(T2×Unit)))))):(Option ((Int×Unit)×(T2×Unit))):=(br (aQ s.1.1 8) (opt (nth none c0 a0) (gd (bn (cm IntKind.i64 8 s.1.1)) none) (fun p0=>(gd (bn (cm IntKind.i64 8 s.1.1)) (bd (aT s.2.2.2.2.1 p0) (fun p1=>(gd (bn (ae IntKind.i64 a1 s.1.1)) (gd (bu (nN (ae IntKind.i64 a1 s.1.1)) (len p1)) (bd (aT s.2.2.2.2.1 p0) (fun p2=>(k (((ae IntKind.i64 s.1.1 1),()),((),((),((),((upd s.2.2.2.2.1 p0 (some (upd p2 (nN (ae IntKind.i64 a1 s.1.1)) (cS IntKind.u8 (j0 IntKind.u64 a2 (cm IntKind.i64 8 s.1.1)))))),()))))))))))))))) (some ((0,()),(s.2.2.2.2.1,()))))
def e.aZ (L:g4) (J:g5) (a0:Nat) (a1:Int) (a2:Int) (c0:T1) (d0:T2):(Option ((Int×Unit)×(T2×Unit))):=(bd (e.cN L J a0 a1 c0 d0) (fun p0=>(br (az p0.1.1) (some ((1,()),(d0,()))) (L _ _ (e.fZ L J a0 a1 a2 c0) ((0,()),((),((),((),(d0,())))))))))
def e.aD (L:g4) (J:g5) (a0:((Option Nat)×(U4×Int))) (a1:Int) (a2:Int) (c0:T1) (d0:T2):(Option (Unit×(T2×Unit))):=(bd (e.db L J a0.2.1 a1 a0.2.2) (fun p0=>(opt a0.1 none (fun p1=>(bd (e.aZ L J p1 p0.1.1 a2 c0 d0) (fun p2=>(some ((),(p2.2.1,())))))))))
def e.lG (L:g4) (J:g5) (a0:Int):pP:=(J _ _ (fun (k0:iV→_)=>(br (ak a0 0) (k0 ((true,()),((),((),((),()))))) (k0 (((ak a0 1),()),((),((),((),()))))))) (fun (s1:iV)=>(br s1.1.1 (some ((0,()),())) (br (ak a0 2) (some ((1,()),())) (br (ak a0 3) (some ((2,()),())) (some (((-1),()),())))))))
def e.fM (L:g4) (J:g5) (a0:U4):mF:=(bd (e.ab L J a0.2.2.2 0 16777215) (fun p0=>(br (az p0.1.1) (some ((false,()),())) (bd (e.lG L J a0.1) (fun p1=>(br (ak p1.1.1 0) (br (ak a0.2.1 0) (some (((ak a0.2.2.1 (-1)),()),())) (some ((false,()),()))) (br (ak p1.1.1 1) (bd (e.ab L J a0.2.1 1 7) (fun p2=>(br p2.1.1 (bd (e.ab L J a0.2.2.1 (-1) 7) (fun p3=>(some ((p3.1.1,()),())))) (some ((false,()),()))))) (br (ak p1.1.1 2) (br (ak a0.2.1 0) (bd (e.ab L J a0.2.2.1 (-1) 7) (fun p4=>(some ((p4.1.1,()),())))) (some ((false,()),()))) (some ((false,()),()))))))))))
def e.gY (L:g4) (J:g5) (a0:U4):(Option (ja×Unit)):=(bd (e.fM L J a0) (fun p0=>(br (az p0.1.1) (some ((0,(1,())),())) (some (((bits BinOp.or IntKind.u64 (bits BinOp.or IntKind.u64 (bits BinOp.or IntKind.u64 (cS IntKind.u64 a0.1) (lU IntKind.u64 (cS IntKind.u64 a0.2.1) 2)) (lU IntKind.u64 (cS IntKind.u64 (ae IntKind.i64 a0.2.2.1 1)) 10)) (lU IntKind.u64 (cS IntKind.u64 a0.2.2.2) 18)),(0,())),())))))
def e.bF (L:g4) (J:g5) (a0:((Option Nat)×(U4×Int))) (a1:U4) (c0:T1) (d0:T2):(Option (Unit×(T2×Unit))):=(bd (e.gY L J a1) (fun p0=>(bd (e.aD L J a0 0 p0.1.1 c0 d0) (fun p1=>(some ((),(p1.2.1,())))))))
def e.kc (L:g4) (J:g5) (a0:U4) (d0:T1) (d1:T2) (d2:T3) (d3:T4):(Option (((Option Nat)×((Option Nat)×(Int×Unit)))×(T1×(T2×m8)))):=(bd (e.j9 L J a0) (fun p0=>(br (az (ak p0.1.2.1 0)) (some ((none,(none,(p0.1.2.1,()))),(d0,(d1,(d2,(d3,())))))) (bd (e.kg L J p0.1.1 d0 d1) (fun p1=>(opt p1.1.1 (bd (e.gq L J a0) (fun p2=>(bd (e.fX L J p2.1.1.1 p2.1.1.2 d2 d3) (fun p3=>(opt p3.1.1 (bd (e.bS L J a0) (fun p4=>(bd (e.bF L J (none,(a0,0)) (2,(1,((-1),0))) p1.2.1 p1.2.2.1) (fun p5=>(bd (e.aD L J (none,(a0,0)) 1 (cS IntKind.u64 p4.1.1.1) p1.2.1 p5.2.1) (fun p6=>(bd (e.aD L J (none,(a0,0)) 2 (cS IntKind.u64 p4.1.1.2) p1.2.1 p6.2.1) (fun p7=>(some ((none,(none,(0,()))),(p1.2.1,(p7.2.1,(p3.2.1,(p3.2.2.1,())))))))))))))) (fun p8=>(bd (e.bS L J a0) (fun p9=>(bd (e.bF L J (none,(a0,0)) (2,(1,((-1),0))) p1.2.1 p1.2.2.1) (fun gI=>(bd (e.aD L J (none,(a0,0)) 1 (cS IntKind.u64 p9.1.1.1) p1.2.1 gI.2.1) (fun kV=>(bd (e.aD L J (none,(a0,0)) 2 (cS IntKind.u64 p9.1.1.2) p1.2.1 kV.2.1) (fun cA=>(some ((none,((some p8),(0,()))),(p1.2.1,(cA.2.1,(p3.2.1,(p3.2.2.1,())))))))))))))))))))) (fun cb=>(bd (e.gq L J a0) (fun iB=>(bd (e.fX L J iB.1.1.1 iB.1.1.2 d2 d3) (fun dI=>(opt dI.1.1 (bd (e.bS L J a0) (fun eZ=>(bd (e.bF L J ((some cb),(a0,0)) (2,(1,((-1),0))) p1.2.1 p1.2.2.1) (fun gy=>(bd (e.aD L J ((some cb),(a0,0)) 1 (cS IntKind.u64 eZ.1.1.1) p1.2.1 gy.2.1) (fun fL=>(bd (e.aD L J ((some cb),(a0,0)) 2 (cS IntKind.u64 eZ.1.1.2) p1.2.1 fL.2.1) (fun kF=>(some (((some cb),(none,(0,()))),(p1.2.1,(kF.2.1,(dI.2.1,(dI.2.2.1,())))))))))))))) (fun dT=>(bd (e.bS L J a0) (fun mu=>(bd (e.bF L J ((some cb),(a0,0)) (2,(1,((-1),0))) p1.2.1 p1.2.2.1) (fun jh=>(bd (e.aD L J ((some cb),(a0,0)) 1 (cS IntKind.u64 mu.1.1.1) p1.2.1 jh.2.1) (fun fk=>(bd (e.aD L J ((some cb),(a0,0)) 2 (cS IntKind.u64 mu.1.1.2) p1.2.1 fk.2.1) (fun jX=>(some (((some cb),((some dT),(0,()))),(p1.2.1,(jX.2.1,(dI.2.1,(dI.2.2.1,())))))))))))))))))))))))))))
def e.eW (L:g4) (J:g5) (a0:lI):(Option ((lI×Unit)×Unit)):=(gd (bp (aK 0 (len a0)) 16777216) (some (((cat [] a0),()),())))
def e.gp (L:g4) (J:g5) (a0:qo):(Option ((qo×Unit)×Unit)):=(gd (bp (aK 0 (len a0)) 16777216) (some (((cat [] a0),()),())))
def e.jV (L:g4) (J:g5) (a0:U4) (a2:(List qo)) (d0:T0) (v0:(((Option Nat)×((Option Nat)×(Int×Unit)))×(T1×(T2×m8)))) (v1:((Int×Unit)×(Unit×(Unit×(Unit×(T0×(T9×Unit))))))) (k:(((Int×Unit)×(Unit×(Unit×(Unit×(T0×(T5×(T6×(T2×Unit))))))))→xR)) (s:((Int×Unit)×(Unit×(Unit×(Unit×(T0×(T5×(T6×(T2×Unit))))))))):xR:=(br (aQ s.1.1 a0.2.1) (J _ _ (fun (k0:(Unit×(Unit×(Unit×(Unit×(T6×Unit)))))→_)=>(br (aQ s.1.1 (zN (len a2))) (gd (bn s.1.1) (gd (bu (nN s.1.1) (len a2)) (bd (e.gp L J (nth [] a2 (nN s.1.1))) (fun p1=>(k0 ((),((),((),((),((ah aG (cat s.2.2.2.2.2.2.1 [([],((some (len s.2.2.2.2.2.2.2.1)),([],(((0,(0,(0,(0,(0,(0,0)))))),(0,(0,(0,(0,([],(0,(0,(0,(0,([],(0,([],(0,(false,(false,(false,(0,(0,[]))))))))))))))))))),(false,0)))))]) (len s.2.2.2.2.2.2.1) (fun r2=>(p1.1.1,r2.2))),())))))))))) (k0 ((),((),((),((),((cat s.2.2.2.2.2.2.1 [([],((some (len s.2.2.2.2.2.2.2.1)),([],(((0,(0,(0,(0,(0,(0,0)))))),(0,(0,(0,(0,([],(0,(0,(0,(0,([],(0,([],(0,(false,(false,(false,(0,(0,[]))))))))))))))))))),(false,0)))))]),())))))))) (fun (s3:(Unit×(Unit×(Unit×(Unit×(T6×Unit))))))=>(opt (nth bA s.2.2.2.2.1 (len d0)).2.2.2.2.1 (gd (bp (len [(some (len s.2.2.2.2.2.2.1))]) 16777216) (k (((ae IntKind.i64 s.1.1 1),()),((),((),((),((ah bA s.2.2.2.2.1 (len d0) (fun r4=>(r4.1,(r4.2.1,(r4.2.2.1,(r4.2.2.2.1,((some (len s.2.2.2.2.2.1)),r4.2.2.2.2.2))))))),((cat s.2.2.2.2.2.1 [(some [(some (len s.2.2.2.2.2.2.1))])]),(s3.2.2.2.2.1,((cat s.2.2.2.2.2.2.2.1 [(some (rep (α:=Int) 4 0))]),())))))))))) (fun p5=>(bd (aT s.2.2.2.2.2.1 p5) (fun p6=>(gd (bp (aK (len p6) (len [(some (len s.2.2.2.2.2.2.1))])) 16777216) (gd (bu p5 (len s.2.2.2.2.2.1)) (k (((ae IntKind.i64 s.1.1 1),()),((),((),((),((ah bA s.2.2.2.2.1 (len d0) (fun r7=>(r7.1,(r7.2.1,(r7.2.2.1,(r7.2.2.2.1,((some (len (upd s.2.2.2.2.2.1 p5 none))),r7.2.2.2.2.2))))))),((cat (upd s.2.2.2.2.2.1 p5 none) [(some (cat p6 [(some (len s.2.2.2.2.2.2.1))]))]),(s3.2.2.2.2.1,((cat s.2.2.2.2.2.2.2.1 [(some (rep (α:=Int) 4 0))]),()))))))))))))))))) (some (((some (len d0)),(0,())),(s.2.2.2.2.1,(v0.2.1,(v0.2.2.1,(v0.2.2.2.1,(v0.2.2.2.2.1,(s.2.2.2.2.2.1,(s.2.2.2.2.2.2.1,(s.2.2.2.2.2.2.2.1,(v1.2.2.2.2.2.1,()))))))))))))
def e.dA (L:g4) (J:g5) (a0:U4) (a1:(List lI)) (a2:(List qo)) (d0:T0) (d5:T5) (d6:T6) (d7:T2) (v0:(((Option Nat)×((Option Nat)×(Int×Unit)))×(T1×(T2×m8)))) (k:(((Int×Unit)×(Unit×(Unit×(Unit×(T0×(T9×Unit))))))→xR)) (s:((Int×Unit)×(Unit×(Unit×(Unit×(T0×(T9×Unit))))))):xR:=(br (aQ s.1.1 (zN (len a1))) (gd (bn s.1.1) (gd (bu (nN s.1.1) (len a1)) (opt (nth bA s.2.2.2.2.1 (len d0)).2.1 (bd (e.eW L J (nth [] a1 (nN s.1.1))) (fun p0=>(gd (bp (len [p0.1.1]) 16777216) (k (((ae IntKind.i64 s.1.1 1),()),((),((),((),((ah bA s.2.2.2.2.1 (len d0) (fun r1=>(r1.1,((some (len s.2.2.2.2.2.1)),r1.2.2)))),((cat s.2.2.2.2.2.1 [(some [p0.1.1])]),())))))))))) (fun p2=>(bd (e.eW L J (nth [] a1 (nN s.1.1))) (fun p3=>(bd (aT s.2.2.2.2.2.1 p2) (fun p4=>(gd (bp (aK (len p4) (len [p3.1.1])) 16777216) (gd (bu p2 (len s.2.2.2.2.2.1)) (k (((ae IntKind.i64 s.1.1 1),()),((),((),((),((ah bA s.2.2.2.2.1 (len d0) (fun r5=>(r5.1,((some (len (upd s.2.2.2.2.2.1 p2 none))),r5.2.2)))),((cat (upd s.2.2.2.2.2.1 p2 none) [(some (cat p4 [p3.1.1]))]),()))))))))))))))))) (L _ _ (e.jV L J a0 a2 d0 v0 s) ((0,()),((),((),((),(s.2.2.2.2.1,(d5,(d6,(d7,()))))))))))
def e.jU (L:g4) (J:g5) (a2:(List qo)) (d0:T0) (d1:T1) (d2:T2) (d3:T3) (d4:T4) (d5:T5) (d6:T6) (d7:T2) (d8:T9) (v0:(Unit×U2)→xR) (k:(gE→xR)) (s:gE):xR:=(br (aQ s.1.1 (zN (len a2))) (gd (bn s.1.1) (gd (bu (nN s.1.1) (len a2)) (br (aQ 64 (zN (len (nth [] a2 (nN s.1.1))))) (br (cP 0 s.1.1) (some ((none,(1,())),(d0,(d1,(d2,(d3,(d4,(d5,(d6,(d7,(d8,()))))))))))) (v0 ((),((),((),((),())))))) (k (((ae IntKind.i64 s.1.1 1),()),((),((),((),())))))))) (v0 ((),((),((),((),()))))))
def e.jb (L:g4) (J:g5) (a0:U4) (a1:(List lI)) (a2:(List qo)) (c0:T7) (d0:T0) (d1:T1) (d2:T2) (d3:T3) (d4:T4) (d5:T5) (d6:T6) (d7:T2) (d8:T9):xR:=(J _ _ (fun (k0:(Unit×U2)→_)=>(bd (e.fh L J a0) (fun p1=>(br (az p1.1.1) (some ((none,(1,())),(d0,(d1,(d2,(d3,(d4,(d5,(d6,(d7,(d8,()))))))))))) (bd (e.ke L J a1) (fun p2=>(br (az p2.1.1) (some ((none,(1,())),(d0,(d1,(d2,(d3,(d4,(d5,(d6,(d7,(d8,()))))))))))) (br (aQ a0.2.1 (zN (len a2))) (some ((none,(1,())),(d0,(d1,(d2,(d3,(d4,(d5,(d6,(d7,(d8,()))))))))))) (L _ _ (e.jU L J a2 d0 d1 d2 d3 d4 d5 d6 d7 d8 k0) ((0,()),((),((),((),()))))))))))))) (fun (s5:(Unit×U2))=>(bd (e.kc L J a0 d1 d2 d3 d4) (fun p6=>(opt p6.1.1 (opt p6.1.2.1 (L _ _ (e.dA L J a0 a1 a2 d0 d5 d6 d7 p6) ((0,()),((),((),((),((cat d0 [(a0,(none,(none,(none,(none,(none,0))))))]),(d8,()))))))) (fun dT=>(L _ _ (e.dA L J a0 a1 a2 d0 d5 d6 d7 p6) ((0,()),((),((),((),((cat d0 [(a0,(none,(none,((some dT),(none,(none,0))))))]),(d8,()))))))))) (fun wz=>(opt p6.1.2.1 (L _ _ (e.dA L J a0 a1 a2 d0 d5 d6 d7 p6) ((0,()),((),((),((),((cat d0 [(a0,(none,((some wz),(none,(none,(none,0))))))]),(d8,()))))))) (fun BS=>(L _ _ (e.dA L J a0 a1 a2 d0 d5 d6 d7 p6) ((0,()),((),((),((),((cat d0 [(a0,(none,((some wz),((some BS),(none,(none,0))))))]),(d8,())))))))))))))))
def e.bf (L:g4) (J:g5) (a0:Nat) (c0:T6) (c1:T2):mF:=(br (az (nth aG c0 a0).2.2.2.2.1) (some (((ak (zN (len (nth aG c0 a0).1)) 0),()),())) (some ((false,()),())))
def e.fy (L:g4) (J:g5) (c5:T5) (c6:T6) (c8:T2) (v0:T1) (v1:Nat) (k:(((Int×Unit)×(mE×nB))→(Option (mE×Unit)))) (s:((Int×Unit)×(mE×nB))):(Option (mE×Unit)):=(br (aQ s.1.1 (zN (len v0))) (bd (aT c5 v1) (fun p0=>(gd (bn s.1.1) (gd (bu (nN s.1.1) (len p0)) (bd (aT c5 v1) (fun p1=>(opt (nth none p1 (nN s.1.1)) none (fun p2=>(bd (e.bf L J p2 c6 c8) (fun p3=>(br p3.1.1 (k (((ae IntKind.i64 s.1.1 1),()),((s.2.1.1,()),((),((),()))))) (gd (bp (aK (len s.2.1.1) (len [s.1.1])) 16777216) (k (((ae IntKind.i64 s.1.1 1),()),(((cat s.2.1.1 [s.1.1]),()),((),((),()))))))))))))))))) (some ((s.2.1.1,()),())))
def e.ib (L:g4) (J:g5) (k:(((Int×Unit)×(mE×nB))→(Option (mE×Unit)))) (s:((Int×Unit)×(mE×nB))):(Option (mE×Unit)):=(br (aQ s.1.1 0) none (some ((s.2.1.1,()),())))
def e.cV (L:g4) (J:g5) (a0:Nat) (c0:T0) (c1:T1) (c2:T2) (c3:T3) (c4:T4) (c5:T5) (c6:T6) (c7:T7) (c8:T2) (c9:T9):(Option (mE×Unit)):=(opt (nth bA c0 a0).2.2.2.2.1 (L _ _ (e.ib L J) ((0,()),(([],()),((),((),()))))) (fun p2=>(bd (aT c5 p2) (fun p3=>(L _ _ (e.fy L J c5 c6 c8 p3 p2) ((0,()),(([],()),((),((),())))))))))
def e.cB (L:g4) (J:g5) (a0:nZ):pP:=(br (ak (zN (len a0)) 0) (some ((0,()),())) (gd (bn (aE IntKind.i64 (zN (len a0)) 1)) (gd (bu (nN (aE IntKind.i64 (zN (len a0)) 1)) (len a0)) (some (((nth (0,false) a0 (nN (aE IntKind.i64 (zN (len a0)) 1))).1,()),())))))
def e.bE (L:g4) (J:g5) (a0:nZ):(Option ((nZ×Unit)×Unit)):=(gd (bp (aK 0 (len a0)) 16777216) (some (((cat [] a0),()),())))
def e.bQ (L:g4) (J:g5) (a0:nZ) (a1:(Int×Bool)):(Option ((nZ×(Int×Unit))×Unit)):=(br (cP 6 (zN (len a0))) (some (([],(24,())),())) (gd (bn (ae IntKind.i64 (zN (len a0)) 1)) (gd (bp (nN (ae IntKind.i64 (zN (len a0)) 1)) 16777216) (gd (bu 0 (len (rep (α:=(Int×Bool)) (nN (ae IntKind.i64 (zN (len a0)) 1)) (0,false)))) (gd (bp (len a0) (len (rep (α:=(Int×Bool)) (nN (ae IntKind.i64 (zN (len a0)) 1)) (0,false)))) (gd (bn (zN (len a0))) (gd (bu (nN (zN (len a0))) (len (cat a0 (dr (len a0) (rep (α:=(Int×Bool)) (nN (ae IntKind.i64 (zN (len a0)) 1)) (0,false)))))) (some (((upd (cat a0 (dr (len a0) (rep (α:=(Int×Bool)) (nN (ae IntKind.i64 (zN (len a0)) 1)) (0,false)))) (nN (zN (len a0))) a1),(0,())),())))))))))
def e.iD (L:g4) (J:g5) (a0:nZ):(Option ((nZ×((Int×Bool)×(Int×Unit)))×Unit)):=(br (aQ (aE IntKind.i64 (zN (len a0)) 1) 0) (some (([],((0,false),(23,()))),())) (gd (bn (aE IntKind.i64 (zN (len a0)) 1)) (gd (bp 0 (nN (aE IntKind.i64 (zN (len a0)) 1))) (gd (bp (nN (aE IntKind.i64 (zN (len a0)) 1)) (len a0)) (bd (e.bE L J (tk (ay (nN (aE IntKind.i64 (zN (len a0)) 1)) 0) (dr 0 a0))) (fun p0=>(gd (bn (aE IntKind.i64 (zN (len a0)) 1)) (gd (bu (nN (aE IntKind.i64 (zN (len a0)) 1)) (len a0)) (some ((p0.1.1,((nth (0,false) a0 (nN (aE IntKind.i64 (zN (len a0)) 1))),(0,()))),()))))))))))
def e.iC (L:g4) (J:g5) (a0:nZ) (a1:Int) (k:(gE→pP)) (s:gE):pP:=(br (aQ s.1.1 (zN (len a0))) (gd (bn s.1.1) (gd (bu (nN s.1.1) (len a0)) (br (mZ (ak a1 (nth (0,false) a0 (nN s.1.1)).1) (mZ (qP true (nth (0,false) a0 (nN s.1.1)).2) true)) (some ((s.1.1,()),())) (k (((ae IntKind.i64 s.1.1 1),()),((),((),((),())))))))) (some (((-1),()),())))
def e.kC (L:g4) (J:g5) (a0:nZ) (a1:Int):pP:=(L _ _ (e.iC L J a0 a1) ((0,()),((),((),((),())))))
def e.bc (L:g4) (J:g5) (a0:nZ) (a1:Int):mF:=(br (ak a1 0) (some ((true,()),())) (bd (e.kC L J a0 a1) (fun p0=>(some (((cP 0 p0.1.1),()),())))))
def e.iQ (L:g4) (J:g5) (a0:(List Int)) (k:(gE→mF)) (s:gE):mF:=(br (aQ s.1.1 (zN (len a0))) (gd (bn s.1.1) (gd (bu (nN s.1.1) (len a0)) (br (cP 4 (nth 0 a0 (nN s.1.1))) (some (((az (cP 0 s.1.1)),()),())) (k (((ae IntKind.i64 s.1.1 1),()),((),((),((),())))))))) (some ((true,()),())))
def e.bM (L:g4) (J:g5) (a0:(List Int)):mF:=(L _ _ (e.iQ L J a0) ((0,()),((),((),((),())))))
def e.iR (L:g4) (J:g5) (a0:(List Int)) (k:(gE→pP)) (s:gE):pP:=(br (aQ s.1.1 (zN (len a0))) (gd (bn s.1.1) (gd (bu (nN s.1.1) (len a0)) (br (az (ak (nth 0 a0 (nN s.1.1)) 0)) (some (((nth 0 a0 (nN s.1.1)),()),())) (k (((ae IntKind.i64 s.1.1 1),()),((),((),((),())))))))) (some ((0,()),())))
def e.aw (L:g4) (J:g5) (a0:(List Int)):pP:=(L _ _ (e.iR L J a0) ((0,()),((),((),((),())))))
def e.nq (L:g4) (J:g5) (a0:Int) (a1:Int):(Option (ja×Unit)):=(br (az (qP (aQ a0 (ae IntKind.i64 a0 a1)) (aQ 0 a1))) (some ((0,(3,())),())) (some (((ae IntKind.i64 a0 a1),(0,())),())))
def e.ot (L:g4) (J:g5) (a0:Int):(Option (ja×Unit)):=(br (aQ a0 0) (some ((0,(1,())),())) (bd (e.nq L J a0 7) (fun p0=>(br (az (ak p0.1.2.1 0)) (some ((0,(p0.1.2.1,())),())) (some (((bits BinOp.andNot IntKind.i64 p0.1.1 7),(0,())),()))))))
def e.bC (L:g4) (J:g5) (a0:(U4×(nZ×((Int×(Int×(Int×U4)))×(Int×Int))))):pP:=(br (ak a0.2.2.1.1 0) (some ((0,()),())) (br (ak a0.2.2.1.1 1) (bd (e.bM L J [a0.2.2.1.2.1]) (fun p0=>(br (az p0.1.1) (some ((1,()),())) (some ((0,()),()))))) (br (ak a0.2.2.1.1 2) (bd (e.ab L J a0.2.2.1.2.2.2.2.1 1 8192) (fun p1=>(br (az p1.1.1) (some ((1,()),())) (some ((0,()),()))))) (br (ak a0.2.2.1.1 3) (bd (e.ab L J a0.2.2.1.2.2.2.2.1 1 (aE IntKind.i64 a0.1.1 1)) (fun p2=>(br (az p2.1.1) (some ((11,()),())) (some ((0,()),()))))) (br (ak a0.2.2.1.1 4) (bd (e.ab L J a0.2.2.1.2.2.2.2.1 1 (aE IntKind.i64 a0.1.1 1)) (fun p3=>(br (az p3.1.1) (bd (e.bQ L J a0.2.1 (0,false)) (fun p4=>(bd (e.aw L J [11,p4.1.2.1]) (fun p5=>(some ((p5.1.1,()),())))))) (bd (e.bQ L J a0.2.1 (0,false)) (fun p6=>(bd (e.aw L J [0,p6.1.2.1]) (fun p7=>(some ((p7.1.1,()),()))))))))) (br (ak a0.2.2.1.1 6) (bd (e.ab L J a0.2.2.1.2.2.2.2.1 0 (aE IntKind.i64 a0.1.1 1)) (fun p8=>(br (az p8.1.1) (bd (e.bc L J a0.2.1 a0.2.2.1.2.2.2.2.1) (fun p9=>(br (az p9.1.1) (bd (e.bQ L J a0.2.1 (0,false)) (fun gI=>(bd (e.aw L J [11,20,gI.1.2.1]) (fun kV=>(some ((kV.1.1,()),())))))) (bd (e.bQ L J a0.2.1 (0,false)) (fun cA=>(bd (e.aw L J [11,0,cA.1.2.1]) (fun cb=>(some ((cb.1.1,()),()))))))))) (bd (e.bc L J a0.2.1 a0.2.2.1.2.2.2.2.1) (fun iB=>(br (az iB.1.1) (bd (e.bQ L J a0.2.1 (0,false)) (fun dI=>(bd (e.aw L J [0,20,dI.1.2.1]) (fun eZ=>(some ((eZ.1.1,()),())))))) (bd (e.bQ L J a0.2.1 (0,false)) (fun gy=>(bd (e.aw L J [0,0,gy.1.2.1]) (fun fL=>(some ((fL.1.1,()),())))))))))))) (br (ak a0.2.2.1.1 5) (bd (e.iD L J a0.2.1) (fun kF=>(some ((kF.1.2.2.1,()),())))) (br (ak a0.2.2.1.1 7) (bd (g.gR a0.2.2.1.2.2.2.2.1 a0.2.2.1.2.2.2.2.2.1) (fun dT=>(bd (e.bM L J [a0.2.2.1.2.1]) (fun mu=>(br mu.1.1 (bd (e.ab L J a0.2.2.1.2.2.2.2.2.2 0 7) (fun jh=>(br (az jh.1.1) (bd (e.aw L J [1,dT.1.2.1]) (fun fk=>(some ((fk.1.1,()),())))) (bd (e.aw L J [0,dT.1.2.1]) (fun jX=>(some ((jX.1.1,()),()))))))) (bd (e.aw L J [1,dT.1.2.1]) (fun fq=>(some ((fq.1.1,()),()))))))))) (br (ak a0.2.2.1.1 8) (bd (e.bM L J [a0.2.2.1.2.1,a0.2.2.1.2.2.1]) (fun eN=>(br (az eN.1.1) (bd (g.cE a0.1 a0.2.1 a0.2.2.2.1) (fun mr=>(bd (e.aw L J [1,mr.1.2.1]) (fun mD=>(some ((mD.1.1,()),())))))) (bd (g.cE a0.1 a0.2.1 a0.2.2.2.1) (fun jS=>(bd (e.aw L J [0,jS.1.2.1]) (fun MW=>(some ((MW.1.1,()),()))))))))) (br (ak a0.2.2.1.1 9) (bd (e.bM L J [a0.2.2.1.2.2.1,a0.2.2.1.2.2.2.1]) (fun Ug=>(br (az Ug.1.1) (bd (g.cE a0.1 a0.2.1 a0.2.2.2.1) (fun HY=>(bd (e.aw L J [1,HY.1.2.1]) (fun HX=>(some ((HX.1.1,()),())))))) (bd (g.cE a0.1 a0.2.1 a0.2.2.2.1) (fun wz=>(bd (e.aw L J [0,wz.1.2.1]) (fun p35=>(some ((p35.1.1,()),()))))))))) (br (ak a0.2.2.1.1 10) (bd (e.bM L J [a0.2.2.1.2.1]) (fun MV=>(br (az MV.1.1) (bd (e.ab L J a0.2.2.1.2.2.2.2.1 1 (aE IntKind.i64 a0.1.1 1)) (fun MU=>(br (az MU.1.1) (bd (e.bc L J a0.2.1 a0.2.2.1.2.2.2.2.1) (fun MT=>(br (az MT.1.1) (bd (e.aw L J [1,11,20]) (fun MS=>(some ((MS.1.1,()),())))) (bd (e.aw L J [1,11,0]) (fun HW=>(some ((HW.1.1,()),()))))))) (bd (e.bc L J a0.2.1 a0.2.2.1.2.2.2.2.1) (fun MR=>(br (az MR.1.1) (bd (e.aw L J [1,0,20]) (fun MQ=>(some ((MQ.1.1,()),())))) (bd (e.aw L J [1,0,0]) (fun bW=>(some ((bW.1.1,()),())))))))))) (bd (e.ab L J a0.2.2.1.2.2.2.2.1 1 (aE IntKind.i64 a0.1.1 1)) (fun MP=>(br (az MP.1.1) (bd (e.bc L J a0.2.1 a0.2.2.1.2.2.2.2.1) (fun p45=>(br (az p45.1.1) (bd (e.aw L J [0,11,20]) (fun BU=>(some ((BU.1.1,()),())))) (bd (e.aw L J [0,11,0]) (fun BT=>(some ((BT.1.1,()),()))))))) (bd (e.bc L J a0.2.1 a0.2.2.1.2.2.2.2.1) (fun BS=>(br (az BS.1.1) (bd (e.aw L J [0,0,20]) (fun MO=>(some ((MO.1.1,()),())))) (bd (e.aw L J [0,0,0]) (fun HV=>(some ((HV.1.1,()),()))))))))))))) (br (ak a0.2.2.1.1 11) (J _ _ (fun (uN:gE→_)=>(bd (e.bM L J [a0.2.2.1.2.2.2.1]) (fun HR=>(br (az HR.1.1) (bd (e.ab L J a0.2.2.1.2.2.2.2.1 1 (aE IntKind.i64 a0.1.1 1)) (fun Em=>(br (az Em.1.1) (bd (e.bc L J a0.2.1 a0.2.2.1.2.2.2.2.1) (fun BR=>(br (az BR.1.1) (bd (e.aw L J [1,11,20]) (fun xM=>(uN ((xM.1.1,()),((),((),((),()))))))) (bd (e.aw L J [1,11,0]) (fun wy=>(uN ((wy.1.1,()),((),((),((),())))))))))) (bd (e.bc L J a0.2.1 a0.2.2.1.2.2.2.2.1) (fun GZ=>(br (az GZ.1.1) (bd (e.aw L J [1,0,20]) (fun Ae=>(uN ((Ae.1.1,()),((),((),((),()))))))) (bd (e.aw L J [1,0,0]) (fun BQ=>(uN ((BQ.1.1,()),((),((),((),()))))))))))))) (bd (e.ab L J a0.2.2.1.2.2.2.2.1 1 (aE IntKind.i64 a0.1.1 1)) (fun Ek=>(br (az Ek.1.1) (bd (e.bc L J a0.2.1 a0.2.2.1.2.2.2.2.1) (fun Uf=>(br (az Uf.1.1) (bd (e.aw L J [0,11,20]) (fun Ue=>(uN ((Ue.1.1,()),((),((),((),()))))))) (bd (e.aw L J [0,11,0]) (fun uA=>(uN ((uA.1.1,()),((),((),((),())))))))))) (bd (e.bc L J a0.2.1 a0.2.2.1.2.2.2.2.1) (fun p64=>(br (az p64.1.1) (bd (e.aw L J [0,0,20]) (fun sS=>(uN ((sS.1.1,()),((),((),((),()))))))) (bd (e.aw L J [0,0,0]) (fun HQ=>(uN ((HQ.1.1,()),((),((),((),()))))))))))))))))) (fun (MD:gE)=>(br (ak MD.1.1 0) (br (az (ak a0.2.2.2.2 0)) (bd (g.cE a0.1 a0.2.1 a0.2.2.2.2) (fun MN=>(some ((MN.1.2.1,()),())))) (some ((MD.1.1,()),()))) (some ((MD.1.1,()),()))))) (some ((1,()),()))))))))))))))
def e.cy (L:g4) (J:g5) (a0:(U4×(nZ×((Int×(Int×(Int×U4)))×(Int×Int))))):pP:=(J _ _ (fun (k0:iV→_)=>(br (ak a0.2.2.1.1 2) (k0 ((true,()),((),((),((),()))))) (k0 (((ak a0.2.2.1.1 3),()),((),((),((),()))))))) (fun (s1:iV)=>(br s1.1.1 (some ((1,()),())) (br (ak a0.2.2.1.1 4) (some ((13,()),())) (br (ak a0.2.2.1.1 5) (gd (bn (aE IntKind.i64 (zN (len a0.2.1)) 1)) (gd (bu (nN (aE IntKind.i64 (zN (len a0.2.1)) 1)) (len a0.2.1)) (br (nth (0,false) a0.2.1 (nN (aE IntKind.i64 (zN (len a0.2.1)) 1))).2 (some ((15,()),())) (some ((0,()),()))))) (J _ _ (fun (k2:iV→_)=>(br (ak a0.2.2.1.1 7) (k2 ((true,()),((),((),((),()))))) (br (ak a0.2.2.1.1 8) (k2 ((true,()),((),((),((),()))))) (k2 (((ak a0.2.2.1.1 9),()),((),((),((),())))))))) (fun (s3:iV)=>(br s3.1.1 (some ((5,()),())) (br (ak a0.2.2.1.1 10) (some ((11,()),())) (br (ak a0.2.2.1.1 11) (br (ak a0.2.2.2.2 0) (some ((12,()),())) (some ((7,()),()))) (some ((0,()),()))))))))))))
def e.gk (L:g4) (J:g5) (a0:U4) (a1:(Option Nat)) (a2:nZ) (a3:(Int×(Int×(Int×U4)))) (c0:T2):(Option ((U1×Unit)×Unit)):=(br (cP 4 a3.2.2.1) (br (cP 4 a3.2.2.2.1) (bd (e.cB L J a2) (fun p0=>(bd (e.bE L J a2) (fun p1=>(bd (e.bC L J (a0,(a2,(a3,(0,0))))) (fun p2=>(br (ak p2.1.1 0) (bd (e.cy L J (a0,(a2,(a3,(0,0))))) (fun p3=>(some (((a3,(p3.1.1,(p0.1.1,(0,(0,(p1.1.1,(0,(0,(0,(0,([],(0,([],(0,(false,(false,(false,(p2.1.1,(0,[]))))))))))))))))))),()),())))) (some (((a3,(0,(p0.1.1,(0,(0,(p1.1.1,(0,(0,(0,(0,([],(0,([],(0,(false,(false,(false,(p2.1.1,(0,[]))))))))))))))))))),()),()))))))))) (opt a1 none (fun p4=>(bd (aT c0 p4) (fun p5=>(gd (bn a3.2.2.2.1) (gd (bu (nN a3.2.2.2.1) (len p5)) (bd (aT c0 p4) (fun p6=>(bd (e.cB L J a2) (fun p7=>(bd (e.bE L J a2) (fun p8=>(bd (e.bC L J (a0,(a2,(a3,(0,(nth 0 p6 (nN a3.2.2.2.1))))))) (fun p9=>(br (ak p9.1.1 0) (bd (e.cy L J (a0,(a2,(a3,(0,(nth 0 p6 (nN a3.2.2.2.1))))))) (fun gI=>(some (((a3,(gI.1.1,(p7.1.1,(0,((nth 0 p6 (nN a3.2.2.2.1)),(p8.1.1,(0,(0,(0,(0,([],(0,([],(0,(false,(false,(false,(p9.1.1,(0,[]))))))))))))))))))),()),())))) (some (((a3,(0,(p7.1.1,(0,((nth 0 p6 (nN a3.2.2.2.1)),(p8.1.1,(0,(0,(0,(0,([],(0,([],(0,(false,(false,(false,(p9.1.1,(0,[]))))))))))))))))))),()),())))))))))))))))))) (opt a1 none (fun kV=>(bd (aT c0 kV) (fun cA=>(gd (bn a3.2.2.1) (gd (bu (nN a3.2.2.1) (len cA)) (bd (aT c0 kV) (fun cb=>(br (cP 4 a3.2.2.2.1) (bd (e.cB L J a2) (fun iB=>(bd (e.bE L J a2) (fun dI=>(bd (e.bC L J (a0,(a2,(a3,((nth 0 cb (nN a3.2.2.1)),0))))) (fun eZ=>(br (ak eZ.1.1 0) (bd (e.cy L J (a0,(a2,(a3,((nth 0 cb (nN a3.2.2.1)),0))))) (fun gy=>(some (((a3,(gy.1.1,(iB.1.1,((nth 0 cb (nN a3.2.2.1)),(0,(dI.1.1,(0,(0,(0,(0,([],(0,([],(0,(false,(false,(false,(eZ.1.1,(0,[]))))))))))))))))))),()),())))) (some (((a3,(0,(iB.1.1,((nth 0 cb (nN a3.2.2.1)),(0,(dI.1.1,(0,(0,(0,(0,([],(0,([],(0,(false,(false,(false,(eZ.1.1,(0,[]))))))))))))))))))),()),()))))))))) (opt a1 none (fun fL=>(bd (aT c0 fL) (fun kF=>(gd (bn a3.2.2.2.1) (gd (bu (nN a3.2.2.2.1) (len kF)) (bd (aT c0 fL) (fun dT=>(bd (e.cB L J a2) (fun mu=>(bd (e.bE L J a2) (fun jh=>(bd (e.bC L J (a0,(a2,(a3,((nth 0 cb (nN a3.2.2.1)),(nth 0 dT (nN a3.2.2.2.1))))))) (fun fk=>(br (ak fk.1.1 0) (bd (e.cy L J (a0,(a2,(a3,((nth 0 cb (nN a3.2.2.1)),(nth 0 dT (nN a3.2.2.2.1))))))) (fun jX=>(some (((a3,(jX.1.1,(mu.1.1,((nth 0 cb (nN a3.2.2.1)),((nth 0 dT (nN a3.2.2.2.1)),(jh.1.1,(0,(0,(0,(0,([],(0,([],(0,(false,(false,(false,(fk.1.1,(0,[]))))))))))))))))))),()),())))) (some (((a3,(0,(mu.1.1,((nth 0 cb (nN a3.2.2.1)),((nth 0 dT (nN a3.2.2.2.1)),(jh.1.1,(0,(0,(0,(0,([],(0,([],(0,(false,(false,(false,(fk.1.1,(0,[]))))))))))))))))))),()),())))))))))))))))))))))))))))
def e.cO (L:g4) (J:g5) (a0:(List Int)):(Option (mE×Unit)):=(gd (bp (aK 0 (len a0)) 16777216) (some (((cat [] a0),()),())))
def e.a_ (L:g4) (J:g5) (a0:U1) (a1:Int) (a2:Int):(Option ((U1×Unit)×Unit)):=(bd (e.cO L J a0.2.2.2.2.2.2.2.2.2.2.2.2.1) (fun p0=>(some (((a0.1,(a0.2.1,(a0.2.2.1,(a0.2.2.2.1,(a0.2.2.2.2.1,(a0.2.2.2.2.2.1,(a0.2.2.2.2.2.2.1,(a0.2.2.2.2.2.2.2.1,(a0.2.2.2.2.2.2.2.2.1,(a0.2.2.2.2.2.2.2.2.2.1,(a0.2.2.2.2.2.2.2.2.2.2.1,(a0.2.2.2.2.2.2.2.2.2.2.2.1,(a0.2.2.2.2.2.2.2.2.2.2.2.2.1,(a0.2.2.2.2.2.2.2.2.2.2.2.2.2.1,(a0.2.2.2.2.2.2.2.2.2.2.2.2.2.2.1,(true,(true,(a1,(a2,p0.1.1))))))))))))))))))),()),()))))
def e.fG (L:g4) (J:g5) (a0:Nat) (a1:Int) (c0:T1) (c1:T2) (k:((ja×U2)→(Option (ja×Unit)))) (s:(ja×U2)):(Option (ja×Unit)):=(br (aQ s.1.2.1 8) (opt (nth none c0 a0) none (fun p0=>(bd (aT c1 p0) (fun p1=>(gd (bn (ae IntKind.i64 a1 s.1.2.1)) (gd (bu (nN (ae IntKind.i64 a1 s.1.2.1)) (len p1)) (bd (aT c1 p0) (fun p2=>(gd (bn (cm IntKind.i64 8 s.1.2.1)) (k (((bits BinOp.or IntKind.u64 s.1.1 (lU IntKind.u64 (cS IntKind.u64 (nth 0 p2 (nN (ae IntKind.i64 a1 s.1.2.1)))) (cm IntKind.i64 8 s.1.2.1))),((ae IntKind.i64 s.1.2.1 1),())),((),((),((),())))))))))))))) (some ((s.1.1,(0,())),())))
def e.aP (L:g4) (J:g5) (a0:Nat) (a1:Int) (c0:T1) (c1:T2):(Option (ja×Unit)):=(bd (e.cN L J a0 a1 c0 c1) (fun p0=>(br (az p0.1.1) (some ((0,(1,())),())) (L _ _ (e.fG L J a0 a1 c0 c1) ((0,(0,())),((),((),((),()))))))))
def e.gX (L:g4) (J:g5) (a0:Int) (a1:Int) (a2:Int):pP:=(gd (bn a1) (gd (bn a2) (some (((cS IntKind.i64 (bits BinOp.and IntKind.u64 (j0 IntKind.u64 a0 a1) (aE IntKind.u64 (lU IntKind.u64 1 a2) 1))),()),()))))
def e.dU (L:g4) (J:g5) (a0:Int):(Option ((U4×(Int×Unit))×Unit)):=(bd (e.gX L J a0 0 2) (fun p0=>(bd (e.gX L J a0 2 8) (fun p1=>(bd (e.gX L J a0 10 8) (fun p2=>(bd (e.gX L J a0 18 24) (fun p3=>(bd (e.fM L J (p0.1.1,(p1.1.1,((aE IntKind.i64 p2.1.1 1),p3.1.1)))) (fun p4=>(br (az p4.1.1) (some (((0,(0,(0,0))),(1,())),())) (br (az (ak (j0 IntKind.u64 a0 42) 0)) (some (((0,(0,(0,0))),(1,())),())) (some (((p0.1.1,(p1.1.1,((aE IntKind.i64 p2.1.1 1),p3.1.1))),(0,())),()))))))))))))))
def e.gu (L:g4) (J:g5) (a0:U4) (a1:Nat) (a2:Int) (c0:T1) (c1:T2):(Option ((U4×(Int×Unit))×Unit)):=(bd (e.db L J a0 0 a2) (fun p0=>(br (az (ak p0.1.2.1 0)) (some (((0,(0,(0,0))),(11,())),())) (bd (e.aP L J a1 p0.1.1 c0 c1) (fun p1=>(bd (e.dU L J p1.1.1) (fun p2=>(br (az (ak p2.1.2.1 0)) (some (((0,(0,(0,0))),(11,())),())) (some ((p2.1.1,(0,())),()))))))))))
def e.bU (L:g4) (J:g5) (a1:Int) (d1:T4) (v0:(List (Int×Int))) (v1:Nat) (v2:gE→(Option ((Int×(Bool×Unit))×m8))) (k:(gE→(Option ((Int×(Bool×Unit))×m8)))) (s:gE):(Option ((Int×(Bool×Unit))×m8)):=(br (aQ s.1.1 (zN (len v0))) (bd (aT d1 v1) (fun p0=>(gd (bn s.1.1) (gd (bu (nN s.1.1) (len p0)) (bd (aT d1 v1) (fun p1=>(br (cP a1 (nth (0,0) p1 (nN s.1.1)).2) (v2 ((s.1.1,()),((),((),((),()))))) (k (((ae IntKind.i64 s.1.1 1),()),((),((),((),())))))))))))) (v2 (((-1),()),((),((),((),()))))))
def e.eh (L:g4) (J:g5) (v0:gE→(Option ((Int×(Bool×Unit))×m8))) (k:(gE→(Option ((Int×(Bool×Unit))×m8)))) (s:gE):(Option ((Int×(Bool×Unit))×m8)):=(br (aQ s.1.1 0) none (v0 (((-1),()),((),((),((),()))))))
def e.bN (L:g4) (J:g5) (a0:Nat) (a1:Int) (d0:T3) (d1:T4):(Option ((Int×(Bool×Unit))×m8)):=(J _ _ (fun (k0:(Unit×U2)→_)=>(br (aQ a1 1) (some ((0,(false,())),(d0,(d1,())))) (br (az (ak (cq a1 8) 0)) (some ((0,(false,())),(d0,(d1,())))) (k0 ((),((),((),((),())))))))) (fun (s1:(Unit×U2))=>(J _ _ (fun (k2:gE→_)=>(opt (nth (0,(0,none)) d0 a0).2.2 (L _ _ (e.eh L J k2) ((0,()),((),((),((),()))))) (fun p5=>(bd (aT d1 p5) (fun p6=>(L _ _ (e.bU L J a1 d1 p6 p5 k2) ((0,()),((),((),((),())))))))))) (fun (aJ:gE)=>(br (aQ aJ.1.1 0) (some ((0,(false,())),(d0,(d1,())))) (opt (nth (0,(0,none)) d0 a0).2.2 none (fun cA=>(bd (aT d1 cA) (fun cb=>(gd (bn aJ.1.1) (gd (bu (nN aJ.1.1) (len cb)) (bd (aT d1 cA) (fun iB=>(bd (aT d1 cA) (fun dI=>(bd (aT d1 cA) (fun eZ=>(bd (aT d1 cA) (fun gy=>(bd (aT (upd d1 cA (some (ah (0,0) gy (nN aJ.1.1) (fun D5=>((ae IntKind.i64 (nth (0,0) dI (nN aJ.1.1)).1 a1),D5.2))))) cA) (fun fL=>(bd (aT (upd (upd d1 cA (some (ah (0,0) gy (nN aJ.1.1) (fun HI=>((ae IntKind.i64 (nth (0,0) dI (nN aJ.1.1)).1 a1),HI.2))))) cA (some (ah (0,0) fL (nN aJ.1.1) (fun HI=>(HI.1,(aE IntKind.i64 (nth (0,0) eZ (nN aJ.1.1)).2 a1)))))) cA) (fun kF=>(br (ak (nth (0,0) kF (nN aJ.1.1)).2 0) (opt (nth (0,(0,none)) d0 a0).2.2 (gd (IE 0 (ae IntKind.i64 aJ.1.1 1)) (gd (bn aJ.1.1) (gd (bn (ae IntKind.i64 aJ.1.1 1)) (gd (bp (nN aJ.1.1) (nN (ae IntKind.i64 aJ.1.1 1))) (gd (bp (nN (ae IntKind.i64 aJ.1.1 1)) 0) (br (ak aJ.1.1 (ae IntKind.i64 aJ.1.1 1)) (some (((nth (0,0) iB (nN aJ.1.1)).1,(true,())),((ah (0,(0,none)) d0 a0 (fun mc=>(mc.1,(mc.2.1,none)))),((upd (upd d1 cA (some (ah (0,0) gy (nN aJ.1.1) (fun mc=>((ae IntKind.i64 (nth (0,0) dI (nN aJ.1.1)).1 a1),mc.2))))) cA (some (ah (0,0) fL (nN aJ.1.1) (fun mc=>(mc.1,(aE IntKind.i64 (nth (0,0) eZ (nN aJ.1.1)).2 a1)))))),())))) (gd (bn aJ.1.1) (gd (bp 0 (nN aJ.1.1)) (gd (bp (nN aJ.1.1) 0) (gd (bn (ae IntKind.i64 aJ.1.1 1)) (gd (bp (nN (ae IntKind.i64 aJ.1.1 1)) 0) (gd (bu 0 0) (some (((nth (0,0) iB (nN aJ.1.1)).1,(true,())),((ah (0,(0,none)) d0 a0 (fun mc=>(mc.1,(mc.2.1,(some (len (upd (upd d1 cA (some (ah (0,0) gy (nN aJ.1.1) (fun vJ=>((ae IntKind.i64 (nth (0,0) dI (nN aJ.1.1)).1 a1),vJ.2))))) cA (some (ah (0,0) fL (nN aJ.1.1) (fun vJ=>(vJ.1,(aE IntKind.i64 (nth (0,0) eZ (nN aJ.1.1)).2 a1)))))))))))),((cat (upd (upd d1 cA (some (ah (0,0) gy (nN aJ.1.1) (fun mc=>((ae IntKind.i64 (nth (0,0) dI (nN aJ.1.1)).1 a1),mc.2))))) cA (some (ah (0,0) fL (nN aJ.1.1) (fun mc=>(mc.1,(aE IntKind.i64 (nth (0,0) eZ (nN aJ.1.1)).2 a1)))))) [(some (cat (tk 0 []) (cat (rep (α:=(Int×Int)) 0 (0,0)) (dr 0 []))))]),())))))))))))))))) (fun dT=>(bd (aT (upd (upd d1 cA (some (ah (0,0) gy (nN aJ.1.1) (fun vJ=>((ae IntKind.i64 (nth (0,0) dI (nN aJ.1.1)).1 a1),vJ.2))))) cA (some (ah (0,0) fL (nN aJ.1.1) (fun vJ=>(vJ.1,(aE IntKind.i64 (nth (0,0) eZ (nN aJ.1.1)).2 a1)))))) dT) (fun mu=>(bd (aT (upd (upd d1 cA (some (ah (0,0) gy (nN aJ.1.1) (fun MJ=>((ae IntKind.i64 (nth (0,0) dI (nN aJ.1.1)).1 a1),MJ.2))))) cA (some (ah (0,0) fL (nN aJ.1.1) (fun MJ=>(MJ.1,(aE IntKind.i64 (nth (0,0) eZ (nN aJ.1.1)).2 a1)))))) dT) (fun jh=>(gd (bn aJ.1.1) (gd (bn (ae IntKind.i64 aJ.1.1 1)) (gd (bn (zN (len mu))) (gd (bp (nN aJ.1.1) (nN (ae IntKind.i64 aJ.1.1 1))) (gd (bp (nN (ae IntKind.i64 aJ.1.1 1)) (nN (zN (len mu)))) (gd (bp (nN (zN (len mu))) (len jh)) (br (ak aJ.1.1 (ae IntKind.i64 aJ.1.1 1)) (some (((nth (0,0) iB (nN aJ.1.1)).1,(true,())),((ah (0,(0,none)) d0 a0 (fun sR=>(sR.1,(sR.2.1,(some dT))))),((upd (upd d1 cA (some (ah (0,0) gy (nN aJ.1.1) (fun sR=>((ae IntKind.i64 (nth (0,0) dI (nN aJ.1.1)).1 a1),sR.2))))) cA (some (ah (0,0) fL (nN aJ.1.1) (fun sR=>(sR.1,(aE IntKind.i64 (nth (0,0) eZ (nN aJ.1.1)).2 a1)))))),())))) (bd (aT (upd (upd d1 cA (some (ah (0,0) gy (nN aJ.1.1) (fun sR=>((ae IntKind.i64 (nth (0,0) dI (nN aJ.1.1)).1 a1),sR.2))))) cA (some (ah (0,0) fL (nN aJ.1.1) (fun sR=>(sR.1,(aE IntKind.i64 (nth (0,0) eZ (nN aJ.1.1)).2 a1)))))) dT) (fun fk=>(bd (aT (upd (upd d1 cA (some (ah (0,0) gy (nN aJ.1.1) (fun MI=>((ae IntKind.i64 (nth (0,0) dI (nN aJ.1.1)).1 a1),MI.2))))) cA (some (ah (0,0) fL (nN aJ.1.1) (fun MI=>(MI.1,(aE IntKind.i64 (nth (0,0) eZ (nN aJ.1.1)).2 a1)))))) dT) (fun jX=>(gd (bn aJ.1.1) (gd (bp 0 (nN aJ.1.1)) (gd (bp (nN aJ.1.1) (len jX)) (bd (aT (upd (upd d1 cA (some (ah (0,0) gy (nN aJ.1.1) (fun rG=>((ae IntKind.i64 (nth (0,0) dI (nN aJ.1.1)).1 a1),rG.2))))) cA (some (ah (0,0) fL (nN aJ.1.1) (fun rG=>(rG.1,(aE IntKind.i64 (nth (0,0) eZ (nN aJ.1.1)).2 a1)))))) dT) (fun fq=>(gd (bn (ae IntKind.i64 aJ.1.1 1)) (gd (bp (nN (ae IntKind.i64 aJ.1.1 1)) (len fq)) (gd (bp (len fq) (len fq)) (bd (aT (upd (upd d1 cA (some (ah (0,0) gy (nN aJ.1.1) (fun lv=>((ae IntKind.i64 (nth (0,0) dI (nN aJ.1.1)).1 a1),lv.2))))) cA (some (ah (0,0) fL (nN aJ.1.1) (fun lv=>(lv.1,(aE IntKind.i64 (nth (0,0) eZ (nN aJ.1.1)).2 a1)))))) dT) (fun eN=>(bd (aT (upd (upd d1 cA (some (ah (0,0) gy (nN aJ.1.1) (fun gM=>((ae IntKind.i64 (nth (0,0) dI (nN aJ.1.1)).1 a1),gM.2))))) cA (some (ah (0,0) fL (nN aJ.1.1) (fun gM=>(gM.1,(aE IntKind.i64 (nth (0,0) eZ (nN aJ.1.1)).2 a1)))))) dT) (fun mr=>(gd (bp (aK (ay (nN aJ.1.1) 0) (len (tk (ay (len fq) (nN (ae IntKind.i64 aJ.1.1 1))) (dr (nN (ae IntKind.i64 aJ.1.1 1)) eN)))) (len mr)) (bd (aT (upd (upd (upd d1 cA (some (ah (0,0) gy (nN aJ.1.1) (fun dn=>((ae IntKind.i64 (nth (0,0) dI (nN aJ.1.1)).1 a1),dn.2))))) cA (some (ah (0,0) fL (nN aJ.1.1) (fun dn=>(dn.1,(aE IntKind.i64 (nth (0,0) eZ (nN aJ.1.1)).2 a1)))))) dT (some (cat (tk (ay (nN aJ.1.1) 0) mr) (cat (tk (ay (len fq) (nN (ae IntKind.i64 aJ.1.1 1))) (dr (nN (ae IntKind.i64 aJ.1.1 1)) eN)) (dr (aK (ay (nN aJ.1.1) 0) (len (tk (ay (len fq) (nN (ae IntKind.i64 aJ.1.1 1))) (dr (nN (ae IntKind.i64 aJ.1.1 1)) eN)))) mr))))) dT) (fun mD=>(gd (bn (zN (aK (ay (nN aJ.1.1) 0) (len (tk (ay (len fq) (nN (ae IntKind.i64 aJ.1.1 1))) (dr (nN (ae IntKind.i64 aJ.1.1 1)) eN)))))) (gd (bn (zN (len fk))) (gd (bp (nN (zN (aK (ay (nN aJ.1.1) 0) (len (tk (ay (len fq) (nN (ae IntKind.i64 aJ.1.1 1))) (dr (nN (ae IntKind.i64 aJ.1.1 1)) eN)))))) (nN (zN (len fk)))) (gd (bp (aK 0 (nN (zN (len fk)))) (len mD)) (bd (aT (upd (upd (upd d1 cA (some (ah (0,0) gy (nN aJ.1.1) (fun cd=>((ae IntKind.i64 (nth (0,0) dI (nN aJ.1.1)).1 a1),cd.2))))) cA (some (ah (0,0) fL (nN aJ.1.1) (fun cd=>(cd.1,(aE IntKind.i64 (nth (0,0) eZ (nN aJ.1.1)).2 a1)))))) dT (some (cat (tk (ay (nN aJ.1.1) 0) mr) (cat (tk (ay (len fq) (nN (ae IntKind.i64 aJ.1.1 1))) (dr (nN (ae IntKind.i64 aJ.1.1 1)) eN)) (dr (aK (ay (nN aJ.1.1) 0) (len (tk (ay (len fq) (nN (ae IntKind.i64 aJ.1.1 1))) (dr (nN (ae IntKind.i64 aJ.1.1 1)) eN)))) mr))))) dT) (fun jS=>(gd (bu 0 (ay (nN (zN (len fk))) (nN (zN (aK (ay (nN aJ.1.1) 0) (len (tk (ay (len fq) (nN (ae IntKind.i64 aJ.1.1 1))) (dr (nN (ae IntKind.i64 aJ.1.1 1)) eN)))))))) (bd (aT (upd (upd (upd (upd d1 cA (some (ah (0,0) gy (nN aJ.1.1) (fun bJ=>((ae IntKind.i64 (nth (0,0) dI (nN aJ.1.1)).1 a1),bJ.2))))) cA (some (ah (0,0) fL (nN aJ.1.1) (fun bJ=>(bJ.1,(aE IntKind.i64 (nth (0,0) eZ (nN aJ.1.1)).2 a1)))))) dT (some (cat (tk (ay (nN aJ.1.1) 0) mr) (cat (tk (ay (len fq) (nN (ae IntKind.i64 aJ.1.1 1))) (dr (nN (ae IntKind.i64 aJ.1.1 1)) eN)) (dr (aK (ay (nN aJ.1.1) 0) (len (tk (ay (len fq) (nN (ae IntKind.i64 aJ.1.1 1))) (dr (nN (ae IntKind.i64 aJ.1.1 1)) eN)))) mr))))) dT (some (cat (tk (aK 0 (nN (zN (aK (ay (nN aJ.1.1) 0) (len (tk (ay (len fq) (nN (ae IntKind.i64 aJ.1.1 1))) (dr (nN (ae IntKind.i64 aJ.1.1 1)) eN))))))) jS) (cat (rep (α:=(Int×Int)) (ay (nN (zN (len fk))) (nN (zN (aK (ay (nN aJ.1.1) 0) (len (tk (ay (len fq) (nN (ae IntKind.i64 aJ.1.1 1))) (dr (nN (ae IntKind.i64 aJ.1.1 1)) eN))))))) (0,0)) (dr (aK (aK 0 (nN (zN (aK (ay (nN aJ.1.1) 0) (len (tk (ay (len fq) (nN (ae IntKind.i64 aJ.1.1 1))) (dr (nN (ae IntKind.i64 aJ.1.1 1)) eN))))))) (ay (nN (zN (len fk))) (nN (zN (aK (ay (nN aJ.1.1) 0) (len (tk (ay (len fq) (nN (ae IntKind.i64 aJ.1.1 1))) (dr (nN (ae IntKind.i64 aJ.1.1 1)) eN)))))))) jS))))) dT) (fun MW=>(some (((nth (0,0) iB (nN aJ.1.1)).1,(true,())),((ah (0,(0,none)) d0 a0 (fun bt=>(bt.1,(bt.2.1,(some (len (upd (upd (upd (upd d1 cA (some (ah (0,0) gy (nN aJ.1.1) (fun cF=>((ae IntKind.i64 (nth (0,0) dI (nN aJ.1.1)).1 a1),cF.2))))) cA (some (ah (0,0) fL (nN aJ.1.1) (fun cF=>(cF.1,(aE IntKind.i64 (nth (0,0) eZ (nN aJ.1.1)).2 a1)))))) dT (some (cat (tk (ay (nN aJ.1.1) 0) mr) (cat (tk (ay (len fq) (nN (ae IntKind.i64 aJ.1.1 1))) (dr (nN (ae IntKind.i64 aJ.1.1 1)) eN)) (dr (aK (ay (nN aJ.1.1) 0) (len (tk (ay (len fq) (nN (ae IntKind.i64 aJ.1.1 1))) (dr (nN (ae IntKind.i64 aJ.1.1 1)) eN)))) mr))))) dT (some (cat (tk (aK 0 (nN (zN (aK (ay (nN aJ.1.1) 0) (len (tk (ay (len fq) (nN (ae IntKind.i64 aJ.1.1 1))) (dr (nN (ae IntKind.i64 aJ.1.1 1)) eN))))))) jS) (cat (rep (α:=(Int×Int)) (ay (nN (zN (len fk))) (nN (zN (aK (ay (nN aJ.1.1) 0) (len (tk (ay (len fq) (nN (ae IntKind.i64 aJ.1.1 1))) (dr (nN (ae IntKind.i64 aJ.1.1 1)) eN))))))) (0,0)) (dr (aK (aK 0 (nN (zN (aK (ay (nN aJ.1.1) 0) (len (tk (ay (len fq) (nN (ae IntKind.i64 aJ.1.1 1))) (dr (nN (ae IntKind.i64 aJ.1.1 1)) eN))))))) (ay (nN (zN (len fk))) (nN (zN (aK (ay (nN aJ.1.1) 0) (len (tk (ay (len fq) (nN (ae IntKind.i64 aJ.1.1 1))) (dr (nN (ae IntKind.i64 aJ.1.1 1)) eN)))))))) jS))))))))))),((cat (upd (upd (upd (upd (upd d1 cA (some (ah (0,0) gy (nN aJ.1.1) (fun bt=>((ae IntKind.i64 (nth (0,0) dI (nN aJ.1.1)).1 a1),bt.2))))) cA (some (ah (0,0) fL (nN aJ.1.1) (fun bt=>(bt.1,(aE IntKind.i64 (nth (0,0) eZ (nN aJ.1.1)).2 a1)))))) dT (some (cat (tk (ay (nN aJ.1.1) 0) mr) (cat (tk (ay (len fq) (nN (ae IntKind.i64 aJ.1.1 1))) (dr (nN (ae IntKind.i64 aJ.1.1 1)) eN)) (dr (aK (ay (nN aJ.1.1) 0) (len (tk (ay (len fq) (nN (ae IntKind.i64 aJ.1.1 1))) (dr (nN (ae IntKind.i64 aJ.1.1 1)) eN)))) mr))))) dT (some (cat (tk (aK 0 (nN (zN (aK (ay (nN aJ.1.1) 0) (len (tk (ay (len fq) (nN (ae IntKind.i64 aJ.1.1 1))) (dr (nN (ae IntKind.i64 aJ.1.1 1)) eN))))))) jS) (cat (rep (α:=(Int×Int)) (ay (nN (zN (len fk))) (nN (zN (aK (ay (nN aJ.1.1) 0) (len (tk (ay (len fq) (nN (ae IntKind.i64 aJ.1.1 1))) (dr (nN (ae IntKind.i64 aJ.1.1 1)) eN))))))) (0,0)) (dr (aK (aK 0 (nN (zN (aK (ay (nN aJ.1.1) 0) (len (tk (ay (len fq) (nN (ae IntKind.i64 aJ.1.1 1))) (dr (nN (ae IntKind.i64 aJ.1.1 1)) eN))))))) (ay (nN (zN (len fk))) (nN (zN (aK (ay (nN aJ.1.1) 0) (len (tk (ay (len fq) (nN (ae IntKind.i64 aJ.1.1 1))) (dr (nN (ae IntKind.i64 aJ.1.1 1)) eN)))))))) jS))))) dT none) [(some (tk (aK (ay (nN aJ.1.1) 0) (len (tk (ay (len fq) (nN (ae IntKind.i64 aJ.1.1 1))) (dr (nN (ae IntKind.i64 aJ.1.1 1)) eN)))) MW))]),()))))))))))))))))))))))))))))))))))))))))))))) (some (((nth (0,0) iB (nN aJ.1.1)).1,(true,())),(d0,((upd (upd d1 cA (some (ah (0,0) gy (nN aJ.1.1) (fun mc=>((ae IntKind.i64 (nth (0,0) dI (nN aJ.1.1)).1 a1),mc.2))))) cA (some (ah (0,0) fL (nN aJ.1.1) (fun mc=>(mc.1,(aE IntKind.i64 (nth (0,0) eZ (nN aJ.1.1)).2 a1)))))),()))))))))))))))))))))))))))))
def e.ju (L:g4) (J:g5) (a0:U4) (a1:Nat) (a2:Nat) (a3:U1) (c0:T1) (k:(((Int×Unit)×(Unit×(Unit×((U6×Unit)×(T2×m8)))))→(Option ((U1×(Int×Unit))×(T2×m8))))) (s:((Int×Unit)×(Unit×(Unit×((U6×Unit)×(T2×m8)))))):(Option ((U1×(Int×Unit))×(T2×m8))):=(br (aQ s.1.1 a0.1) (bd (e.gu L J a0 a1 s.1.1 c0 s.2.2.2.2.1) (fun p0=>(br (az (ak p0.1.1.1 0)) (k (((ae IntKind.i64 s.1.1 1),()),((),((),(((s.2.2.2.1.1.1,(s.2.2.2.1.1.2.1,(s.2.2.2.1.1.2.2.1,(s.2.2.2.1.1.2.2.2.1,(s.2.2.2.1.1.2.2.2.2.1,(s.2.2.2.1.1.2.2.2.2.2.1,(s.2.2.2.1.1.2.2.2.2.2.2.1,(s.2.2.2.1.1.2.2.2.2.2.2.2.1,(s.2.2.2.1.1.2.2.2.2.2.2.2.2.1,(s.2.2.2.1.1.2.2.2.2.2.2.2.2.2.1,(s.2.2.2.1.1.2.2.2.2.2.2.2.2.2.2.1,(s.2.2.2.1.1.2.2.2.2.2.2.2.2.2.2.2.1,(s.2.2.2.1.1.2.2.2.2.2.2.2.2.2.2.2.2.1,(s.2.2.2.1.1.2.2.2.2.2.2.2.2.2.2.2.2.2.1,(s.2.2.2.1.1.2.2.2.2.2.2.2.2.2.2.2.2.2.2.1,(s.2.2.2.1.1.2.2.2.2.2.2.2.2.2.2.2.2.2.2.2.1,(s.2.2.2.1.1.2.2.2.2.2.2.2.2.2.2.2.2.2.2.2.2.1,(s.2.2.2.1.1.2.2.2.2.2.2.2.2.2.2.2.2.2.2.2.2.2.1,(s.2.2.2.1.1.2.2.2.2.2.2.2.2.2.2.2.2.2.2.2.2.2.2.1,(s.2.2.2.1.1.2.2.2.2.2.2.2.2.2.2.2.2.2.2.2.2.2.2.2.1,(s.2.2.2.1.1.2.2.2.2.2.2.2.2.2.2.2.2.2.2.2.2.2.2.2.2.1,(s.2.2.2.1.1.2.2.2.2.2.2.2.2.2.2.2.2.2.2.2.2.2.2.2.2.2.1,(s.2.2.2.1.1.2.2.2.2.2.2.2.2.2.2.2.2.2.2.2.2.2.2.2.2.2.2.1,(s.2.2.2.1.1.2.2.2.2.2.2.2.2.2.2.2.2.2.2.2.2.2.2.2.2.2.2.2.1,(s.2.2.2.1.1.2.2.2.2.2.2.2.2.2.2.2.2.2.2.2.2.2.2.2.2.2.2.2.2.1,(s.2.2.2.1.1.2.2.2.2.2.2.2.2.2.2.2.2.2.2.2.2.2.2.2.2.2.2.2.2.2.1,())))))))))))))))))))))))))),()),(s.2.2.2.2.1,(s.2.2.2.2.2.1,(s.2.2.2.2.2.2.1,())))))))) (bd (e.ot L J a3.1.2.2.2.2.1) (fun p1=>(bd (e.bN L J a2 p1.1.1 s.2.2.2.2.2.1 s.2.2.2.2.2.2.1) (fun p2=>(br (az p2.1.2.1) (bd (e.a_ L J a3 14 0) (fun p3=>(some ((p3.1.1,(0,())),(s.2.2.2.2.1,(p2.2.1,(p2.2.2.1,()))))))) (bd (e.bF L J ((some a1),(a0,s.1.1)) (1,p0.1.1.2) c0 s.2.2.2.2.1) (fun p4=>(bd (e.aD L J ((some a1),(a0,s.1.1)) 1 (cS IntKind.u64 p2.1.1) c0 p4.2.1) (fun p5=>(bd (e.aD L J ((some a1),(a0,s.1.1)) 2 (cS IntKind.u64 p1.1.1) c0 p5.2.1) (fun p6=>(bd (e.aD L J ((some a1),(a0,s.1.1)) 3 0 c0 p6.2.1) (fun p7=>(bd (e.aD L J ((some a1),(a0,s.1.1)) 4 0 c0 p7.2.1) (fun p8=>(bd (e.a_ L J a3 0 s.1.1) (fun p9=>(some ((p9.1.1,(0,())),(p8.2.1,(p2.2.1,(p2.2.2.1,()))))))))))))))))))))))))) (bd (e.a_ L J a3 13 0) (fun gI=>(some ((gI.1.1,(0,())),(s.2.2.2.2.1,(s.2.2.2.2.2.1,(s.2.2.2.2.2.2.1,()))))))))
def e.jl (L:g4) (J:g5) (a0:U4) (a1:Nat) (a2:Nat) (a3:U1) (c0:T1) (d0:T2) (d1:T3) (d2:T4):(Option ((U1×(Int×Unit))×(T2×m8))):=(J _ _ (fun (k0:U0→_)=>(br a3.2.2.2.2.2.2.2.2.2.2.2.2.2.2.2.1 (some ((((0,(0,(0,(0,(0,(0,0)))))),(0,(0,(0,(0,([],(0,(0,(0,(0,([],(0,([],(0,(false,(false,(false,(0,(0,[]))))))))))))))))))),(1,())),(d0,(d1,(d2,()))))) (br (az (ak a3.2.1 1)) (some ((((0,(0,(0,(0,(0,(0,0)))))),(0,(0,(0,(0,([],(0,(0,(0,(0,([],(0,([],(0,(false,(false,(false,(0,(0,[]))))))))))))))))))),(1,())),(d0,(d1,(d2,()))))) (k0 ((),((),((),(((0,(0,(0,(0,(0,(0,(0,(0,(0,(0,(0,([],(0,(0,(0,(0,([],(0,([],(0,(false,(false,(false,(0,(0,([],())))))))))))))))))))))))))),()),())))))))) (fun (s1:U0)=>(br (ak a3.1.1 3) (bd (g.im ((some a1),(a0,a3.1.2.2.2.2.1)) a2 c0 d0 d1 d2) (fun p2=>(bd (e.a_ L J a3 p2.1.1 0) (fun p3=>(some ((p3.1.1,(0,())),(p2.2.1,(p2.2.2.1,(p2.2.2.2.1,()))))))))) (L _ _ (e.ju L J a0 a1 a2 a3 c0) ((0,()),((),((),(((s1.2.2.2.1.1.1,(s1.2.2.2.1.1.2.1,(s1.2.2.2.1.1.2.2.1,(s1.2.2.2.1.1.2.2.2.1,(s1.2.2.2.1.1.2.2.2.2.1,(s1.2.2.2.1.1.2.2.2.2.2.1,(s1.2.2.2.1.1.2.2.2.2.2.2.1,(s1.2.2.2.1.1.2.2.2.2.2.2.2.1,(s1.2.2.2.1.1.2.2.2.2.2.2.2.2.1,(s1.2.2.2.1.1.2.2.2.2.2.2.2.2.2.1,(s1.2.2.2.1.1.2.2.2.2.2.2.2.2.2.2.1,(s1.2.2.2.1.1.2.2.2.2.2.2.2.2.2.2.2.1,(s1.2.2.2.1.1.2.2.2.2.2.2.2.2.2.2.2.2.1,(s1.2.2.2.1.1.2.2.2.2.2.2.2.2.2.2.2.2.2.1,(s1.2.2.2.1.1.2.2.2.2.2.2.2.2.2.2.2.2.2.2.1,(s1.2.2.2.1.1.2.2.2.2.2.2.2.2.2.2.2.2.2.2.2.1,(s1.2.2.2.1.1.2.2.2.2.2.2.2.2.2.2.2.2.2.2.2.2.1,(s1.2.2.2.1.1.2.2.2.2.2.2.2.2.2.2.2.2.2.2.2.2.2.1,(s1.2.2.2.1.1.2.2.2.2.2.2.2.2.2.2.2.2.2.2.2.2.2.2.1,(s1.2.2.2.1.1.2.2.2.2.2.2.2.2.2.2.2.2.2.2.2.2.2.2.2.1,(s1.2.2.2.1.1.2.2.2.2.2.2.2.2.2.2.2.2.2.2.2.2.2.2.2.2.1,(s1.2.2.2.1.1.2.2.2.2.2.2.2.2.2.2.2.2.2.2.2.2.2.2.2.2.2.1,(s1.2.2.2.1.1.2.2.2.2.2.2.2.2.2.2.2.2.2.2.2.2.2.2.2.2.2.2.1,(s1.2.2.2.1.1.2.2.2.2.2.2.2.2.2.2.2.2.2.2.2.2.2.2.2.2.2.2.2.1,(s1.2.2.2.1.1.2.2.2.2.2.2.2.2.2.2.2.2.2.2.2.2.2.2.2.2.2.2.2.2.1,(s1.2.2.2.1.1.2.2.2.2.2.2.2.2.2.2.2.2.2.2.2.2.2.2.2.2.2.2.2.2.2.1,())))))))))))))))))))))))))),()),(d0,(d1,(d2,())))))))))))
def e.kf (L:g4) (J:g5) (a0:U4) (a1:Int):(Option ((U4×(Int×Unit))×Unit)):=(J _ _ (fun (k0:(Unit×(Unit×(Unit×(((Int×(Int×ja))×((Int×(Int×ja))×Unit))×Unit))))→_)=>(J _ _ (fun (k1:iV→_)=>(bd (e.fM L J a0) (fun p2=>(br (az p2.1.1) (k1 ((true,()),((),((),((),()))))) (bd (e.ab L J a1 0 7) (fun p3=>(k1 (((az p3.1.1),()),((),((),((),()))))))))))) (fun (s4:iV)=>(br s4.1.1 (some (((0,(0,(0,0))),(1,())),())) (br (ak a0.1 0) (some (((0,(0,(0,0))),(11,())),())) (br (ak a0.1 3) (some (((0,(0,(0,0))),(10,())),())) (br (ak a0.1 1) (k0 ((),((),((),(((2,(a0.2.1,(a1,(a0.2.2.2,())))),((0,(0,(0,(0,())))),())),()))))) (br (az (ak a0.2.2.1 a1)) (some (((0,(0,(0,0))),(15,())),())) (br (ak a0.2.1 7) (some (((0,(0,(0,0))),(16,())),())) (k0 ((),((),((),(((a0.1,(a0.2.1,(a0.2.2.1,(a0.2.2.2,())))),((0,(0,(0,(0,())))),())),())))))))))))))) (fun (s5:(Unit×(Unit×(Unit×(((Int×(Int×ja))×((Int×(Int×ja))×Unit))×Unit)))))=>(some (((s5.2.2.2.1.1.1,((ae IntKind.i64 s5.2.2.2.1.1.2.1 1),(s5.2.2.2.1.1.2.2.1,s5.2.2.2.1.1.2.2.2.1))),(0,())),()))))
def e.dV (L:g4) (J:g5) (a0:Nat) (a1:Int) (a2:Int) (a3:Int) (c0:T1) (d0:T2):(Option ((Bool×(Int×Unit))×(T2×Unit))):=(bd (e.aP L J a0 a1 c0 d0) (fun p0=>(br (az (ak p0.1.2.1 0)) (some ((false,(p0.1.2.1,())),(d0,()))) (br (az (ak p0.1.1 a2)) (some ((false,(p0.1.2.1,())),(d0,()))) (bd (e.aZ L J a0 a1 a3 c0 d0) (fun p1=>(some ((true,(p1.1.1,())),(p1.2.1,())))))))))
def e.jq (L:g4) (J:g5) (a0:U4) (a1:Nat) (a2:U1) (c0:T1) (d0:T2):(Option ((U1×(Int×Unit))×(T2×Unit))):=(bd (e.db L J a0 0 a2.1.2.2.2.2.1) (fun p0=>(br (ak a2.2.1 13) (J _ _ (fun (k1:U0→_)=>(br a2.2.2.2.2.2.2.2.2.2.2.2.2.2.2.2.1 (some ((((0,(0,(0,(0,(0,(0,0)))))),(0,(0,(0,(0,([],(0,(0,(0,(0,([],(0,([],(0,(false,(false,(false,(0,(0,[]))))))))))))))))))),(1,())),(d0,()))) (k1 ((),((),((),(((0,(0,(0,(0,(0,(0,(0,(0,(0,(0,(0,([],(0,(0,(0,(0,([],(0,([],(0,(false,(false,(false,(0,(0,([],())))))))))))))))))))))))))),()),()))))))) (fun (s2:U0)=>(bd (e.aP L J a1 p0.1.1 c0 d0) (fun p3=>(bd (e.dU L J p3.1.1) (fun p4=>(bd (e.kf L J p4.1.1 a2.2.2.1) (fun p5=>(br (ak p5.1.2.1 10) (some ((a2,(0,())),(d0,()))) (br (ak p5.1.2.1 0) (bd (e.gY L J p5.1.1) (fun p6=>(some (((a2.1,(14,(a2.2.2.1,(a2.2.2.2.1,(a2.2.2.2.2.1,(a2.2.2.2.2.2.1,(p3.1.1,(p6.1.1,a2.2.2.2.2.2.2.2.2)))))))),(0,())),(d0,()))))) (bd (e.a_ L J a2 p5.1.2.1 0) (fun p7=>(some ((p7.1.1,(0,())),(d0,()))))))))))))))) (br (ak a2.2.1 14) (J _ _ (fun (k8:U0→_)=>(br a2.2.2.2.2.2.2.2.2.2.2.2.2.2.2.2.1 (some ((((0,(0,(0,(0,(0,(0,0)))))),(0,(0,(0,(0,([],(0,(0,(0,(0,([],(0,([],(0,(false,(false,(false,(0,(0,[]))))))))))))))))))),(1,())),(d0,()))) (k8 ((),((),((),(((0,(0,(0,(0,(0,(0,(0,(0,(0,(0,(0,([],(0,(0,(0,(0,([],(0,([],(0,(false,(false,(false,(0,(0,([],())))))))))))))))))))))))))),()),()))))))) (fun (s9:U0)=>(bd (e.dV L J a1 p0.1.1 a2.2.2.2.2.2.2.1 a2.2.2.2.2.2.2.2.1 c0 d0) (fun gI=>(br gI.1.1 (bd (e.a_ L J a2 0 0) (fun kV=>(some ((kV.1.1,(0,())),(gI.2.1,()))))) (some (((a2.1,(13,(a2.2.2.1,(a2.2.2.2.1,(a2.2.2.2.2.1,(a2.2.2.2.2.2.1,(0,(0,a2.2.2.2.2.2.2.2.2)))))))),(0,())),(gI.2.1,())))))))) (J _ _ (fun (UH:U0→_)=>(br a2.2.2.2.2.2.2.2.2.2.2.2.2.2.2.2.1 (some ((((0,(0,(0,(0,(0,(0,0)))))),(0,(0,(0,(0,([],(0,(0,(0,(0,([],(0,([],(0,(false,(false,(false,(0,(0,[]))))))))))))))))))),(1,())),(d0,()))) (some ((((0,(0,(0,(0,(0,(0,0)))))),(0,(0,(0,(0,([],(0,(0,(0,(0,([],(0,([],(0,(false,(false,(false,(0,(0,[]))))))))))))))))))),(1,())),(d0,()))))) (fun (s13:U0)=>none))))))
def e.dm (L:g4) (J:g5) (a0:Nat) (a1:U1) (c0:T0) (c1:T5) (c2:T6) (c3:T7) (c4:T2) (d0:T1) (d1:T2) (d2:T3) (d3:T4) (d4:T9):(Option ((U1×Unit)×(T1×(T2×(T3×(T4×(T9×Unit))))))):=(br (ak a1.2.1 0) (bd (e.a_ L J a1 a1.2.2.2.2.2.2.2.2.2.2.2.2.2.2.2.2.2.1 0) (fun p0=>(some ((p0.1.1,()),(d0,(d1,(d2,(d3,(d4,()))))))))) (br (ak a1.2.1 1) (opt (nth bA c0 a0).2.2.1 (opt (nth bA c0 a0).2.2.2.1 none (fun p1=>none)) (fun p2=>(opt (nth bA c0 a0).2.2.2.1 none (fun p3=>(bd (e.jl L J (nth bA c0 a0).1 p2 p3 a1 d0 d1 d2 d3) (fun p4=>(some ((p4.1.1,()),(d0,(p4.2.1,(p4.2.2.1,(p4.2.2.2.1,(d4,()))))))))))))) (br (ak a1.1.1 7) (opt (nth bA c0 a0).2.2.1 none (fun p5=>(bd (g.lh (nth bA c0 a0).1 p5 a1 d0 d1) (fun p6=>(some ((p6.1.1,()),(d0,(p6.2.1,(d2,(d3,(d4,()))))))))))) (br (ak a1.1.1 4) (opt (nth bA c0 a0).2.2.1 none (fun p7=>(bd (e.jq L J (nth bA c0 a0).1 p7 a1 d0 d1) (fun p8=>(some ((p8.1.1,()),(d0,(p8.2.1,(d2,(d3,(d4,()))))))))))) (br (ak a1.1.1 5) (opt (nth bA c0 a0).2.1 (opt (nth bA c0 a0).2.2.1 none (fun p9=>(bd (g.iy (nth bA c0 a0).1 none p9 a1 d0 d1 d4) (fun gI=>(some ((gI.1.1,()),(gI.2.1,(gI.2.2.1,(d2,(d3,(gI.2.2.2.1,()))))))))))) (fun kV=>(opt (nth bA c0 a0).2.2.1 none (fun cA=>(bd (g.iy (nth bA c0 a0).1 (some kV) cA a1 d0 d1 d4) (fun cb=>(some ((cb.1.1,()),(cb.2.1,(cb.2.2.1,(d2,(d3,(cb.2.2.2.1,()))))))))))))) (opt (nth bA c0 a0).2.2.1 none (fun iB=>(bd (g.kl (nth bA c0 a0).1 iB a1 d0 d1) (fun dI=>(some ((dI.1.1,()),(d0,(dI.2.1,(d2,(d3,(d4,()))))))))))))))))
def e.cC (L:g4) (J:g5) (a0:Nat) (d0:T6) (d1:T2):(Option (Unit×(T6×(T2×Unit)))):=(br (az (ak (nth aG (ah aG d0 a0 (fun r3=>(r3.1,(r3.2.1,(r3.2.2.1,(r3.2.2.2.1,(false,r3.2.2.2.2.2))))))) a0).2.2.2.1.2.2.2.2.2.2.2.2.2.2.2.2.2.2.2.2.2.1 0)) (some ((),((ah aG d0 a0 (fun r3=>(r3.1,(r3.2.1,(r3.2.2.1,(r3.2.2.2.1,(false,r3.2.2.2.2.2))))))),(d1,())))) (br (ak (nth aG (ah aG d0 a0 (fun r3=>(r3.1,(r3.2.1,(r3.2.2.1,(r3.2.2.2.1,(false,r3.2.2.2.2.2))))))) a0).2.2.2.1.1.1 1) (opt (nth aG (ah aG d0 a0 (fun r3=>(r3.1,(r3.2.1,(r3.2.2.1,(r3.2.2.2.1,(false,r3.2.2.2.2.2))))))) a0).2.1 none (fun p0=>(bd (aT d1 p0) (fun p1=>(gd (bn (nth aG (ah aG d0 a0 (fun r5=>(r5.1,(r5.2.1,(r5.2.2.1,(r5.2.2.2.1,(false,r5.2.2.2.2.2))))))) a0).2.2.2.1.1.2.1) (gd (bu (nN (nth aG (ah aG d0 a0 (fun r5=>(r5.1,(r5.2.1,(r5.2.2.1,(r5.2.2.2.1,(false,r5.2.2.2.2.2))))))) a0).2.2.2.1.1.2.1) (len p1)) (bd (aT d1 p0) (fun p2=>(some ((),((ah aG d0 a0 (fun r6=>(r6.1,(r6.2.1,(r6.2.2.1,(r6.2.2.2.1,(false,r6.2.2.2.2.2))))))),((upd d1 p0 (some (upd p2 (nN (nth aG (ah aG d0 a0 (fun r6=>(r6.1,(r6.2.1,(r6.2.2.1,(r6.2.2.2.1,(false,r6.2.2.2.2.2))))))) a0).2.2.2.1.1.2.1) (cS IntKind.u64 (nth aG (ah aG d0 a0 (fun r6=>(r6.1,(r6.2.1,(r6.2.2.1,(r6.2.2.2.1,(false,r6.2.2.2.2.2))))))) a0).2.2.2.1.1.2.2.2.2.1)))),())))))))))))) (J _ _ (fun (k3:iV→_)=>(br (ak (nth aG (ah aG d0 a0 (fun r4=>(r4.1,(r4.2.1,(r4.2.2.1,(r4.2.2.2.1,(false,r4.2.2.2.2.2))))))) a0).2.2.2.1.1.1 7) (k3 ((true,()),((),((),((),()))))) (br (ak (nth aG (ah aG d0 a0 (fun r4=>(r4.1,(r4.2.1,(r4.2.2.1,(r4.2.2.2.1,(false,r4.2.2.2.2.2))))))) a0).2.2.2.1.1.1 8) (k3 ((true,()),((),((),((),()))))) (k3 (((ak (nth aG (ah aG d0 a0 (fun r4=>(r4.1,(r4.2.1,(r4.2.2.1,(r4.2.2.2.1,(false,r4.2.2.2.2.2))))))) a0).2.2.2.1.1.1 10),()),((),((),((),())))))))) (fun (s4:iV)=>(br s4.1.1 (opt (nth aG (ah aG d0 a0 (fun r4=>(r4.1,(r4.2.1,(r4.2.2.1,(r4.2.2.2.1,(false,r4.2.2.2.2.2))))))) a0).2.1 none (fun p5=>(bd (aT d1 p5) (fun p6=>(gd (bn (nth aG (ah aG d0 a0 (fun r6=>(r6.1,(r6.2.1,(r6.2.2.1,(r6.2.2.2.1,(false,r6.2.2.2.2.2))))))) a0).2.2.2.1.1.2.1) (gd (bu (nN (nth aG (ah aG d0 a0 (fun r6=>(r6.1,(r6.2.1,(r6.2.2.1,(r6.2.2.2.1,(false,r6.2.2.2.2.2))))))) a0).2.2.2.1.1.2.1) (len p6)) (bd (aT d1 p5) (fun p7=>(some ((),((ah aG d0 a0 (fun r7=>(r7.1,(r7.2.1,(r7.2.2.1,(r7.2.2.2.1,(false,r7.2.2.2.2.2))))))),((upd d1 p5 (some (upd p7 (nN (nth aG (ah aG d0 a0 (fun r7=>(r7.1,(r7.2.1,(r7.2.2.1,(r7.2.2.2.1,(false,r7.2.2.2.2.2))))))) a0).2.2.2.1.1.2.1) (cS IntKind.u64 (nth aG (ah aG d0 a0 (fun r7=>(r7.1,(r7.2.1,(r7.2.2.1,(r7.2.2.2.1,(false,r7.2.2.2.2.2))))))) a0).2.2.2.1.2.2.2.2.2.2.2.2.2.2.2.2.2.2.2.2.2.2.1)))),())))))))))))) (br (ak (nth aG (ah aG d0 a0 (fun r4=>(r4.1,(r4.2.1,(r4.2.2.1,(r4.2.2.2.1,(false,r4.2.2.2.2.2))))))) a0).2.2.2.1.1.1 4) (bd (e.bQ L J (nth aG (ah aG d0 a0 (fun r4=>(r4.1,(r4.2.1,(r4.2.2.1,(r4.2.2.2.1,(false,r4.2.2.2.2.2))))))) a0).2.2.1 ((nth aG (ah aG d0 a0 (fun r4=>(r4.1,(r4.2.1,(r4.2.2.1,(r4.2.2.2.1,(false,r4.2.2.2.2.2))))))) a0).2.2.2.1.1.2.2.2.2.1,true)) (fun p8=>(some ((),((ah aG (ah aG d0 a0 (fun r6=>(r6.1,(r6.2.1,(r6.2.2.1,(r6.2.2.2.1,(false,r6.2.2.2.2.2))))))) a0 (fun r5=>(r5.1,(r5.2.1,(p8.1.1,r5.2.2.2))))),(d1,())))))) (br (ak (nth aG (ah aG d0 a0 (fun r4=>(r4.1,(r4.2.1,(r4.2.2.1,(r4.2.2.2.1,(false,r4.2.2.2.2.2))))))) a0).2.2.2.1.1.1 6) (bd (e.bQ L J (nth aG (ah aG d0 a0 (fun r4=>(r4.1,(r4.2.1,(r4.2.2.1,(r4.2.2.2.1,(false,r4.2.2.2.2.2))))))) a0).2.2.1 ((nth aG (ah aG d0 a0 (fun r4=>(r4.1,(r4.2.1,(r4.2.2.1,(r4.2.2.2.1,(false,r4.2.2.2.2.2))))))) a0).2.2.2.1.1.2.2.2.2.1,false)) (fun p9=>(some ((),((ah aG (ah aG d0 a0 (fun r6=>(r6.1,(r6.2.1,(r6.2.2.1,(r6.2.2.2.1,(false,r6.2.2.2.2.2))))))) a0 (fun r5=>(r5.1,(r5.2.1,(p9.1.1,r5.2.2.2))))),(d1,())))))) (br (ak (nth aG (ah aG d0 a0 (fun r4=>(r4.1,(r4.2.1,(r4.2.2.1,(r4.2.2.2.1,(false,r4.2.2.2.2.2))))))) a0).2.2.2.1.1.1 5) (bd (e.iD L J (nth aG (ah aG d0 a0 (fun r4=>(r4.1,(r4.2.1,(r4.2.2.1,(r4.2.2.2.1,(false,r4.2.2.2.2.2))))))) a0).2.2.1) (fun gI=>(some ((),((ah aG (ah aG d0 a0 (fun r6=>(r6.1,(r6.2.1,(r6.2.2.1,(r6.2.2.2.1,(false,r6.2.2.2.2.2))))))) a0 (fun r5=>(r5.1,(r5.2.1,(gI.1.1,r5.2.2.2))))),(d1,())))))) (some ((),((ah aG d0 a0 (fun r4=>(r4.1,(r4.2.1,(r4.2.2.1,(r4.2.2.2.1,(false,r4.2.2.2.2.2))))))),(d1,()))))))))))))
def e.cU (L:g4) (J:g5) (a0:Nat) (a1:Int) (c0:T5) (d0:T0) (d1:T1) (d2:T2) (d3:T3) (d4:T4) (d5:T6) (d6:T7) (d7:T2) (d8:T9):(Option ((Bool×(Int×Unit))×U9)):=(opt (nth bA d0 a0).2.2.2.2.1 (bd (e.ab L J a1 0 (-1)) (fun p0=>(br (az p0.1.1) (some ((false,(2,())),(d0,(d1,(d2,(d3,(d4,(d5,(d6,(d7,(d8,()))))))))))) (opt (nth bA d0 a0).2.2.2.2.1 none (fun p1=>(bd (aT c0 p1) (fun p2=>(gd (bn a1) (gd (bu (nN a1) (len p2)) (bd (aT c0 p1) (fun p3=>(opt (nth none p3 (nN a1)) none (fun p4=>(bd (e.bf L J p4 d5 d7) (fun p5=>(br p5.1.1 (some ((false,(23,())),(d0,(d1,(d2,(d3,(d4,(d5,(d6,(d7,(d8,()))))))))))) (J _ _ (fun (k6:(Unit×(Unit×(Unit×(Unit×(T0×(T6×(T7×Unit)))))))→_)=>(br (az (nth aG d5 p4).2.2.2.2.1) (gd (bu 0 (len (nth aG d5 p4).1)) (gd (bp 1 (len (nth aG d5 p4).1)) (gd (bp (len (nth aG d5 p4).1) (len (nth aG d5 p4).1)) (opt (nth aG (ah aG d5 p4 (fun rG=>((tk (ay (len rG.1) 1) (dr 1 rG.1)),rG.2))) p4).2.1 (bd (e.gk L J (nth bA d0 a0).1 none (nth aG (ah aG d5 p4 (fun rG=>((tk (ay (len rG.1) 1) (dr 1 rG.1)),rG.2))) p4).2.2.1 (nth (0,(0,(0,(0,(0,(0,0)))))) (nth aG d5 p4).1 0) d7) (fun p7=>(opt (nth bA d0 a0).2.2.2.2.2.1 (opt (nth bA d0 a0).2.2.2.2.2.1 (gd (bp (len (α:=U3) [(a1,((nth (0,(0,(0,(0,(0,(0,0)))))) (nth aG d5 p4).1 0),((nth bA d0 a0).2.2.2.2.2.2,((-1),((-1),(0,(0,[])))))))]) 16777216) (k6 ((),((),((),((),((ah bA d0 a0 (fun lv=>(lv.1,(lv.2.1,(lv.2.2.1,(lv.2.2.2.1,(lv.2.2.2.2.1,((some (len d6)),lv.2.2.2.2.2.2)))))))),((ah aG (ah aG (ah aG (ah aG d5 p4 (fun cd=>((tk (ay (len cd.1) 1) (dr 1 cd.1)),cd.2))) p4 (fun dn=>(dn.1,(dn.2.1,(dn.2.2.1,(p7.1.1,dn.2.2.2.2)))))) p4 (fun gM=>(gM.1,(gM.2.1,(gM.2.2.1,(gM.2.2.2.1,(true,gM.2.2.2.2.2))))))) p4 (fun lv=>(lv.1,(lv.2.1,(lv.2.2.1,(lv.2.2.2.1,(lv.2.2.2.2.1,0))))))),((cat d6 [(some [(a1,((nth (0,(0,(0,(0,(0,(0,0)))))) (nth aG d5 p4).1 0),((nth bA d0 a0).2.2.2.2.2.2,((-1),((-1),(0,(0,[])))))))])]),()))))))))) (fun p8=>(bd (aT d6 p8) (fun p9=>(gd (bp (aK (len p9) (len (α:=U3) [(a1,((nth (0,(0,(0,(0,(0,(0,0)))))) (nth aG d5 p4).1 0),((nth bA d0 a0).2.2.2.2.2.2,((-1),((-1),(0,(0,[])))))))])) 16777216) (gd (bu p8 (len d6)) (k6 ((),((),((),((),((ah bA d0 a0 (fun dn=>(dn.1,(dn.2.1,(dn.2.2.1,(dn.2.2.2.1,(dn.2.2.2.2.1,((some (len (upd d6 p8 none))),dn.2.2.2.2.2.2)))))))),((ah aG (ah aG (ah aG (ah aG d5 p4 (fun bt=>((tk (ay (len bt.1) 1) (dr 1 bt.1)),bt.2))) p4 (fun bJ=>(bJ.1,(bJ.2.1,(bJ.2.2.1,(p7.1.1,bJ.2.2.2.2)))))) p4 (fun cd=>(cd.1,(cd.2.1,(cd.2.2.1,(cd.2.2.2.1,(true,cd.2.2.2.2.2))))))) p4 (fun dn=>(dn.1,(dn.2.1,(dn.2.2.1,(dn.2.2.2.1,(dn.2.2.2.2.1,0))))))),((cat (upd d6 p8 none) [(some (cat p9 [(a1,((nth (0,(0,(0,(0,(0,(0,0)))))) (nth aG d5 p4).1 0),((nth bA d0 a0).2.2.2.2.2.2,((-1),((-1),(0,(0,[])))))))]))]),())))))))))))))) (fun gI=>(bd (aT d6 gI) (fun kV=>(opt (nth bA d0 a0).2.2.2.2.2.1 (gd (bp (len (α:=U3) [(a1,((nth (0,(0,(0,(0,(0,(0,0)))))) (nth aG d5 p4).1 0),((nth bA d0 a0).2.2.2.2.2.2,((-1),((-1),(0,(0,[])))))))]) 16777216) (k6 ((),((),((),((),((ah bA d0 a0 (fun dn=>(dn.1,(dn.2.1,(dn.2.2.1,(dn.2.2.2.1,(dn.2.2.2.2.1,((some (len d6)),dn.2.2.2.2.2.2)))))))),((ah aG (ah aG (ah aG (ah aG d5 p4 (fun bt=>((tk (ay (len bt.1) 1) (dr 1 bt.1)),bt.2))) p4 (fun bJ=>(bJ.1,(bJ.2.1,(bJ.2.2.1,(p7.1.1,bJ.2.2.2.2)))))) p4 (fun cd=>(cd.1,(cd.2.1,(cd.2.2.1,(cd.2.2.2.1,(true,cd.2.2.2.2.2))))))) p4 (fun dn=>(dn.1,(dn.2.1,(dn.2.2.1,(dn.2.2.2.1,(dn.2.2.2.2.1,(zN (len kV))))))))),((cat d6 [(some [(a1,((nth (0,(0,(0,(0,(0,(0,0)))))) (nth aG d5 p4).1 0),((nth bA d0 a0).2.2.2.2.2.2,((-1),((-1),(0,(0,[])))))))])]),()))))))))) (fun cA=>(bd (aT d6 cA) (fun cb=>(gd (bp (aK (len cb) (len (α:=U3) [(a1,((nth (0,(0,(0,(0,(0,(0,0)))))) (nth aG d5 p4).1 0),((nth bA d0 a0).2.2.2.2.2.2,((-1),((-1),(0,(0,[])))))))])) 16777216) (gd (bu cA (len d6)) (k6 ((),((),((),((),((ah bA d0 a0 (fun bJ=>(bJ.1,(bJ.2.1,(bJ.2.2.1,(bJ.2.2.2.1,(bJ.2.2.2.2.1,((some (len (upd d6 cA none))),bJ.2.2.2.2.2.2)))))))),((ah aG (ah aG (ah aG (ah aG d5 p4 (fun bY=>((tk (ay (len bY.1) 1) (dr 1 bY.1)),bY.2))) p4 (fun cF=>(cF.1,(cF.2.1,(cF.2.2.1,(p7.1.1,cF.2.2.2.2)))))) p4 (fun bt=>(bt.1,(bt.2.1,(bt.2.2.1,(bt.2.2.2.1,(true,bt.2.2.2.2.2))))))) p4 (fun bJ=>(bJ.1,(bJ.2.1,(bJ.2.2.1,(bJ.2.2.2.1,(bJ.2.2.2.2.1,(zN (len kV))))))))),((cat (upd d6 cA none) [(some (cat cb [(a1,((nth (0,(0,(0,(0,(0,(0,0)))))) (nth aG d5 p4).1 0),((nth bA d0 a0).2.2.2.2.2.2,((-1),((-1),(0,(0,[])))))))]))]),())))))))))))))))))))) (fun iB=>(bd (e.gk L J (nth bA d0 a0).1 (some iB) (nth aG (ah aG d5 p4 (fun lv=>((tk (ay (len lv.1) 1) (dr 1 lv.1)),lv.2))) p4).2.2.1 (nth (0,(0,(0,(0,(0,(0,0)))))) (nth aG d5 p4).1 0) d7) (fun dI=>(opt (nth bA d0 a0).2.2.2.2.2.1 (opt (nth bA d0 a0).2.2.2.2.2.1 (gd (bp (len (α:=U3) [(a1,((nth (0,(0,(0,(0,(0,(0,0)))))) (nth aG d5 p4).1 0),((nth bA d0 a0).2.2.2.2.2.2,((-1),((-1),(0,(0,[])))))))]) 16777216) (k6 ((),((),((),((),((ah bA d0 a0 (fun gM=>(gM.1,(gM.2.1,(gM.2.2.1,(gM.2.2.2.1,(gM.2.2.2.2.1,((some (len d6)),gM.2.2.2.2.2.2)))))))),((ah aG (ah aG (ah aG (ah aG d5 p4 (fun bJ=>((tk (ay (len bJ.1) 1) (dr 1 bJ.1)),bJ.2))) p4 (fun cd=>(cd.1,(cd.2.1,(cd.2.2.1,(dI.1.1,cd.2.2.2.2)))))) p4 (fun dn=>(dn.1,(dn.2.1,(dn.2.2.1,(dn.2.2.2.1,(true,dn.2.2.2.2.2))))))) p4 (fun gM=>(gM.1,(gM.2.1,(gM.2.2.1,(gM.2.2.2.1,(gM.2.2.2.2.1,0))))))),((cat d6 [(some [(a1,((nth (0,(0,(0,(0,(0,(0,0)))))) (nth aG d5 p4).1 0),((nth bA d0 a0).2.2.2.2.2.2,((-1),((-1),(0,(0,[])))))))])]),()))))))))) (fun eZ=>(bd (aT d6 eZ) (fun gy=>(gd (bp (aK (len gy) (len (α:=U3) [(a1,((nth (0,(0,(0,(0,(0,(0,0)))))) (nth aG d5 p4).1 0),((nth bA d0 a0).2.2.2.2.2.2,((-1),((-1),(0,(0,[])))))))])) 16777216) (gd (bu eZ (len d6)) (k6 ((),((),((),((),((ah bA d0 a0 (fun cd=>(cd.1,(cd.2.1,(cd.2.2.1,(cd.2.2.2.1,(cd.2.2.2.2.1,((some (len (upd d6 eZ none))),cd.2.2.2.2.2.2)))))))),((ah aG (ah aG (ah aG (ah aG d5 p4 (fun cF=>((tk (ay (len cF.1) 1) (dr 1 cF.1)),cF.2))) p4 (fun bt=>(bt.1,(bt.2.1,(bt.2.2.1,(dI.1.1,bt.2.2.2.2)))))) p4 (fun bJ=>(bJ.1,(bJ.2.1,(bJ.2.2.1,(bJ.2.2.2.1,(true,bJ.2.2.2.2.2))))))) p4 (fun cd=>(cd.1,(cd.2.1,(cd.2.2.1,(cd.2.2.2.1,(cd.2.2.2.2.1,0))))))),((cat (upd d6 eZ none) [(some (cat gy [(a1,((nth (0,(0,(0,(0,(0,(0,0)))))) (nth aG d5 p4).1 0),((nth bA d0 a0).2.2.2.2.2.2,((-1),((-1),(0,(0,[])))))))]))]),())))))))))))))) (fun fL=>(bd (aT d6 fL) (fun kF=>(opt (nth bA d0 a0).2.2.2.2.2.1 (gd (bp (len (α:=U3) [(a1,((nth (0,(0,(0,(0,(0,(0,0)))))) (nth aG d5 p4).1 0),((nth bA d0 a0).2.2.2.2.2.2,((-1),((-1),(0,(0,[])))))))]) 16777216) (k6 ((),((),((),((),((ah bA d0 a0 (fun cd=>(cd.1,(cd.2.1,(cd.2.2.1,(cd.2.2.2.1,(cd.2.2.2.2.1,((some (len d6)),cd.2.2.2.2.2.2)))))))),((ah aG (ah aG (ah aG (ah aG d5 p4 (fun cF=>((tk (ay (len cF.1) 1) (dr 1 cF.1)),cF.2))) p4 (fun bt=>(bt.1,(bt.2.1,(bt.2.2.1,(dI.1.1,bt.2.2.2.2)))))) p4 (fun bJ=>(bJ.1,(bJ.2.1,(bJ.2.2.1,(bJ.2.2.2.1,(true,bJ.2.2.2.2.2))))))) p4 (fun cd=>(cd.1,(cd.2.1,(cd.2.2.1,(cd.2.2.2.1,(cd.2.2.2.2.1,(zN (len kF))))))))),((cat d6 [(some [(a1,((nth (0,(0,(0,(0,(0,(0,0)))))) (nth aG d5 p4).1 0),((nth bA d0 a0).2.2.2.2.2.2,((-1),((-1),(0,(0,[])))))))])]),()))))))))) (fun dT=>(bd (aT d6 dT) (fun mu=>(gd (bp (aK (len mu) (len (α:=U3) [(a1,((nth (0,(0,(0,(0,(0,(0,0)))))) (nth aG d5 p4).1 0),((nth bA d0 a0).2.2.2.2.2.2,((-1),((-1),(0,(0,[])))))))])) 16777216) (gd (bu dT (len d6)) (k6 ((),((),((),((),((ah bA d0 a0 (fun bt=>(bt.1,(bt.2.1,(bt.2.2.1,(bt.2.2.2.1,(bt.2.2.2.2.1,((some (len (upd d6 dT none))),bt.2.2.2.2.2.2)))))))),((ah aG (ah aG (ah aG (ah aG d5 p4 (fun kH=>((tk (ay (len kH.1) 1) (dr 1 kH.1)),kH.2))) p4 (fun bY=>(bY.1,(bY.2.1,(bY.2.2.1,(dI.1.1,bY.2.2.2.2)))))) p4 (fun cF=>(cF.1,(cF.2.1,(cF.2.2.1,(cF.2.2.2.1,(true,cF.2.2.2.2.2))))))) p4 (fun bt=>(bt.1,(bt.2.1,(bt.2.2.1,(bt.2.2.2.1,(bt.2.2.2.2.1,(zN (len kF))))))))),((cat (upd d6 dT none) [(some (cat mu [(a1,((nth (0,(0,(0,(0,(0,(0,0)))))) (nth aG d5 p4).1 0),((nth bA d0 a0).2.2.2.2.2.2,((-1),((-1),(0,(0,[])))))))]))]),()))))))))))))))))))))))))) (k6 ((),((),((),((),(d0,(d5,(d6,())))))))))) (fun (oF:(Unit×(Unit×(Unit×(Unit×(T0×(T6×(T7×Unit))))))))=>(J _ _ (fun (OM:(Unit×(Unit×(Unit×(Unit×(T1×(T2×(T3×(T4×(T6×(T9×Unit))))))))))→_)=>(bd (e.dm L J a0 (nth aG oF.2.2.2.2.2.1 p4).2.2.2.1 oF.2.2.2.2.1 c0 oF.2.2.2.2.2.1 oF.2.2.2.2.2.2.1 d7 d1 d2 d3 d4 d8) (fun jX=>(OM ((),((),((),((),(jX.2.1,(jX.2.2.1,(jX.2.2.2.1,(jX.2.2.2.2.1,((ah aG oF.2.2.2.2.2.1 p4 (fun gM=>(gM.1,(gM.2.1,(gM.2.2.1,(jX.1.1,gM.2.2.2.2)))))),(jX.2.2.2.2.2.1,())))))))))))))) (fun (ng:(Unit×(Unit×(Unit×(Unit×(T1×(T2×(T3×(T4×(T6×(T9×Unit)))))))))))=>(opt (nth bA oF.2.2.2.2.1 a0).2.2.2.2.2.1 none (fun eN=>(bd (aT oF.2.2.2.2.2.2.1 eN) (fun mr=>(gd (bn (nth aG ng.2.2.2.2.2.2.2.2.1 p4).2.2.2.2.2) (gd (bu (nN (nth aG ng.2.2.2.2.2.2.2.2.1 p4).2.2.2.2.2) (len mr)) (J _ _ (fun (UF:(Unit×(Unit×(Unit×(Unit×(T7×Unit)))))→_)=>(br (nth aG ng.2.2.2.2.2.2.2.2.1 p4).2.2.2.1.2.2.2.2.2.2.2.2.2.2.2.2.2.2.2.2.1 (bd (aT oF.2.2.2.2.2.2.1 eN) (fun jS=>(UF ((),((),((),((),((upd oF.2.2.2.2.2.2.1 eN (some (ah sm jS (nN (nth aG ng.2.2.2.2.2.2.2.2.1 p4).2.2.2.2.2) (fun bJ=>(bJ.1,(bJ.2.1,(bJ.2.2.1,((nth bA oF.2.2.2.2.1 a0).2.2.2.2.2.2,bJ.2.2.2.2)))))))),())))))))) (UF ((),((),((),((),(oF.2.2.2.2.2.2.1,())))))))) (fun (C6:(Unit×(Unit×(Unit×(Unit×(T7×Unit))))))=>(J _ _ (fun (UE:(Unit×(Unit×(Unit×(Unit×(T6×(T7×(T2×Unit)))))))→_)=>(br (nth aG ng.2.2.2.2.2.2.2.2.1 p4).2.2.2.1.2.2.2.2.2.2.2.2.2.2.2.2.2.2.2.1 (bd (aT C6.2.2.2.2.1 eN) (fun HY=>(bd (aT (upd C6.2.2.2.2.1 eN (some (ah sm HY (nN (nth aG ng.2.2.2.2.2.2.2.2.1 p4).2.2.2.2.2) (fun bt=>(bt.1,(bt.2.1,(bt.2.2.1,(bt.2.2.2.1,((nth bA oF.2.2.2.2.1 a0).2.2.2.2.2.2,bt.2.2.2.2.2))))))))) eN) (fun HX=>(bd (e.cC L J p4 ng.2.2.2.2.2.2.2.2.1 d7) (fun wz=>(UE ((),((),((),((),(wz.2.1,((upd (upd C6.2.2.2.2.1 eN (some (ah sm HY (nN (nth aG ng.2.2.2.2.2.2.2.2.1 p4).2.2.2.2.2) (fun bY=>(bY.1,(bY.2.1,(bY.2.2.1,(bY.2.2.2.1,((nth bA oF.2.2.2.2.1 a0).2.2.2.2.2.2,bY.2.2.2.2.2))))))))) eN (some (ah sm HX (nN (nth aG ng.2.2.2.2.2.2.2.2.1 p4).2.2.2.2.2) (fun bY=>(bY.1,(bY.2.1,(bY.2.2.1,(bY.2.2.2.1,(bY.2.2.2.2.1,(nth aG ng.2.2.2.2.2.2.2.2.1 p4).2.2.2.1.2.2.2.2.2.2.2.2.2.2.2.2.2.2.2.2.2))))))))),(wz.2.2.1,())))))))))))))) (UE ((),((),((),((),(ng.2.2.2.2.2.2.2.2.1,(C6.2.2.2.2.1,(d7,())))))))))) (fun (DP:(Unit×(Unit×(Unit×(Unit×(T6×(T7×(T2×Unit))))))))=>(bd (e.bf L J p4 DP.2.2.2.2.1 DP.2.2.2.2.2.2.1) (fun MV=>(some ((MV.1.1,(0,())),((ah bA oF.2.2.2.2.1 a0 (fun bt=>(bt.1,(bt.2.1,(bt.2.2.1,(bt.2.2.2.1,(bt.2.2.2.2.1,(bt.2.2.2.2.2.1,(ae IntKind.i64 bt.2.2.2.2.2.2 1))))))))),(ng.2.2.2.2.1,(ng.2.2.2.2.2.1,(ng.2.2.2.2.2.2.1,(ng.2.2.2.2.2.2.2.1,(DP.2.2.2.2.1,(DP.2.2.2.2.2.1,(DP.2.2.2.2.2.2.1,(ng.2.2.2.2.2.2.2.2.2.1,()))))))))))))))))))))))))))))))))))))))))))) (fun MU=>(bd (aT c0 MU) (fun MT=>(bd (e.ab L J a1 0 (aE IntKind.i64 (zN (len MT)) 1)) (fun MS=>(br (az MS.1.1) (some ((false,(2,())),(d0,(d1,(d2,(d3,(d4,(d5,(d6,(d7,(d8,()))))))))))) (opt (nth bA d0 a0).2.2.2.2.1 none (fun HW=>(bd (aT c0 HW) (fun MR=>(gd (bn a1) (gd (bu (nN a1) (len MR)) (bd (aT c0 HW) (fun MQ=>(opt (nth none MQ (nN a1)) none (fun bW=>(bd (e.bf L J bW d5 d7) (fun MP=>(br MP.1.1 (some ((false,(23,())),(d0,(d1,(d2,(d3,(d4,(d5,(d6,(d7,(d8,()))))))))))) (J _ _ (fun (uO:(Unit×(Unit×(Unit×(Unit×(T0×(T6×(T7×Unit)))))))→_)=>(br (az (nth aG d5 bW).2.2.2.2.1) (gd (bu 0 (len (nth aG d5 bW).1)) (gd (bp 1 (len (nth aG d5 bW).1)) (gd (bp (len (nth aG d5 bW).1) (len (nth aG d5 bW).1)) (opt (nth aG (ah aG d5 bW (fun gM=>((tk (ay (len gM.1) 1) (dr 1 gM.1)),gM.2))) bW).2.1 (bd (e.gk L J (nth bA d0 a0).1 none (nth aG (ah aG d5 bW (fun gM=>((tk (ay (len gM.1) 1) (dr 1 gM.1)),gM.2))) bW).2.2.1 (nth (0,(0,(0,(0,(0,(0,0)))))) (nth aG d5 bW).1 0) d7) (fun BU=>(opt (nth bA d0 a0).2.2.2.2.2.1 (opt (nth bA d0 a0).2.2.2.2.2.1 (gd (bp (len (α:=U3) [(a1,((nth (0,(0,(0,(0,(0,(0,0)))))) (nth aG d5 bW).1 0),((nth bA d0 a0).2.2.2.2.2.2,((-1),((-1),(0,(0,[])))))))]) 16777216) (uO ((),((),((),((),((ah bA d0 a0 (fun dn=>(dn.1,(dn.2.1,(dn.2.2.1,(dn.2.2.2.1,(dn.2.2.2.2.1,((some (len d6)),dn.2.2.2.2.2.2)))))))),((ah aG (ah aG (ah aG (ah aG d5 bW (fun bt=>((tk (ay (len bt.1) 1) (dr 1 bt.1)),bt.2))) bW (fun bJ=>(bJ.1,(bJ.2.1,(bJ.2.2.1,(BU.1.1,bJ.2.2.2.2)))))) bW (fun cd=>(cd.1,(cd.2.1,(cd.2.2.1,(cd.2.2.2.1,(true,cd.2.2.2.2.2))))))) bW (fun dn=>(dn.1,(dn.2.1,(dn.2.2.1,(dn.2.2.2.1,(dn.2.2.2.2.1,0))))))),((cat d6 [(some [(a1,((nth (0,(0,(0,(0,(0,(0,0)))))) (nth aG d5 bW).1 0),((nth bA d0 a0).2.2.2.2.2.2,((-1),((-1),(0,(0,[])))))))])]),()))))))))) (fun BT=>(bd (aT d6 BT) (fun BS=>(gd (bp (aK (len BS) (len (α:=U3) [(a1,((nth (0,(0,(0,(0,(0,(0,0)))))) (nth aG d5 bW).1 0),((nth bA d0 a0).2.2.2.2.2.2,((-1),((-1),(0,(0,[])))))))])) 16777216) (gd (bu BT (len d6)) (uO ((),((),((),((),((ah bA d0 a0 (fun bJ=>(bJ.1,(bJ.2.1,(bJ.2.2.1,(bJ.2.2.2.1,(bJ.2.2.2.2.1,((some (len (upd d6 BT none))),bJ.2.2.2.2.2.2)))))))),((ah aG (ah aG (ah aG (ah aG d5 bW (fun bY=>((tk (ay (len bY.1) 1) (dr 1 bY.1)),bY.2))) bW (fun cF=>(cF.1,(cF.2.1,(cF.2.2.1,(BU.1.1,cF.2.2.2.2)))))) bW (fun bt=>(bt.1,(bt.2.1,(bt.2.2.1,(bt.2.2.2.1,(true,bt.2.2.2.2.2))))))) bW (fun bJ=>(bJ.1,(bJ.2.1,(bJ.2.2.1,(bJ.2.2.2.1,(bJ.2.2.2.2.1,0))))))),((cat (upd d6 BT none) [(some (cat BS [(a1,((nth (0,(0,(0,(0,(0,(0,0)))))) (nth aG d5 bW).1 0),((nth bA d0 a0).2.2.2.2.2.2,((-1),((-1),(0,(0,[])))))))]))]),())))))))))))))) (fun MO=>(bd (aT d6 MO) (fun HV=>(opt (nth bA d0 a0).2.2.2.2.2.1 (gd (bp (len (α:=U3) [(a1,((nth (0,(0,(0,(0,(0,(0,0)))))) (nth aG d5 bW).1 0),((nth bA d0 a0).2.2.2.2.2.2,((-1),((-1),(0,(0,[])))))))]) 16777216) (uO ((),((),((),((),((ah bA d0 a0 (fun bJ=>(bJ.1,(bJ.2.1,(bJ.2.2.1,(bJ.2.2.2.1,(bJ.2.2.2.2.1,((some (len d6)),bJ.2.2.2.2.2.2)))))))),((ah aG (ah aG (ah aG (ah aG d5 bW (fun bY=>((tk (ay (len bY.1) 1) (dr 1 bY.1)),bY.2))) bW (fun cF=>(cF.1,(cF.2.1,(cF.2.2.1,(BU.1.1,cF.2.2.2.2)))))) bW (fun bt=>(bt.1,(bt.2.1,(bt.2.2.1,(bt.2.2.2.1,(true,bt.2.2.2.2.2))))))) bW (fun bJ=>(bJ.1,(bJ.2.1,(bJ.2.2.1,(bJ.2.2.2.1,(bJ.2.2.2.2.1,(zN (len HV))))))))),((cat d6 [(some [(a1,((nth (0,(0,(0,(0,(0,(0,0)))))) (nth aG d5 bW).1 0),((nth bA d0 a0).2.2.2.2.2.2,((-1),((-1),(0,(0,[])))))))])]),()))))))))) (fun HU=>(bd (aT d6 HU) (fun HR=>(gd (bp (aK (len HR) (len (α:=U3) [(a1,((nth (0,(0,(0,(0,(0,(0,0)))))) (nth aG d5 bW).1 0),((nth bA d0 a0).2.2.2.2.2.2,((-1),((-1),(0,(0,[])))))))])) 16777216) (gd (bu HU (len d6)) (uO ((),((),((),((),((ah bA d0 a0 (fun cF=>(cF.1,(cF.2.1,(cF.2.2.1,(cF.2.2.2.1,(cF.2.2.2.2.1,((some (len (upd d6 HU none))),cF.2.2.2.2.2.2)))))))),((ah aG (ah aG (ah aG (ah aG d5 bW (fun lu=>((tk (ay (len lu.1) 1) (dr 1 lu.1)),lu.2))) bW (fun kH=>(kH.1,(kH.2.1,(kH.2.2.1,(BU.1.1,kH.2.2.2.2)))))) bW (fun bY=>(bY.1,(bY.2.1,(bY.2.2.1,(bY.2.2.2.1,(true,bY.2.2.2.2.2))))))) bW (fun cF=>(cF.1,(cF.2.1,(cF.2.2.1,(cF.2.2.2.1,(cF.2.2.2.2.1,(zN (len HV))))))))),((cat (upd d6 HU none) [(some (cat HR [(a1,((nth (0,(0,(0,(0,(0,(0,0)))))) (nth aG d5 bW).1 0),((nth bA d0 a0).2.2.2.2.2.2,((-1),((-1),(0,(0,[])))))))]))]),())))))))))))))))))))) (fun Em=>(bd (e.gk L J (nth bA d0 a0).1 (some Em) (nth aG (ah aG d5 bW (fun dn=>((tk (ay (len dn.1) 1) (dr 1 dn.1)),dn.2))) bW).2.2.1 (nth (0,(0,(0,(0,(0,(0,0)))))) (nth aG d5 bW).1 0) d7) (fun BR=>(opt (nth bA d0 a0).2.2.2.2.2.1 (opt (nth bA d0 a0).2.2.2.2.2.1 (gd (bp (len (α:=U3) [(a1,((nth (0,(0,(0,(0,(0,(0,0)))))) (nth aG d5 bW).1 0),((nth bA d0 a0).2.2.2.2.2.2,((-1),((-1),(0,(0,[])))))))]) 16777216) (uO ((),((),((),((),((ah bA d0 a0 (fun cd=>(cd.1,(cd.2.1,(cd.2.2.1,(cd.2.2.2.1,(cd.2.2.2.2.1,((some (len d6)),cd.2.2.2.2.2.2)))))))),((ah aG (ah aG (ah aG (ah aG d5 bW (fun cF=>((tk (ay (len cF.1) 1) (dr 1 cF.1)),cF.2))) bW (fun bt=>(bt.1,(bt.2.1,(bt.2.2.1,(BR.1.1,bt.2.2.2.2)))))) bW (fun bJ=>(bJ.1,(bJ.2.1,(bJ.2.2.1,(bJ.2.2.2.1,(true,bJ.2.2.2.2.2))))))) bW (fun cd=>(cd.1,(cd.2.1,(cd.2.2.1,(cd.2.2.2.1,(cd.2.2.2.2.1,0))))))),((cat d6 [(some [(a1,((nth (0,(0,(0,(0,(0,(0,0)))))) (nth aG d5 bW).1 0),((nth bA d0 a0).2.2.2.2.2.2,((-1),((-1),(0,(0,[])))))))])]),()))))))))) (fun xM=>(bd (aT d6 xM) (fun wy=>(gd (bp (aK (len wy) (len (α:=U3) [(a1,((nth (0,(0,(0,(0,(0,(0,0)))))) (nth aG d5 bW).1 0),((nth bA d0 a0).2.2.2.2.2.2,((-1),((-1),(0,(0,[])))))))])) 16777216) (gd (bu xM (len d6)) (uO ((),((),((),((),((ah bA d0 a0 (fun bt=>(bt.1,(bt.2.1,(bt.2.2.1,(bt.2.2.2.1,(bt.2.2.2.2.1,((some (len (upd d6 xM none))),bt.2.2.2.2.2.2)))))))),((ah aG (ah aG (ah aG (ah aG d5 bW (fun kH=>((tk (ay (len kH.1) 1) (dr 1 kH.1)),kH.2))) bW (fun bY=>(bY.1,(bY.2.1,(bY.2.2.1,(BR.1.1,bY.2.2.2.2)))))) bW (fun cF=>(cF.1,(cF.2.1,(cF.2.2.1,(cF.2.2.2.1,(true,cF.2.2.2.2.2))))))) bW (fun bt=>(bt.1,(bt.2.1,(bt.2.2.1,(bt.2.2.2.1,(bt.2.2.2.2.1,0))))))),((cat (upd d6 xM none) [(some (cat wy [(a1,((nth (0,(0,(0,(0,(0,(0,0)))))) (nth aG d5 bW).1 0),((nth bA d0 a0).2.2.2.2.2.2,((-1),((-1),(0,(0,[])))))))]))]),())))))))))))))) (fun GZ=>(bd (aT d6 GZ) (fun Ae=>(opt (nth bA d0 a0).2.2.2.2.2.1 (gd (bp (len (α:=U3) [(a1,((nth (0,(0,(0,(0,(0,(0,0)))))) (nth aG d5 bW).1 0),((nth bA d0 a0).2.2.2.2.2.2,((-1),((-1),(0,(0,[])))))))]) 16777216) (uO ((),((),((),((),((ah bA d0 a0 (fun bt=>(bt.1,(bt.2.1,(bt.2.2.1,(bt.2.2.2.1,(bt.2.2.2.2.1,((some (len d6)),bt.2.2.2.2.2.2)))))))),((ah aG (ah aG (ah aG (ah aG d5 bW (fun kH=>((tk (ay (len kH.1) 1) (dr 1 kH.1)),kH.2))) bW (fun bY=>(bY.1,(bY.2.1,(bY.2.2.1,(BR.1.1,bY.2.2.2.2)))))) bW (fun cF=>(cF.1,(cF.2.1,(cF.2.2.1,(cF.2.2.2.1,(true,cF.2.2.2.2.2))))))) bW (fun bt=>(bt.1,(bt.2.1,(bt.2.2.1,(bt.2.2.2.1,(bt.2.2.2.2.1,(zN (len Ae))))))))),((cat d6 [(some [(a1,((nth (0,(0,(0,(0,(0,(0,0)))))) (nth aG d5 bW).1 0),((nth bA d0 a0).2.2.2.2.2.2,((-1),((-1),(0,(0,[])))))))])]),()))))))))) (fun BQ=>(bd (aT d6 BQ) (fun Ek=>(gd (bp (aK (len Ek) (len (α:=U3) [(a1,((nth (0,(0,(0,(0,(0,(0,0)))))) (nth aG d5 bW).1 0),((nth bA d0 a0).2.2.2.2.2.2,((-1),((-1),(0,(0,[])))))))])) 16777216) (gd (bu BQ (len d6)) (uO ((),((),((),((),((ah bA d0 a0 (fun bY=>(bY.1,(bY.2.1,(bY.2.2.1,(bY.2.2.2.1,(bY.2.2.2.2.1,((some (len (upd d6 BQ none))),bY.2.2.2.2.2.2)))))))),((ah aG (ah aG (ah aG (ah aG d5 bW (fun sI=>((tk (ay (len sI.1) 1) (dr 1 sI.1)),sI.2))) bW (fun lu=>(lu.1,(lu.2.1,(lu.2.2.1,(BR.1.1,lu.2.2.2.2)))))) bW (fun kH=>(kH.1,(kH.2.1,(kH.2.2.1,(kH.2.2.2.1,(true,kH.2.2.2.2.2))))))) bW (fun bY=>(bY.1,(bY.2.1,(bY.2.2.1,(bY.2.2.2.1,(bY.2.2.2.2.1,(zN (len Ae))))))))),((cat (upd d6 BQ none) [(some (cat Ek [(a1,((nth (0,(0,(0,(0,(0,(0,0)))))) (nth aG d5 bW).1 0),((nth bA d0 a0).2.2.2.2.2.2,((-1),((-1),(0,(0,[])))))))]))]),()))))))))))))))))))))))))) (uO ((),((),((),((),(d0,(d5,(d6,())))))))))) (fun (oS:(Unit×(Unit×(Unit×(Unit×(T0×(T6×(T7×Unit))))))))=>(J _ _ (fun (k62:(Unit×(Unit×(Unit×(Unit×(T1×(T2×(T3×(T4×(T6×(T9×Unit))))))))))→_)=>(bd (e.dm L J a0 (nth aG oS.2.2.2.2.2.1 bW).2.2.2.1 oS.2.2.2.2.1 c0 oS.2.2.2.2.2.1 oS.2.2.2.2.2.2.1 d7 d1 d2 d3 d4 d8) (fun uA=>(k62 ((),((),((),((),(uA.2.1,(uA.2.2.1,(uA.2.2.2.1,(uA.2.2.2.2.1,((ah aG oS.2.2.2.2.2.1 bW (fun cd=>(cd.1,(cd.2.1,(cd.2.2.1,(uA.1.1,cd.2.2.2.2)))))),(uA.2.2.2.2.2.1,())))))))))))))) (fun (nD:(Unit×(Unit×(Unit×(Unit×(T1×(T2×(T3×(T4×(T6×(T9×Unit)))))))))))=>(opt (nth bA oS.2.2.2.2.1 a0).2.2.2.2.2.1 none (fun sS=>(bd (aT oS.2.2.2.2.2.2.1 sS) (fun HQ=>(gd (bn (nth aG nD.2.2.2.2.2.2.2.2.1 bW).2.2.2.2.2) (gd (bu (nN (nth aG nD.2.2.2.2.2.2.2.2.1 bW).2.2.2.2.2) (len HQ)) (J _ _ (fun (UD:(Unit×(Unit×(Unit×(Unit×(T7×Unit)))))→_)=>(br (nth aG nD.2.2.2.2.2.2.2.2.1 bW).2.2.2.1.2.2.2.2.2.2.2.2.2.2.2.2.2.2.2.2.1 (bd (aT oS.2.2.2.2.2.2.1 sS) (fun MN=>(UD ((),((),((),((),((upd oS.2.2.2.2.2.2.1 sS (some (ah sm MN (nN (nth aG nD.2.2.2.2.2.2.2.2.1 bW).2.2.2.2.2) (fun cF=>(cF.1,(cF.2.1,(cF.2.2.1,((nth bA oS.2.2.2.2.1 a0).2.2.2.2.2.2,cF.2.2.2.2)))))))),())))))))) (UD ((),((),((),((),(oS.2.2.2.2.2.2.1,())))))))) (fun (GX:(Unit×(Unit×(Unit×(Unit×(T7×Unit))))))=>(J _ _ (fun (UC:(Unit×(Unit×(Unit×(Unit×(T6×(T7×(T2×Unit)))))))→_)=>(br (nth aG nD.2.2.2.2.2.2.2.2.1 bW).2.2.2.1.2.2.2.2.2.2.2.2.2.2.2.2.2.2.2.1 (bd (aT GX.2.2.2.2.1 sS) (fun Ud=>(bd (aT (upd GX.2.2.2.2.1 sS (some (ah sm Ud (nN (nth aG nD.2.2.2.2.2.2.2.2.1 bW).2.2.2.2.2) (fun bY=>(bY.1,(bY.2.1,(bY.2.2.1,(bY.2.2.2.1,((nth bA oS.2.2.2.2.1 a0).2.2.2.2.2.2,bY.2.2.2.2.2))))))))) sS) (fun p72=>(bd (e.cC L J bW nD.2.2.2.2.2.2.2.2.1 d7) (fun MM=>(UC ((),((),((),((),(MM.2.1,((upd (upd GX.2.2.2.2.1 sS (some (ah sm Ud (nN (nth aG nD.2.2.2.2.2.2.2.2.1 bW).2.2.2.2.2) (fun lu=>(lu.1,(lu.2.1,(lu.2.2.1,(lu.2.2.2.1,((nth bA oS.2.2.2.2.1 a0).2.2.2.2.2.2,lu.2.2.2.2.2))))))))) sS (some (ah sm p72 (nN (nth aG nD.2.2.2.2.2.2.2.2.1 bW).2.2.2.2.2) (fun lu=>(lu.1,(lu.2.1,(lu.2.2.1,(lu.2.2.2.1,(lu.2.2.2.2.1,(nth aG nD.2.2.2.2.2.2.2.2.1 bW).2.2.2.1.2.2.2.2.2.2.2.2.2.2.2.2.2.2.2.2.2))))))))),(MM.2.2.1,())))))))))))))) (UC ((),((),((),((),(nD.2.2.2.2.2.2.2.2.1,(GX.2.2.2.2.1,(d7,())))))))))) (fun (DO:(Unit×(Unit×(Unit×(Unit×(T6×(T7×(T2×Unit))))))))=>(bd (e.bf L J bW DO.2.2.2.2.1 DO.2.2.2.2.2.2.1) (fun p75=>(some ((p75.1.1,(0,())),((ah bA oS.2.2.2.2.1 a0 (fun bY=>(bY.1,(bY.2.1,(bY.2.2.1,(bY.2.2.2.1,(bY.2.2.2.2.1,(bY.2.2.2.2.2.1,(ae IntKind.i64 bY.2.2.2.2.2.2 1))))))))),(nD.2.2.2.2.1,(nD.2.2.2.2.2.1,(nD.2.2.2.2.2.2.1,(nD.2.2.2.2.2.2.2.1,(DO.2.2.2.2.1,(DO.2.2.2.2.2.1,(DO.2.2.2.2.2.2.1,(nD.2.2.2.2.2.2.2.2.2.1,())))))))))))))))))))))))))))))))))))))))))))))))
def e.iG (L:g4) (J:g5) (a0:Nat) (a1:Int) (c0:T5) (k:((Int×U9)→(Option (ja×U9)))) (s:(Int×U9)):(Option (ja×U9)):=(bd (e.cV L J a0 s.2.1 s.2.2.1 s.2.2.2.1 s.2.2.2.2.1 s.2.2.2.2.2.1 c0 s.2.2.2.2.2.2.1 s.2.2.2.2.2.2.2.1 s.2.2.2.2.2.2.2.2.1 s.2.2.2.2.2.2.2.2.2.1) (fun p0=>(br (aQ 0 (zN (len p0.1.1))) (br (cP (zN (len p0.1.1)) 1000000) (oW (fun (t4:Int)=>(fun (s1:(Int×U9))=>(fun (k2:(Int×U9)→_)=>(br (ak s1.1 a1) (some ((s1.1,(3,())),s1.2)) (bd (e.cU L J a0 t4 c0 s1.2.1 s1.2.2.1 s1.2.2.2.1 s1.2.2.2.2.1 s1.2.2.2.2.2.1 s1.2.2.2.2.2.2.1 s1.2.2.2.2.2.2.2.1 s1.2.2.2.2.2.2.2.2.1 s1.2.2.2.2.2.2.2.2.2.1) (fun p3=>(k2 ((ae IntKind.i64 s1.1 1),p3.2)))))))) p0.1.1 s k) none) (some ((s.1,(0,())),s.2)))))
def e.gL (L:g4) (J:g5) (a0:Nat) (a1:Int) (c0:T5) (d0:T0) (d1:T1) (d2:T2) (d3:T3) (d4:T4) (d5:T6) (d6:T7) (d7:T2) (d8:T9):(Option (ja×U9)):=(br (aQ a1 0) (some ((0,(1,())),(d0,(d1,(d2,(d3,(d4,(d5,(d6,(d7,(d8,()))))))))))) (L _ _ (e.iG L J a0 a1 c0) (0,(d0,(d1,(d2,(d3,(d4,(d5,(d6,(d7,(d8,()))))))))))))
def e.cp (L:g4) (J:g5) (d0:T0) (d1:T1) (d2:T2) (d3:T3) (d4:T4) (d5:T5) (d6:T6) (d7:T7) (d8:T2) (d9:T9):(Option ((Bool×Unit)×(T0×(T1×(T2×(T3×(T4×(T5×(T6×(T7×(T2×(T9×Unit)))))))))))):=(bd (e.gK L J (-1) 3) (fun p0=>(bd (e.jb L J (2,(1,(0,64))) [] [[(2,(0,(0,(0,(64,(0,0))))))]] d7 d0 d1 d2 d3 d4 d5 d6 d8 d9) (fun p1=>(opt p1.1.1 (J _ _ (fun (k2:(Unit×U2)→_)=>(some ((false,()),(p1.2.1,(p1.2.2.1,(p1.2.2.2.1,(p1.2.2.2.2.1,(p1.2.2.2.2.2.1,(p1.2.2.2.2.2.2.1,(p1.2.2.2.2.2.2.2.1,(d7,(p1.2.2.2.2.2.2.2.2.1,(p1.2.2.2.2.2.2.2.2.2.1,()))))))))))))) (fun (s3:(Unit×U2))=>none)) (fun p4=>(J _ _ (fun (k5:(Unit×U2)→_)=>(br (az (ak p1.1.2.1 0)) (some ((false,()),(p1.2.1,(p1.2.2.1,(p1.2.2.2.1,(p1.2.2.2.2.1,(p1.2.2.2.2.2.1,(p1.2.2.2.2.2.2.1,(p1.2.2.2.2.2.2.2.1,(d7,(p1.2.2.2.2.2.2.2.2.1,(p1.2.2.2.2.2.2.2.2.2.1,())))))))))))) (k5 ((),((),((),((),()))))))) (fun (s6:(Unit×U2))=>(bd (e.gL L J p4 9 p1.2.2.2.2.2.2.1 p1.2.1 p1.2.2.1 p1.2.2.2.1 p1.2.2.2.2.1 p1.2.2.2.2.2.1 p1.2.2.2.2.2.2.2.1 d7 p1.2.2.2.2.2.2.2.2.1 p1.2.2.2.2.2.2.2.2.2.1) (fun p7=>(br (ak p0.1.1 2) (br (ak p0.1.2.1 0) (br (ak p7.1.1 1) (some (((ak p7.1.2.1 0),()),(p7.2.1,(p7.2.2.1,(p7.2.2.2.1,(p7.2.2.2.2.1,(p7.2.2.2.2.2.1,(p1.2.2.2.2.2.2.1,(p7.2.2.2.2.2.2.1,(p7.2.2.2.2.2.2.2.1,(p7.2.2.2.2.2.2.2.2.1,(p7.2.2.2.2.2.2.2.2.2.1,())))))))))))) (some ((false,()),(p7.2.1,(p7.2.2.1,(p7.2.2.2.1,(p7.2.2.2.2.1,(p7.2.2.2.2.2.1,(p1.2.2.2.2.2.2.1,(p7.2.2.2.2.2.2.1,(p7.2.2.2.2.2.2.2.1,(p7.2.2.2.2.2.2.2.2.1,(p7.2.2.2.2.2.2.2.2.2.1,()))))))))))))) (some ((false,()),(p7.2.1,(p7.2.2.1,(p7.2.2.2.1,(p7.2.2.2.2.1,(p7.2.2.2.2.2.1,(p1.2.2.2.2.2.2.1,(p7.2.2.2.2.2.2.1,(p7.2.2.2.2.2.2.2.1,(p7.2.2.2.2.2.2.2.2.1,(p7.2.2.2.2.2.2.2.2.2.1,()))))))))))))) (some ((false,()),(p7.2.1,(p7.2.2.1,(p7.2.2.2.1,(p7.2.2.2.2.1,(p7.2.2.2.2.2.1,(p1.2.2.2.2.2.2.1,(p7.2.2.2.2.2.2.1,(p7.2.2.2.2.2.2.2.1,(p7.2.2.2.2.2.2.2.2.1,(p7.2.2.2.2.2.2.2.2.2.1,())))))))))))))))))))))))
theorem DI:g.cp [] [] [] [] [] [] [] [] [] []=e.cp lpO jnO [] [] [] [] [] [] [] [] [] []:=by kernel_rfl
theorem DJ:(match e.cp YI YN [] [] [] [] [] [] [] [] [] [] with | some r=>r.1.1 | none=>false)=true:=by decide +kernel
theorem DH:∃r,g.cp [] [] [] [] [] [] [] [] [] []=some r∧r.1.1=true:=by
 have h:=DJ
 rw [←EK,←EZ,←DI] at h
 cases hs:g.cp [] [] [] [] [] [] [] [] [] [] with
 | none=>rw [hs] at h;cases h
 | some r=>rw [hs] at h;exact ⟨r,rfl,h⟩
set_option linter.unusedVariables false
set_option linter.unusedSimpArgs false
open Go.Bm
set_option maxRecDepth 1000000
set_option maxHeartbeats 0
def sg8:da:=⟨[(true,(.pair (.pair (.int .i64) (.pair (.int .i64) (.pair (.int .i64) (.int .i64)))) (.pair (.aF (.aF (.pair (.int .u8) (.pair (.int .i64) (.int .i64))))) (.aF (.aF (.pair (.int .u8) (.pair (.int .u8) (.pair (.int .u8) (.pair (.int .u8) (.pair (.int .i64) (.pair (.int .i64) (.int .i64)))))))))))),(false,(.int .u16)),(false,(.int .u8))],[(false,.bool)],[(17,R17)],[(0,R0),(1,R1),(2,R2),(3,R3),(4,R4),(5,R5),(6,R6),(7,R7),(8,R8),(9,R9),(10,Zh),(11,O7),(12,JA),(13,Jz),(14,OC),(15,Mo),(16,Zg)]⟩
def g.gO (a1:Int) (v0:(((List U3)×Unit)×Unit)) (v1:(ja×U9)) (v2:U7) (v3:Nat) (k:(gE→U8)) (s:gE):U8:=(br (aQ s.1.1 (zN (len v0.1.1))) (gd (bn (aE .i64 s.1.1 1)) (gd (bu (nN (aE .i64 s.1.1 1)) (len v0.1.1)) (gd (bn s.1.1) (gd (bu (nN s.1.1) (len v0.1.1)) (br (aQ (nth sm v0.1.1 (nN s.1.1)).1 (nth sm v0.1.1 (nN (aE .i64 s.1.1 1))).1) (some ((false,()),(v1.2.1,(v1.2.2.1,(v1.2.2.2.1,(v1.2.2.2.2.1,(v1.2.2.2.2.2.1,(v2.2.2.2.2.2.2.1,(v1.2.2.2.2.2.2.1,(v1.2.2.2.2.2.2.2.1,(v1.2.2.2.2.2.2.2.2.1,(v1.2.2.2.2.2.2.2.2.2.1,v2.2.2.2.2.2.2.2.2.2.2)))))))))))) (br (aQ (nth sm v0.1.1 (nN (aE .i64 s.1.1 1))).2.2.2.2.1 0) (some ((false,()),(v1.2.1,(v1.2.2.1,(v1.2.2.2.1,(v1.2.2.2.2.1,(v1.2.2.2.2.2.1,(v2.2.2.2.2.2.2.1,(v1.2.2.2.2.2.2.1,(v1.2.2.2.2.2.2.2.1,(v1.2.2.2.2.2.2.2.2.1,(v1.2.2.2.2.2.2.2.2.2.1,v2.2.2.2.2.2.2.2.2.2.2)))))))))))) (br (az (ak (nth sm v0.1.1 (nN s.1.1)).2.2.1 (ae .i64 (nth sm v0.1.1 (nN (aE .i64 s.1.1 1))).2.2.2.2.1 1))) (some ((false,()),(v1.2.1,(v1.2.2.1,(v1.2.2.2.1,(v1.2.2.2.2.1,(v1.2.2.2.2.2.1,(v2.2.2.2.2.2.2.1,(v1.2.2.2.2.2.2.1,(v1.2.2.2.2.2.2.2.1,(v1.2.2.2.2.2.2.2.2.1,(v1.2.2.2.2.2.2.2.2.2.1,v2.2.2.2.2.2.2.2.2.2.2)))))))))))) (k (((ae .i64 s.1.1 1),()),((),((),((),())))))))))))) (br (cP v1.1.1 (cq (cS .i64 a1) 401)) (bd (g.eV v3 v1.2.1 v1.2.2.1 v1.2.2.2.1 v1.2.2.2.2.1 v1.2.2.2.2.2.1 v2.2.2.2.2.2.2.1 v1.2.2.2.2.2.2.1 v1.2.2.2.2.2.2.2.1 v1.2.2.2.2.2.2.2.2.1 v1.2.2.2.2.2.2.2.2.2.1) (fun p0=>(br (cP p0.1.1 (cq (cS .i64 a1) 401)) (bd (g.cV v3 v1.2.1 v1.2.2.1 v1.2.2.2.1 v1.2.2.2.2.1 v1.2.2.2.2.2.1 v2.2.2.2.2.2.2.1 v1.2.2.2.2.2.2.1 v1.2.2.2.2.2.2.2.1 v1.2.2.2.2.2.2.2.2.1 v1.2.2.2.2.2.2.2.2.2.1) (fun p1=>(br (qP (ak v1.1.2.1 0) (ak (zN (len p1.1.1)) 0)) (br (ak v1.1.2.1 0) (some ((true,()),(v1.2.1,(v1.2.2.1,(v1.2.2.2.1,(v1.2.2.2.2.1,(v1.2.2.2.2.2.1,(v2.2.2.2.2.2.2.1,(v1.2.2.2.2.2.2.1,(v1.2.2.2.2.2.2.2.1,(v1.2.2.2.2.2.2.2.2.1,(v1.2.2.2.2.2.2.2.2.2.1,v2.2.2.2.2.2.2.2.2.2.2)))))))))))) (br (ak v1.1.2.1 3) (bd (g.eV v3 v1.2.1 v1.2.2.1 v1.2.2.2.1 v1.2.2.2.2.1 v1.2.2.2.2.2.1 v2.2.2.2.2.2.2.1 v1.2.2.2.2.2.2.1 v1.2.2.2.2.2.2.2.1 v1.2.2.2.2.2.2.2.2.1 v1.2.2.2.2.2.2.2.2.2.1) (fun p2=>(some (((ak p2.1.1 (cq (cS .i64 a1) 401)),()),(v1.2.1,(v1.2.2.1,(v1.2.2.2.1,(v1.2.2.2.2.1,(v1.2.2.2.2.2.1,(v2.2.2.2.2.2.2.1,(v1.2.2.2.2.2.2.1,(v1.2.2.2.2.2.2.2.1,(v1.2.2.2.2.2.2.2.2.1,(v1.2.2.2.2.2.2.2.2.2.1,v2.2.2.2.2.2.2.2.2.2.2)))))))))))))) (some ((false,()),(v1.2.1,(v1.2.2.1,(v1.2.2.2.1,(v1.2.2.2.2.1,(v1.2.2.2.2.2.1,(v2.2.2.2.2.2.2.1,(v1.2.2.2.2.2.2.1,(v1.2.2.2.2.2.2.2.1,(v1.2.2.2.2.2.2.2.2.1,(v1.2.2.2.2.2.2.2.2.2.1,v2.2.2.2.2.2.2.2.2.2.2)))))))))))))) (some ((false,()),(v1.2.1,(v1.2.2.1,(v1.2.2.2.1,(v1.2.2.2.2.1,(v1.2.2.2.2.2.1,(v2.2.2.2.2.2.2.1,(v1.2.2.2.2.2.2.1,(v1.2.2.2.2.2.2.2.1,(v1.2.2.2.2.2.2.2.2.1,(v1.2.2.2.2.2.2.2.2.2.1,v2.2.2.2.2.2.2.2.2.2.2))))))))))))))) (some ((false,()),(v1.2.1,(v1.2.2.1,(v1.2.2.2.1,(v1.2.2.2.2.1,(v1.2.2.2.2.2.1,(v2.2.2.2.2.2.2.1,(v1.2.2.2.2.2.2.1,(v1.2.2.2.2.2.2.2.1,(v1.2.2.2.2.2.2.2.2.1,(v1.2.2.2.2.2.2.2.2.2.1,v2.2.2.2.2.2.2.2.2.2.2))))))))))))))) (some ((false,()),(v1.2.1,(v1.2.2.1,(v1.2.2.2.1,(v1.2.2.2.2.1,(v1.2.2.2.2.2.1,(v2.2.2.2.2.2.2.1,(v1.2.2.2.2.2.2.1,(v1.2.2.2.2.2.2.2.1,(v1.2.2.2.2.2.2.2.2.1,(v1.2.2.2.2.2.2.2.2.2.1,v2.2.2.2.2.2.2.2.2.2.2))))))))))))))
def g.eK (a1:Int) (a2:Int) (v0:Nat) (v1:U7) (v2:((Bool×Unit)×(T0×(T1×(T2×(T3×(T4×(T5×(T6×(T7×(T2×(T9×Unit)))))))))))) (k:(((Int×Unit)×(mE×nB))→U8)) (s:((Int×Unit)×(mE×nB))):U8:=(br (aQ s.1.1 (cq (cS .i64 a1) 401)) (gd (bp (aK (len s.2.1.1) (len [(cm .i64 (cm .i64 12 (aE .i64 (cS .i64 a2) 128)) (cq s.1.1 3))])) 16777216) (k (((ae .i64 s.1.1 1),()),(((cat s.2.1.1 [(cm .i64 (cm .i64 12 (aE .i64 (cS .i64 a2) 128)) (cq s.1.1 3))]),()),((),((),())))))) (bd (g.nb v0 s.2.1.1 (cq (cS .i64 a1) 401) v1.2.2.2.2.2.2.1 v1.2.1 v1.2.2.1 v1.2.2.2.1 v1.2.2.2.2.1 v1.2.2.2.2.2.1 v1.2.2.2.2.2.2.2.1 v2.2.2.2.2.2.2.2.2.1 v1.2.2.2.2.2.2.2.2.1 v1.2.2.2.2.2.2.2.2.2.1) (fun p0=>(bd (g.iu v0 p0.2.1 p0.2.2.1 p0.2.2.2.1 p0.2.2.2.2.1 p0.2.2.2.2.2.1 v1.2.2.2.2.2.2.1 p0.2.2.2.2.2.2.1 p0.2.2.2.2.2.2.2.1 p0.2.2.2.2.2.2.2.2.1 p0.2.2.2.2.2.2.2.2.2.1) (fun p1=>(loop (g.gO a1 p1 p0 v1 v0) ((1,()),((),((),((),()))))))))))
def g.gN (a1:Int) (a2:Int) (k:(((Int×Unit)×(mE×nB))→U8)) (s:((Int×Unit)×(mE×nB))):U8:=(br (aQ s.1.1 (cq (cS .i64 a1) 401)) (gd (bp (aK (len s.2.1.1) (len [(cm .i64 (cm .i64 12 (aE .i64 (cS .i64 a2) 128)) (cq s.1.1 3))])) 16777216) (k (((ae .i64 s.1.1 1),()),(((cat s.2.1.1 [(cm .i64 (cm .i64 12 (aE .i64 (cS .i64 a2) 128)) (cq s.1.1 3))]),()),((),((),())))))) none)
def g.fK (a0:(U4×((List lI)×(List qo)))) (a1:Int) (a2:Int) (c0:T7) (d0:T0) (d1:T1) (d2:T2) (d3:T3) (d4:T4) (d5:T5) (d6:T6) (d7:T7) (d8:T2) (d9:T9) (d10:zn) (d11:tV) (d12:T1) (d13:T2) (d14:qE) (d15:pQ) (d16:A_):U8:=(bd (g.cp d0 d1 d2 d3 d4 d5 d6 d7 d8 d9) (fun p0=>(bd (g.gF a0 p0.2.2.2.2.2.2.2.2.1 c0 p0.2.1 p0.2.2.1 p0.2.2.2.1 p0.2.2.2.2.1 p0.2.2.2.2.2.1 p0.2.2.2.2.2.2.1 p0.2.2.2.2.2.2.2.1 p0.2.2.2.2.2.2.2.2.2.1 p0.2.2.2.2.2.2.2.2.2.2.1 d10 d11 d12 d13 d14 d15 d16) (fun p1=>(opt p1.1.1 (opt p1.1.2.1 (jn (fun (k2:(Unit×U2)→_)=>(br (az p0.1.1) (some ((false,()),(p1.2.1,(p1.2.2.1,(p1.2.2.2.1,(p1.2.2.2.2.1,(p1.2.2.2.2.2.1,(p1.2.2.2.2.2.2.1,(p1.2.2.2.2.2.2.2.1,(p0.2.2.2.2.2.2.2.2.1,p1.2.2.2.2.2.2.2.2)))))))))) (some ((false,()),(p1.2.1,(p1.2.2.1,(p1.2.2.2.1,(p1.2.2.2.2.1,(p1.2.2.2.2.2.1,(p1.2.2.2.2.2.2.1,(p1.2.2.2.2.2.2.2.1,(p0.2.2.2.2.2.2.2.2.1,p1.2.2.2.2.2.2.2.2)))))))))))) (fun (s3:(Unit×U2))=>(loop (g.gN a1 a2) ((0,()),(([],()),((),((),()))))))) (fun p6=>(jn (fun (k7:(Unit×U2)→_)=>(br (az p0.1.1) (some ((false,()),(p1.2.1,(p1.2.2.1,(p1.2.2.2.1,(p1.2.2.2.2.1,(p1.2.2.2.2.2.1,(p1.2.2.2.2.2.2.1,(p1.2.2.2.2.2.2.2.1,(p0.2.2.2.2.2.2.2.2.1,p1.2.2.2.2.2.2.2.2)))))))))) (some ((false,()),(p1.2.1,(p1.2.2.1,(p1.2.2.2.1,(p1.2.2.2.2.1,(p1.2.2.2.2.2.1,(p1.2.2.2.2.2.2.1,(p1.2.2.2.2.2.2.2.1,(p0.2.2.2.2.2.2.2.2.1,p1.2.2.2.2.2.2.2.2)))))))))))) (fun (s8:(Unit×U2))=>(loop (g.gN a1 a2) ((0,()),(([],()),((),((),()))))))))) (fun kV=>(opt p1.1.2.1 (jn (fun (UH:(Unit×U2)→_)=>(br (az p0.1.1) (some ((false,()),(p1.2.1,(p1.2.2.1,(p1.2.2.2.1,(p1.2.2.2.2.1,(p1.2.2.2.2.2.1,(p1.2.2.2.2.2.2.1,(p1.2.2.2.2.2.2.2.1,(p0.2.2.2.2.2.2.2.2.1,p1.2.2.2.2.2.2.2.2)))))))))) (UH ((),((),((),((),()))))))) (fun (s13:(Unit×U2))=>(loop (g.eK a1 a2 kV p1 p0) ((0,()),(([],()),((),((),()))))))) (fun fk=>(jn (fun (k24:(Unit×U2)→_)=>(br (az p0.1.1) (some ((false,()),(p1.2.1,(p1.2.2.1,(p1.2.2.2.1,(p1.2.2.2.2.1,(p1.2.2.2.2.2.1,(p1.2.2.2.2.2.2.1,(p1.2.2.2.2.2.2.2.1,(p0.2.2.2.2.2.2.2.2.1,p1.2.2.2.2.2.2.2.2)))))))))) (k24 ((),((),((),((),()))))))) (fun (ng:(Unit×U2))=>(loop (g.eK a1 a2 kV p1 p0) ((0,()),(([],()),((),((),())))))))))))))))
def F8:Plain sg8:=fun x c d=>g.fK x.1 x.2.1 x.2.2.1 c.1 d.1 d.2.1 d.2.2.1 d.2.2.2.1 d.2.2.2.2.1 d.2.2.2.2.2.1 d.2.2.2.2.2.2.1 d.2.2.2.2.2.2.2.1 d.2.2.2.2.2.2.2.2.1 d.2.2.2.2.2.2.2.2.2.1 d.2.2.2.2.2.2.2.2.2.2.1 d.2.2.2.2.2.2.2.2.2.2.2.1 d.2.2.2.2.2.2.2.2.2.2.2.2.1 d.2.2.2.2.2.2.2.2.2.2.2.2.2.1 d.2.2.2.2.2.2.2.2.2.2.2.2.2.2.1 d.2.2.2.2.2.2.2.2.2.2.2.2.2.2.2.1 d.2.2.2.2.2.2.2.2.2.2.2.2.2.2.2.2.1
theorem ct8:bj Tryz.prog 8 sg8 F8:=bD (ao ct9 (ao adw (ao N9 (ao adt (ao ads (ao adq (aH))))))) fun x c d=>by kernel_rfl
set_option linter.unusedVariables false
set_option linter.unusedSimpArgs false
open Go.Bm Go.n6
abbrev adI {β:Type} (x:Option ((Bool×Unit)×β)):Prop:=Ok x (fun r=>r.1.1=true)
theorem B7 {α:Type} {c:Bool} {x y:Option α} {P:α→Prop} (h:c=true) (k:Ok x P):Ok (br c x y) P:=by rw [h];exact k
theorem Ib {α:Type} {c:Bool} {x y:Option α} {P:α→Prop} (h:c=false) (k:Ok y P):Ok (br c x y) P:=by rw [h];exact k
theorem tW {n:Nat} {C:WC} {s:WS} {c5:T5} {D:Ds} (H:WI n C s c5 D):g.eV C.wi D.1 D.2.1 D.2.2.1 D.2.2.2.1 D.2.2.2.2.1 c5 D.2.2.2.2.2.1 D.2.2.2.2.2.2.1 D.2.2.2.2.2.2.2.1 D.2.2.2.2.2.2.2.2.1=some (((s.st:Int),()),()):=by
 obtain ⟨oo,hw,_⟩:=H.world
 unfold g.eV
 rw [bw hw]
theorem ZI.new (p:mC) (ck:List (List q8)) (b:Nat):ZI (Yt p ck b) where
 seq:=fun j a b h=>by cases h
 lt:=fun j o h=>by cases h
 cur:=.inl ⟨rfl,rfl,fun k t h=>by
  have h:(C5 ck b p.2.1.toNat)[k]?=some t:=h
  obtain ⟨rfl,_⟩:=Dx h
  rfl⟩
theorem Dh {l:List Int} (h:∀p∈l,p%12=0):Mk l:=fun p hp n h1 h4=>by
 have:=h p hp
 rcases (show n=1∨n=2∨n=3∨n=4 by omega) with rfl | rfl | rfl | rfl<;>omega
theorem sM (c:mC×(List (List oI)×List (List q8))) (a1 a2:Int) (mN:∀l∈c.2.1,∀o∈l,0≤o.1) (sJ:∀l∈c.2.2,qm l) (h1:0≤a1∧a1≤65535) (h2:0≤a2∧a2≤255) :
  adI (g.fK c a1 a2 [] [] [] [] [] [] [] [] [] [] [] [] [] [] [] [] [] []):=by
 obtain ⟨r0,hr0,tL⟩:=DH
 unfold g.fK
 refine .eT hr0 (.bd (Jn c mN sJ _ _ _ _ _ _ _ _ _ _ _ _ _ _ _ _ _ _) fun p1 G_=>?_)
 obtain ⟨p,ck,b,y,C,q1,q2,q3,q4,H⟩:=G_
 refine .d_ q3 (.d_ q4 (.oG (fun _=>True) (fun u _=>?_) fun k hk=>.br (fun e=>?_) fun _=>hk _ trivial))
 rotate_left
 ·rw [tL] at e;cases e
 have OU:cq (cS .i64 a1) 401=((a1%401).toNat:Int):=by rw [fP (by omega),cJ (by omega)];omega
 have hkl:(a1%401).toNat≤400:=by omega
 generalize (a1%401).toNat=kk at OU hkl
 refine .loop (fun m z=>∃i:Nat,z.1.1=(i:Int)∧i+m=kk∧z.2.1.1.length=i∧∀q∈z.2.1.1,q%12=0) (fun m z gg hI ih=>?_) (N:=kk) (by unfold kQ;omega) ⟨0,rfl,by omega,rfl,fun q h=>nomatch h⟩
 obtain ⟨i,i1,i2,i3,i4⟩:=hI
 unfold g.eK
 rw [i1,OU]
 refine .br (fun e=>?_) fun e=>?_
 ·have e:=df.1 e
  have hx:ae .i64 (i:Int) 1=((i+1:Nat):Int):=by rw [aS (by omega)];rfl
  refine .gd (by rw [cR,aK];show z.2.1.1.length+1≤_;omega) (ih (m-1) _ (by omega) ⟨i+1,hx,by omega,?_,?_⟩)
  ·show (z.2.1.1++[_]).length=_
   rw [zY,i3];rfl
  ·intro q hq
   rcases zX.1 (show q∈z.2.1.1++[_] from hq) with h | h
   ·exact i4 q h
   ·rw [zF] at h
    subst h
    have e1:cm .i64 12 (aE .i64 (cS .i64 a2) 128)=12*(a2-128):=by rw [fP (by omega),bL (by omega),cK (by omega)]
    rw [e1,cJ (by omega),cK]
    ·rw [Int.mul_assoc];exact Int.mul_emod_right ..
    ·have h3:=Int.emod_nonneg (i:Int) (show (3:Int)≠0 by omega)
     have h4:=Int.emod_lt_of_pos (i:Int) (show (0:Int)<3 by omega)
     generalize (i:Int)%3=w at h3 h4
     rcases (show w=0∨w=1∨w=2 by omega) with rfl | rfl | rfl<;>omega
 ·have e:=iM.1 e
  have IN:i=kk:=by omega
  subst IN
  have eL:=Jy H (ZI.new p ck b) rfl (Nat.zero_le _) (by omega) z.2.1.1 (Dh i4) (by omega)
  rw [i3] at eL
  refine .bd eL fun r hr=>?_
  obtain ⟨n,s',k1,H',hz,k3,k4,k5,k6,k7⟩:=hr
  refine .bd (OE H' (by omega)) fun r1 Nm=>?_
  have Nm:r1.1.1=s'.ops:=Nm
  refine .loop (fun m z=>∃j:Nat,z.1.1=(j:Int)∧1≤j∧j+m=s'.ops.length+1) (fun m z gg hI ih=>?_) (N:=s'.ops.length) (by unfold kQ;omega) ⟨1,rfl,by omega,by omega⟩
  obtain ⟨j,j1,j2,j3⟩:=hI
  unfold g.gO
  rw [j1,Nm,OU,fl]
  have hx:ae .i64 (j:Int) 1=((j+1:Nat):Int):=by rw [aS (by omega)];rfl
  have hy:aE .i64 (j:Int) 1=((j-1:Nat):Int):=by rw [bL (by omega)];omega
  rw [hx,hy]
  refine .br (fun e=>?_) fun e=>?_
  ·have e:=df.1 e
   have hj:j<s'.ops.length:=by omega
   have ha:=zD (show j-1<s'.ops.length by omega)
   have hb:=zD hj
   generalize s'.ops[j-1]=oa at ha
   generalize s'.ops[j]=ob at hb
   obtain ⟨w1,w2,w3⟩:=hz.seq (j-1) oa ob ha (by rw [show j-1+1=j by omega];exact hb)
   have ea:∀d,nth d s'.ops (nN ((j-1:Nat):Int))=oa:=fun d=>bw ha
   have eb:∀d,nth d s'.ops (nN (j:Int))=ob:=fun d=>bw hb
   rw [ea,eb]
   have w3':ob.2.2.1=oa.2.2.2.2.1+1:=w3
   have hto:oa.2.2.2.2.1<(s'.st:Int):=hz.lt (j-1) oa ha
   refine .gd (by rw [bx];omega) (.gd (by rw [bP,aI,dc];omega) (.gd (by rw [bx];omega) (.gd (by rw [bP,aI,dc];omega) (Ib (iM.2 (by omega)) (Ib (iM.2 (by have:0≤oa.2.2.2.2.1:=w2;omega)) (Ib (by rw [aS (by have:0≤oa.2.2.2.2.1:=w2;omega),w3'];simp [az,ak]) (ih (m-1) _ (by omega) ⟨j+1,rfl,by omega,by omega⟩)))))))
  ·refine B7 (Ar.2 k4) (.eT (tW H') (B7 (Ar.2 (by show (s'.st:Int)≤_;omega)) ?_))
   refine .bd (vE H' (tH s') (fun k t h=>mK h)) fun r2 wX=>?_
   have wX:r2.1.1=iX s':=wX
   rw [wX,fl]
   rcases k7 with ⟨b1,b2⟩ | ⟨b1,b2,b3⟩
   ·rw [b2,b1]
    exact B7 (by decide) (B7 (by decide) (.some rfl))
   ·have lf:(iX s').length≠0:=fun h=>b2 (zZ h)
    rw [b1]
    refine B7 ?_ (Ib (by decide) (B7 (by decide) (.eT (tW H') (.some ?_))))
    ·have:ak ((iX s').length:Int) 0=false:=b0.2 (by omega)
     rw [this];decide
    ·exact cj.2 (by show (s'.st:Int)=_;omega)
set_option linter.unusedVariables false
open Go.Bm Go.n6
theorem pT (c:mC×(List (List oI)×List (List q8))) (a1 a2:Int)
  (hc:C8 (.pair (.pair (.int .i64) (.pair (.int .i64) (.pair (.int .i64) (.int .i64)))) (.pair (.aF (.aF (.pair (.int .u8) (.pair (.int .i64) (.int .i64))))) (.aF (.aF (.pair (.int .u8) (.pair (.int .u8) (.pair (.int .u8) (.pair (.int .u8) (.pair (.int .i64) (.pair (.int .i64) (.int .i64)))))))))))  c)
  (h1:C8 (.int .u16) a1) (h2:C8 (.int .u8) a2):∃d,F8 (c,(a1,(a2,()))) (CK _) (CK _)=some ((true,()),d):=by
 have mN:∀x∈c.2.1,∀o∈x,0≤o.1:=fun x hx o ho=>(((hc.2.1.2 x hx).2 o ho).1).1
 have sJ:∀x∈c.2.2,qm x:=fun x hx o ho=>have h:=(hc.2.2.2 x hx).2 o ho;⟨h.2.1.1,h.2.2.1.1,h.2.2.2.1.1⟩
 have h1:0≤a1∧a1≤65535:=⟨h1.1,by have:=h1.2;first | omega | exact this | (have h3:a1<65536:=this;omega)⟩
 have h2:0≤a2∧a2≤255:=⟨h2.1,by have:=h2.2;first | omega | exact this | (have h3:a2<256:=this;omega)⟩
 obtain ⟨⟨⟨b,u⟩,d⟩,h,hr⟩:=sM c a1 a2 mN sJ h1 h2
 have hr:b=true:=hr
 subst hr
 exact ⟨d,h⟩
set_option linter.unusedVariables false
set_option linter.unusedSimpArgs false
open Go.Bm
open Go.ChangeShapes Go.WideShapes Go.ChangeAt Go.RowKit
theorem Tryz.own:ownKnob Tryz.prog.godebug=none:=by kernel_rfl
theorem Tryz.laidOut:laidOutB Tryz.prog=true:=by kernel_rfl
theorem rh (W:World):GH Tryz.prog W 49 (.pair (.pair (.int .i64) (.pair (.int .i64) (.pair (.int .i64) (.int .i64)))) (.pair (.aF (.aF (.pair (.int .u8) (.pair (.int .i64) (.int .i64))))) (.aF (.aF (.pair (.int .u8) (.pair (.int .u8) (.pair (.int .u8) (.pair (.int .u8) (.pair (.int .i64) (.pair (.int .i64) (.int .i64))))))))))):=(oX Tryz.underlying49 (by kernel_rfl) (.cons (oX Tryz.underlying35 (by kernel_rfl) (.cons (jQ Tryz.underlying3) rfl (by kernel_rfl) (.cons (jQ Tryz.underlying3) rfl (by kernel_rfl) (.cons (jQ Tryz.underlying3) rfl (by kernel_rfl) (.one (jQ Tryz.underlying3) rfl (by kernel_rfl)))))) rfl (by kernel_rfl) (.cons (Ab Tryz.underlying47 (by kernel_rfl) (by decide) (Ab Tryz.underlying53 (by kernel_rfl) (by decide) (oX Tryz.underlying88 (by kernel_rfl) (.cons (jQ Tryz.underlying5) rfl (by kernel_rfl) (.cons (jQ Tryz.underlying3) rfl (by kernel_rfl) (.one (jQ Tryz.underlying3) rfl (by kernel_rfl))))))) rfl (by kernel_rfl) (.one (Ab Tryz.underlying28 (by kernel_rfl) (by decide) (Ab Tryz.underlying30 (by kernel_rfl) (by decide) (oX Tryz.underlying40 (by kernel_rfl) (.cons (jQ Tryz.underlying5) rfl (by kernel_rfl) (.cons (jQ Tryz.underlying5) rfl (by kernel_rfl) (.cons (jQ Tryz.underlying5) rfl (by kernel_rfl) (.cons (jQ Tryz.underlying5) rfl (by kernel_rfl) (.cons (jQ Tryz.underlying3) rfl (by kernel_rfl) (.cons (jQ Tryz.underlying3) rfl (by kernel_rfl) (.one (jQ Tryz.underlying3) rfl (by kernel_rfl))))))))))) rfl (by kernel_rfl)))))
theorem rf (W:World):GH Tryz.prog W 64 (.int .u16):=(jQ Tryz.underlying64)
theorem re (W:World):GH Tryz.prog W 5 (.int .u8):=(jQ Tryz.underlying5)
set_option maxRecDepth 100000 in
theorem oL (os:Os) (started:os.Started) (H:Type) (enc:TypeId×Value→H) :
  ReturnsInHanded {} Tryz.checked os 8 .any (Rows.turnsZerosSpec.pre6 enc Tryz.prog Tryz.f8 Rows.turnsZerosRow.domain false) (Rows.turnsZerosSpec.post enc Tryz.prog Tryz.f8 false true false false):=by
 refine returnsInHanded_of_change (C:=Tryz.checked) Tryz.own started (by kernel_rfl) Tryz.func8
  (ChangeSpec.witness6 (enc:=enc) (C:=Tryz.checked) false ⟨#[],#[.agg #[.int .i64 0,.int .i64 0,.int .i64 0,.int .i64 0,.slice none 0 0,.slice none 0 0],.int .u16 0,.int .u8 0],[]⟩ 8 (by kernel_rfl) (by kernel_rfl) (by kernel_rfl) (by kernel_rfl)) ?_
 intro W base args ds gs before LS hW aip _
 have qK:∀(j:Nat) t v,Tryz.f8.params[j]?=some t→args[j]?=some v→Value.okWide Tryz.prog W .any base t v:=LS
 have NB:=hW
 obtain ⟨p,q,Y6,hV,rfl,hfz,hnd⟩:=hW
 have hA:DataW.TrodAll enc Tryz.prog W 0 (fun _=>true) true Tryz.f8.params.toList args.toList ds p:=Y6
 rw [Tryz.params8] at hA qK
 obtain ⟨v0,v1,v2,d0,d1,d2,p0,p1,p2,rfl,rfl,rfl,h0,h1,h2⟩:=trodAll_three hA
 obtain ⟨rfl,rfl⟩:=trodVars_none hV
 clear Y6 LS
 simp only [List.append_nil] at NB
 obtain ⟨w0,rfl,_⟩:=okWide_struct Tryz.underlying49 (qK 0 49 v0 rfl rfl)
 obtain ⟨x0,k0,o0⟩:=HF (rh W) rfl h0
 have c1:v1.cells.toList=[v1]:=by obtain ⟨_,rfl⟩:=okWide_int Tryz.underlying64 (qK 1 64 v1 rfl rfl);rfl
 obtain ⟨x1,k1,o1⟩:=D2 (rf W) rfl c1 h1
 have c2:v2.cells.toList=[v2]:=by obtain ⟨_,rfl⟩:=okWide_int Tryz.underlying5 (qK 2 5 v2 rfl rfl);rfl
 obtain ⟨x2,k2,o2⟩:=D2 (re W) rfl c2 h2
 have eO:∀x∈p0++(p1++p2),x.block<W.heap.size:=fun x hx=>NB.lt x (by simpa using hx)
 obtain ⟨dd,hF⟩:=pT x0 x1 x2 o0 o1 o2
 refine (EN ct8 rfl (x0,x1,x2,()) hF rfl (vs:=[.agg w0,v1,v2]) rfl (fun i d v e1 e2=>?_)).mono fun e W' ⟨he,hs⟩=>?_
 ·match i with
  | 0=>cases e1;cases e2;exact k0
  | 1=>cases e1;cases e2;exact k1
  | 2=>cases e1;cases e2;exact k2
  | i+3=>cases e1
 subst he
 have r0:DataW.Trod enc Tryz.prog W' 0 (fun b=>decide (b<W.heap.size)) true 49 (.agg w0) d0 p0:=
  WideElems.Trod_stays Tryz.laidOut (by kernel_rfl) (of_decide_eq_true (by kernel_rfl)) h0 (fun x hx=>hs.sameAt (eO x (by simp [hx]))) (fun x hx=>by simpa using eO x (by simp [hx]))
 have r1:DataW.Trod enc Tryz.prog W' 0 (fun b=>decide (b<W.heap.size)) true 64 (v1) d1 p1:=
  WideElems.Trod_stays Tryz.laidOut (by kernel_rfl) (of_decide_eq_true (by kernel_rfl)) h1 (fun x hx=>hs.sameAt (eO x (by simp [hx]))) (fun x hx=>by simpa using eO x (by simp [hx]))
 have r2:DataW.Trod enc Tryz.prog W' 0 (fun b=>decide (b<W.heap.size)) true 5 (v2) d2 p2:=
  WideElems.Trod_stays Tryz.laidOut (by kernel_rfl) (of_decide_eq_true (by kernel_rfl)) h2 (fun x hx=>hs.sameAt (eO x (by simp [hx]))) (fun x hx=>by simpa using eO x (by simp [hx]))
 refine ⟨_,rfl,_,_,_,[],p0++(p1++p2),[],NB,?_,?_,?_,hs.frame _,fun h=>by cases h⟩
 ·exact trodAll_mk1 (shut_bool Tryz.underlying4 true)
 ·exact trodAll_mk3 r0 r1 r2
 ·exact rfl
theorem turnsZeros_holds:Rows.TurnsZerosSaid:=
 OpenClaim.holds_of_wide 8 Tryz.f8 rfl rfl rfl rfl rfl rfl rfl ⟨rfl,rfl,rfl,rfl,rfl⟩ rfl rfl rfl rfl rfl (by kernel_rfl) Tryz.func8 (by kernel_rfl)
  (of_decide_eq_true (by kernel_rfl)) (by unfold Func.isWrapper;first | (rw [if_pos (by decide +kernel)];kernel_rfl) | (rw [if_neg (by decide +kernel)];exact ⟨rfl,rfl⟩))
  (fun os started H enc _=>oL os started H enc)
end Go.Proofs.YtklkjncibchelaaGreat