/- ModelUnder: the given statement. -/
import Derived.Deep.Slices
import Derived.WideShapes
import Derived.ChangeArms
import Derived.Deep.OwnRows
import Derived.WideKeyArgs
import Derived.OpenShut
import Derived.Carry
import Derived.ProofKit
import Derived.Test.YtihiooaimdoapaaGreatUE
noncomputable section
set_option linter.unusedVariables false
set_option linter.unusedSimpArgs false
namespace Go.Proofs.YtihiooaimdoapaaGreat
open Go.Bm Go.jJ
def NV (p:rM):rM:=(1+p.1%8,(1+p.2.1%4,(8*(p.2.2.1%64),8*(p.2.2.2%128))))
theorem ry (p:rM):dL (NV p)=true:=by
 rw [da];unfold NV;simp only;omega
theorem Bq (p:rM):g.jS p=some ((NV p,()),()):=by
 unfold g.jS
 rw [lH 3 (by omega) (by decide),lH 2 (by omega) (by decide),lH 6 (by omega) (by decide),lH 7 (by omega) (by decide)]
 rw [aG (by omega),aG (by omega),a5 (by omega),a5 (by omega)]
 rfl
def sP (o:h_):h_:=
 if o.1%5=0 then (o.1%5,(o.2.1%64,0)) else if o.1%5=1 then (o.1%5,(o.2.1%8%6,0)) else if o.1%5=2 then (o.1%5,(o.2.1%8%6,o.2.2%8%6))
 else if o.1%5=3 then (o.1%5,(o.2.1%8%6,o.2.2%8)) else (o.1%5,(0,0))
def m8 (l:List h_):List h_:=(l.take 8).map sP
def Eh (f:List (List h_)):List (List h_):=(f.take 8).map m8
theorem B9 (o:h_):qg (sP o):=by
 have e0:o.1%5=0∨o.1%5=1∨o.1%5=2∨o.1%5=3∨o.1%5=4:=by omega
 unfold sP
 rcases e0 with h | h | h | h | h
 ·rw [if_pos h];refine .inl ⟨h,?_,?_,rfl⟩<;>dsimp only<;>omega
 ·rw [if_neg (by omega),if_pos h];refine .inr (.inl ⟨h,?_,?_,rfl⟩)<;>dsimp only<;>omega
 ·rw [if_neg (by omega),if_neg (by omega),if_pos h];refine .inr (.inr (.inl ⟨h,?_,?_,?_,?_⟩))<;>dsimp only<;>omega
 ·rw [if_neg (by omega),if_neg (by omega),if_neg (by omega),if_pos h];refine .inr (.inr (.inr (.inl ⟨h,?_,?_,?_,?_⟩)))<;>dsimp only<;>omega
 ·rw [if_neg (by omega),if_neg (by omega),if_neg (by omega),if_neg (by omega)];exact .inr (.inr (.inr (.inr ⟨h,rfl,rfl⟩)))
theorem Eg (f:List (List h_)):lv (Eh f):=by
 refine ⟨by unfold Eh;simp;omega,fun l hl=>?_⟩
 obtain ⟨l',_,rfl⟩:=List.mem_map.1 hl
 refine ⟨by unfold m8;simp;omega,fun o ho=>?_⟩
 obtain ⟨o',_,rfl⟩:=List.mem_map.1 ho
 exact B9 o'
theorem qH {α β:Type} (f:α→β) {l:List α} {k:Nat} (hk:k<l.length):(l.take (k+1)).map f=(l.take k).map f++[f l[k]]:=by
 rw [List.take_add_one,zD hk,List.map_append];rfl
abbrev ahU:Type:=((Int×Unit)×(((List (List h_))×Unit)×(Unit×(Unit×Unit))))
theorem SL {f:List (List h_)} (tj:∀l∈f,∀o∈l,0≤o.1) {i:Nat} (hi:i<f.length) (hi8:i<8) {out:List (List h_)} (ho:out.length=i) (v1:ahU→Option (((List (List h_))×Unit)×Unit)) :
  loop (g.ik f (((i:Int),()),((out,()),((),((),())))) v1) ((0,()),(([],()),((),((),()))))=v1 ((((i+1:Nat):Int),()),(((out++[m8 f[i]]),()),((),((),())))):=by
 have D2:nth [] f (nN (i:Int))=f[i]:=gE hi
 have ei:af IntKind.i64 (i:Int) 1=((i+1:Nat):Int):=by rw [aG (by omega)];omega
 generalize hl:f[i]=l at *
 have tj:=tj l (by rw [←hl];exact List.getElem_mem hi)
 refine (dJ (fun k=>((((k:Nat):Int),()),((((l.take k).map sP,()),((),((),())))))) (fun _=>v1 ((((i+1:Nat):Int),()),(((out++[m8 l]),()),((),((),()))))) (min l.length 8) (by unfold lG;omega) (fun K=>?_) (fun k hk=>.inr ⟨rfl,fun K=>?_⟩))
 ·have e8:(l.take (min l.length 8)).map sP=m8 l:=by
   unfold m8
   by_cases h:l.length≤8
   ·rw [Nat.min_eq_left h,List.take_length,za h]
   ·rw [Nat.min_eq_right (by omega)]
  rw [e8]
  unfold g.ik
  dsimp only
  rw [D2]
  by_cases h:l.length≤8
  ·rw [Nat.min_eq_left h]
   repeat refine HS ?_
   rw [ei];rfl
  ·rw [Nat.min_eq_right (by omega)]
   repeat refine HS ?_
   rw [ei];rfl
 ·have h1:k<l.length:=by omega
  have h2:k<8:=by omega
  have e:∀d,nth d l (nN (k:Int))=l[k]:=fun d=>gE h1
  have h0:=tj l[k] (List.getElem_mem h1)
  have ek:af IntKind.i64 (k:Int) 1=((k+1:Nat):Int):=by rw [aG (by omega)];omega
  have hlen:((l.take k).map sP).length=k:=by simp;omega
  rw [qH sP h1]
  generalize (l.take k).map sP=p at *
  unfold g.ik
  dsimp only
  rw [D2,e]
  generalize l[k]=o at *
  have er:dU o.1 5=o.1%5:=aT h0
  have eA:bits BinOp.and IntKind.i64 o.2.1 63=o.2.1%64:=lH 6 (by omega) (by decide)
  have eB:bits BinOp.and IntKind.i64 o.2.1 7=o.2.1%8:=lH 3 (by omega) (by decide)
  have eC:bits BinOp.and IntKind.i64 o.2.2 7=o.2.2%8:=lH 3 (by omega) (by decide)
  have eD:dU (o.2.1%8) 6=o.2.1%8%6:=aT (by omega)
  have eE:dU (o.2.2%8) 6=o.2.2%8%6:=aT (by omega)
  rw [er,eA,eB,eC,eD,eE,ek]
  unfold sP
  by_cases c0:o.1%5=0
  ·rw [if_pos c0]
   repeat refine HS ?_
   rfl
  rw [if_neg c0]
  by_cases c1:o.1%5=1
  ·rw [if_pos c1]
   repeat refine HS ?_
   rfl
  rw [if_neg c1]
  by_cases c2:o.1%5=2
  ·rw [if_pos c2]
   repeat refine HS ?_
   rfl
  rw [if_neg c2]
  by_cases c3:o.1%5=3
  ·rw [if_pos c3]
   repeat refine HS ?_
   rfl
  rw [if_neg c3]
  repeat refine HS ?_
  rfl
theorem Bp {f:List (List h_)} (tj:∀l∈f,∀o∈l,0≤o.1):g.jR f=some ((Eh f,()),()):=by
 unfold g.jR
 refine (dJ (fun k=>((((k:Nat):Int),()),((((f.take k).map m8,()),((),((),())))))) (fun _=>some ((Eh f,()),())) (min f.length 8) (by unfold lG;omega) (fun K=>?_) (fun k hk=>.inr ⟨rfl,fun K=>?_⟩))
 ·have e8:(f.take (min f.length 8)).map m8=Eh f:=by
   unfold Eh
   by_cases h:f.length≤8
   ·rw [Nat.min_eq_left h,List.take_length,za h]
   ·rw [Nat.min_eq_right (by omega)]
  rw [e8]
  unfold g.j6
  dsimp only
  by_cases h:f.length≤8
  ·rw [Nat.min_eq_left h]
   by_cases h8:f.length=8
   ·repeat refine HS ?_
    rfl
   ·repeat refine HS ?_
    rfl
  ·rw [Nat.min_eq_right (by omega)]
   repeat refine HS ?_
   rfl
 ·have h1:k<f.length:=by omega
  have h2:k<8:=by omega
  have hlen:((f.take k).map m8).length=k:=by simp;omega
  rw [qH m8 h1]
  unfold g.j6
  dsimp only
  repeat refine HS ?_
  exact SL tj h1 h2 hlen K
section
variable {c0:T0} {c1:T1} {d0:T2} {d1:T3} {d2:T4} {d3:T5} {d4:T6} {d5:T7} {d6:T8} {d7:T9} {d8:dT} {md:Nat} {m:M} {k:Nat}
theorem ad6 (h:St c0 c1 d0 d1 d2 d3 d4 d5 d6 d7 d8 md k m) {s:Int} (hs:0≤s∧s<m.p.1):∃o,g.kK md s c0 c1 d0 d1 d2 d3 d4 d5 d6 d7 d8=some ((((m.bm s).used,((m.bm s).gate,o)),()),()):=by
 obtain ⟨⟨N,L,es,hr⟩,hi,hc⟩:=h
 have b3:=rI hr
 have w9:=hr.ar
 have LV:=pX hr hi
 have hp:=hi.u9
 obtain ⟨na,xv,B0⟩:=yB hr hi hs
 have wZ:aK IntKind.i64 (zN (len (L.map fun a=>(a.used,(a.gate,a.jo))))) 1=(L.length:Int)-1:=by
  rw [cF,bB,zH,aN (by omega)]
 have hw:within s 0 (aK IntKind.i64 (zN (len (L.map fun a=>(a.used,(a.gate,a.jo))))) 1)=true:=by
  rw [wZ,bF];omega
 refine ⟨na.jo,?_⟩
 unfold g.kK
 repeat refine HS ?_
 rw [pW xv,B0]
 rfl
theorem Lw (h:St c0 c1 d0 d1 d2 d3 d4 d5 d6 d7 d8 md k m) {s:Int} (hs:0≤s∧s<m.p.1):g.iR md s c0 c1 d0 d1 d2 d3 d4 d5 d6 d7 d8=some (((m.bm s).gate,()),()):=by
 obtain ⟨o,ho⟩:=ad6 h hs
 unfold g.iR
 rw [ho];rfl
end
end Go.Proofs.YtihiooaimdoapaaGreat
namespace Go.jJ
open Go.Bm
structure Kept (m m':M):Prop where
 th:m'.th=m.th
 sc:m'.sc=m.sc
 ga:∀s,(m'.bm s).gate=(m.bm s).gate
 us:∀s,(m'.bm s).used=(m.bm s).used
def Ref (m:M) (o:Out):Prop:=o.2.1≠0→Kept m o.1∧(o.2.1=25∨(o.2.2.1=0∧o.2.2.2=[]))
open Go.Bm
def TA (n:Int) (m m':M):Prop:=∀j:Nat,j≠n.toNat→m'.th[j]?=m.th[j]?
structure Calm (m m':M):Prop where
 sc:m'.sc=m.sc
 ar:m'.ar=m.ar
open Go.Bm
def qt (l:List Xt) (a:Int):Prop:=∃x∈l,x.1≤a∧a<x.1+x.2
def apart (l:List Xt):Prop:=l.Pairwise fun x y=>x.1+x.2<y.1
def tx (l:List Xt):Prop:=l.Pairwise fun x y=>x.1+x.2≤y.1
def clip:List Xt→Int→List Xt
 | [],_=>[]
 | x::l,e=>if x.1<e then (x.1,min x.2 (e-x.1))::clip l e else clip l e
def w8 (x:Xt):Prop:=x.1%8=0∧x.2%8=0∧8≤x.2
theorem apart.tx {l:List Xt} (h:apart l):tx l:=h.imp fun h=>by omega
theorem nI:∀{l:List Xt} {e:Int},(∀y∈l,e≤y.1)→clip l e=[]
 | [],_,_=>rfl
 | x::l,e,h=>by
  unfold clip
  rw [if_neg (by have:=h x (zV ..);omega)]
  exact nI fun y hy=>h y (zT _ hy)
theorem Cw:∀{l:List Xt} {e:Int},(∀y∈l,y.1+y.2≤e∧8≤y.2)→clip l e=l
 | [],_,_=>rfl
 | x::l,e,h=>by
  have:=h x (zV ..)
  unfold clip
  rw [if_pos (by omega),Cw fun y hy=>h y (zT _ hy),Int.min_eq_left (by omega)]
theorem nH {x:Xt} {l:List Xt} {a:Int}:qt (x::l) a↔(x.1≤a∧a<x.1+x.2)∨qt l a:=by
 unfold qt;simp only [List.mem_cons,exists_eq_or_imp]
theorem F4:∀{l:List Xt} {e:Int},(∀y∈l,w8 y)→e%8=0→¬qt l e→clip l (e+8)=clip l e
 | [],_,_,_,_=>rfl
 | x::l,e,h,he,hc=>by
  rw [nH] at hc
  have hx:=h x (zV ..)
  unfold w8 at hx
  have ih:=F4 (fun y hy=>h y (zT _ hy)) he fun h=>hc (.inr h)
  unfold clip
  rw [ih]
  by_cases h1:x.1<e
  ·rw [if_pos h1,if_pos (by omega)]
   have:x.1+x.2≤e:=by have:¬(x.1≤e∧e<x.1+x.2):=fun h=>hc (.inl h);omega
   rw [Int.min_eq_left (by omega),Int.min_eq_left (by omega)]
  ·rw [if_neg h1,if_neg]
   have:¬(x.1≤e∧e<x.1+x.2):=fun h=>hc (.inl h)
   omega
theorem apart.tl {x:Xt} {l:List Xt} (h:apart (x::l)):apart l:=(List.pairwise_cons.1 h).2
theorem apart.hd {x:Xt} {l:List Xt} (h:apart (x::l)):∀y∈l,x.1+x.2<y.1:=(List.pairwise_cons.1 h).1
theorem Ct:∀{l:List Xt} {e:Int},apart l→(∀y∈l,w8 y)→e%8=0→qt l e→¬qt l (e-8)→clip l (e+8)=clip l e++[(e,8)]
 | [],_,_,_,_,hc,_=>by obtain ⟨_,h,_⟩:=hc;cases h
 | x::l,e,ha,h,he,hc,hn=>by
  rw [nH] at hc hn
  have hx:=h x (zV ..)
  unfold w8 at hx
  have hd:=ha.hd
  rcases hc with hc | hc
  ·have h1:x.1=e:=by
    have:¬(x.1≤e-8∧e-8<x.1+x.2):=fun h=>hn (.inl h)
    omega
   have hl:∀y∈l,e+8≤y.1:=fun y hy=>by have:=hd y hy;omega
   unfold clip
   rw [if_pos (by omega),if_neg (by omega),nI hl,nI (fun y hy=>by have:=hl y hy;omega),h1,Int.min_eq_right (by omega)]
   show [(e,e+8-e)]=[(e,8)]
   rw [show e+8-e=8 by omega]
  ·have ih:=Ct ha.tl (fun y hy=>h y (zT _ hy)) he hc fun h=>hn (.inr h)
   obtain ⟨y,hy,h2⟩:=hc
   have:=hd y hy
   unfold clip
   rw [ih,if_pos (by omega),if_pos (by omega),Int.min_eq_left (by omega),Int.min_eq_left (by omega)]
   rfl
theorem Cs:∀{l:List Xt} {e:Int},apart l→(∀y∈l,w8 y)→e%8=0→qt l e→qt l (e-8)→∃A a s,clip l e=A++[(a,s)]∧clip l (e+8)=A++[(a,s+8)]∧0<s∧a+s=e
 | [],_,_,_,_,hc,_=>by obtain ⟨_,h,_⟩:=hc;cases h
 | x::l,e,ha,h,he,hc,hn=>by
  rw [nH] at hc hn
  have hx:=h x (zV ..)
  unfold w8 at hx
  have hd:=ha.hd
  rcases hc with hc | hc
  ·have hl:∀y∈l,e+8≤y.1:=fun y hy=>by
    have:=hd y hy;have:=h y (zT _ hy);unfold w8 at this;omega
   have h1:x.1≤e-8:=by
    rcases hn with hn | ⟨y,hy,hn⟩
    ·omega
    ·have:=hl y hy;omega
   refine ⟨[],x.1,e-x.1,?_,?_,by omega,by omega⟩
   ·unfold clip
    rw [if_pos (by omega),nI (fun y hy=>by have:=hl y hy;omega),Int.min_eq_right (by omega)]
    rfl
   ·unfold clip
    rw [if_pos (by omega),nI hl,Int.min_eq_right (by omega),show e+8-x.1=e-x.1+8 by omega]
    rfl
  ·have Nu:qt l (e-8):=by
    rcases hn with hn | hn
    ·obtain ⟨y,hy,h2⟩:=hc
     have:=hd y hy
     have:=h y (zT _ hy);unfold w8 at this;exact ⟨y,hy,by omega⟩
    ·exact hn
   obtain ⟨A,a,s,h3,h4,h5,h6⟩:=Cs ha.tl (fun y hy=>h y (zT _ hy)) he hc Nu
   obtain ⟨y,hy,h2⟩:=hc
   have:=hd y hy
   refine ⟨x::A,a,s,?_,?_,h5,h6⟩
   ·unfold clip
    rw [h3,if_pos (by omega),Int.min_eq_left (by omega)]
    rfl
   ·unfold clip
    rw [h4,if_pos (by omega),Int.min_eq_left (by omega)]
    rfl
theorem apart.sub {l l':List Xt} (h:apart l) (hs:l'.Sublist l):apart l':=List.Pairwise.sublist hs h
theorem CE {l l':List Xt} {n a:Int} (h:apart l) (hn:0<n) (hc:jy l n=some (a,l')):apart l':=by
 unfold jy at hc
 cases hb:jz l n with
 | none=>rw [hb] at hc;cases hc
 | some i=>
  rw [hb] at hc
  simp only [zI,zU] at hc
  obtain ⟨rfl,rfl⟩:=hc
  obtain ⟨hi,hg⟩:=mC hb
  split
  ·exact h.sub (List.eraseIdx_sublist ..)
  ·unfold apart at h ⊢
   rw [zA,zD hi] at hg ⊢
   simp only [Option.getD_some] at hg ⊢
   rw [List.pairwise_iff_getElem] at h ⊢
   intro j k hj hk hjk
   rw [zM] at hj hk
   have h0:=h j k hj hk hjk
   rw [List.getElem_set,List.getElem_set]
   split
   ·rename_i e;subst e
    rw [if_neg (by omega)]
    show l[i].1+n+(l[i].2-n)<_
    omega
   ·split
    ·rename_i e;subst e
     show _<l[i].1+n
     omega
    ·exact h0
theorem iU {l l':List Xt} {a:Int}:qt (l++l') a↔qt l a∨qt l' a:=by
 unfold qt
 constructor
 ·rintro ⟨x,hx,h⟩
  rcases zX.1 hx with hx | hx
  ·exact .inl ⟨x,hx,h⟩
  ·exact .inr ⟨x,hx,h⟩
 ·rintro (⟨x,hx,h⟩ | ⟨x,hx,h⟩)
  ·exact ⟨x,zQ _ hx,h⟩
  ·exact ⟨x,zS _ hx,h⟩
theorem qq {x:Xt} {a:Int}:qt [x] a↔x.1≤a∧a<x.1+x.2:=by unfold qt;simp
theorem apart.out {A B:List Xt} {x:Xt} (h:apart (A++x::B)) (a:Int) (hx:x.1≤a∧a<x.1+x.2):¬qt A a∧¬qt B a:=by
 unfold apart at h
 rw [List.pairwise_append,List.pairwise_cons] at h
 obtain ⟨h1,⟨h2,h3⟩,h4⟩:=h
 constructor
 ·rintro ⟨y,hy,h5⟩
  have:=h4 y hy x (zV ..)
  omega
 ·rintro ⟨y,hy,h5⟩
  have:=h2 y hy
  omega
theorem HJ {l l':List Xt} {n a:Int} (h:apart l) (hn:0<n) (hc:jy l n=some (a,l')) (b:Int):qt l' b↔qt l b∧¬(a≤b∧b<a+n):=by
 unfold jy at hc
 cases hb:jz l n with
 | none=>rw [hb] at hc;cases hc
 | some i=>
  rw [hb] at hc
  simp only [zI,zU] at hc
  obtain ⟨rfl,rfl⟩:=hc
  obtain ⟨hi,hg⟩:=mC hb
  rw [zA,zD hi] at hg ⊢
  simp only [Option.getD_some] at hg ⊢
  have hl:l=l.take i++l[i]::l.drop (i+1):=by rw [←List.drop_eq_getElem_cons hi,zP]
  have hs:∀x,l.set i x=l.take i++x::l.drop (i+1):=fun x=>by rw [List.set_eq_take_append_cons_drop,if_pos hi]
  have he:l.eraseIdx i=l.take i++l.drop (i+1):=List.eraseIdx_eq_take_drop_succ ..
  generalize l[i]=x at *
  generalize l.take i=A at *
  generalize l.drop (i+1)=B at *
  rw [hl] at h
  have sG:=h.out b
  rw [hl,iU,nH]
  split
  ·rename_i e
   rw [←hl,he,iU]
   constructor
   ·intro h1
    refine ⟨h1.elim .inl fun h=>.inr (.inr h),fun h2=>?_⟩
    have:=sG (by omega)
    exact h1.elim this.1 this.2
   ·rintro ⟨h1 | h1 | h1,h2⟩
    ·exact .inl h1
    ·omega
    ·exact .inr h1
  ·rename_i e
   rw [←hl,hs,iU,nH]
   constructor
   ·intro h1
    refine ⟨?_,fun h2=>?_⟩
    ·rcases h1 with h1 | h1 | h1
     ·exact .inl h1
     ·simp only at h1;exact .inr (.inl (by omega))
     ·exact .inr (.inr h1)
    ·have:=sG (by omega)
     rcases h1 with h1 | h1 | h1
     ·exact this.1 h1
     ·simp only at h1;omega
     ·exact this.2 h1
   ·rintro ⟨h1 | h1 | h1,h2⟩
    ·exact .inl h1
    ·exact .inr (.inl (by simp only;omega))
    ·exact .inr (.inr h1)
theorem G_ {acc:List Xt} {x:Xt} (ha:∀y∈acc,0≤y.2) (hx:0≤x.2) (b:Int):qt (jG acc x) b↔qt acc b∨(x.1≤b∧b<x.1+x.2):=by
 unfold jG
 rcases List.eq_nil_or_concat acc with rfl | ⟨A,y,rfl⟩
 ·simp only [List.getLast?_nil]
  rw [qq]
  constructor
  ·exact .inr
  ·rintro (⟨_,h,_⟩ | h)
   ·cases h
   ·exact h
 ·rw [List.concat_eq_append] at *
  have hy:=ha y (by simp)
  simp only [List.getLast?_append,List.getLast?_singleton,Option.some_or,List.dropLast_concat]
  split
  ·rename_i h
   rw [iU,iU,qq,qq]
   simp only
   constructor
   ·rintro (h1 | h1)
    ·exact .inl (.inl h1)
    ·by_cases h2:b<y.1+y.2
     ·exact .inl (.inr ⟨h1.1,h2⟩)
     ·exact .inr (by omega)
   ·rintro ((h1 | h1) | h1)
    ·exact .inl h1
    ·exact .inr (by omega)
    ·exact .inr (by omega)
  ·rw [iU,qq]
theorem yc {acc:List Xt} {x:Xt} (ha:∀y∈acc,0≤y.2) (hx:0≤x.2):∀y∈jG acc x,0≤y.2:=by
 intro y hy
 unfold jG at hy
 split at hy
 ·rename_i z hz
  have hz':=ha z (List.mem_of_getLast? hz)
  split at hy
  ·rcases zX.1 hy with hy | hy
   ·exact ha y (List.dropLast_subset _ hy)
   ·rcases zF.1 hy with rfl
    simp only;omega
  ·rcases zX.1 hy with hy | hy
   ·exact ha y hy
   ·rcases zF.1 hy with rfl;exact hx
 ·rcases zF.1 hy with rfl;exact hx
theorem vW:∀(l acc:List Xt),(∀y∈acc,0≤y.2)→(∀y∈l,0≤y.2)→∀b,qt (gP acc l) b↔qt acc b∨qt l b
 | [],acc,_,_,b=>by
  show qt acc b↔_
  exact ⟨.inl,fun h=>h.elim id (by rintro ⟨_,h,_⟩;cases h)⟩
 | x::l,acc,ha,hl,b=>by
  have hx:=hl x (zV ..)
  show qt (gP (jG acc x) l) b↔_
  rw [vW l _ (yc ha hx) (fun y hy=>hl y (zT _ hy)),G_ ha hx,nH,or_assoc]
theorem sA:∀(l acc:List Xt),(∀y∈l,0≤y.2)→(∀y∈acc,0≤y.2)→apart acc→tx l→(∀y∈acc,∀x∈l,y.1+y.2≤x.1)→apart (gP acc l)
 | [],acc,_,_,h,_,_=>h
 | x::l,acc,hp,hq,h,hw,hc=>by
  show apart (gP (jG acc x) l)
  have hx:∀y∈l,x.1+x.2≤y.1:=(List.pairwise_cons.1 hw).1
  have HW:=hp x (zV ..)
  have hxc:∀y∈acc,y.1+y.2≤x.1:=fun y hy=>hc y hy x (zV ..)
  refine sA l _ (fun y hy=>hp y (zT _ hy)) (yc hq HW) ?_ (List.pairwise_cons.1 hw).2 ?_
  ·unfold jG
   rcases List.eq_nil_or_concat acc with rfl | ⟨A,y,rfl⟩
   ·simp only [List.getLast?_nil]
    exact List.pairwise_singleton _ _
   ·rw [List.concat_eq_append] at *
    simp only [List.getLast?_append,List.getLast?_singleton,Option.some_or,List.dropLast_concat]
    unfold apart at h ⊢
    have h':=h
    rw [List.pairwise_append] at h
    obtain ⟨h1,_,h3⟩:=h
    have h3:=fun a ha=>h3 a ha y (List.mem_singleton_self _)
    split
    ·rename_i e
     rw [List.pairwise_append]
     refine ⟨h1,List.pairwise_singleton _ _,fun a ha b hb=>?_⟩
     rcases zF.1 hb with rfl
     exact h3 a ha
    ·rename_i e
     rw [List.pairwise_append]
     refine ⟨h',List.pairwise_singleton _ _,fun a ha b hb=>?_⟩
     rcases zF.1 hb with rfl
     have h5:=hxc y (by simp)
     rcases zX.1 ha with ha | ha
     ·have:=h3 a ha
      have:=hq y (by simp)
      omega
     ·rcases zF.1 ha with rfl
      omega
  ·intro y hy z hz
   unfold jG at hy
   have hxz:=hx z hz
   split at hy
   ·rename_i q hq
    split at hy
    ·rcases zX.1 hy with hy | hy
     ·exact hc y (List.dropLast_subset _ hy) z (zT _ hz)
     ·rcases zF.1 hy with rfl
      simp only;omega
    ·rcases zX.1 hy with hy | hy
     ·exact hc y hy z (zT _ hz)
     ·rcases zF.1 hy with rfl;exact hxz
   ·rcases zF.1 hy with rfl;exact hxz
theorem uE:∀(l:List Xt) (a:Int),∀x∈l.take (behind l a),x.1+x.2≤a
 | [],_,x,h=>by cases h
 | y::l,a,x,h=>by
  unfold behind at h
  split at h
  ·cases h
  ·rename_i hy
   rw [List.take_succ_cons] at h
   rcases List.mem_cons.1 h with rfl | h
   ·omega
   ·exact uE l a x h
theorem wk {fr en:Int} {l l':List Xt} {a n:Int} (h:tV fr en l a n=some l'):1≤n∧l'=gP [] (l.take (behind l a)++[(a,n)]++l.drop (behind l a))∧(behind l a<l.length→a+n≤(l.getD (behind l a) (0,0)).1):=by
 unfold tV at h
 split at h
 ·cases h
 ·rename_i c1
  split at h
  ·cases h
  ·rename_i c2
   refine ⟨by omega,by injection h with h;exact h.symm,fun hb=>?_⟩
   have:¬((l.getD (behind l a) (0,0)).1<a+n):=fun h=>c2 ⟨hb,h⟩
   omega
theorem Hq {l:List Xt} {a n:Int} (ha:apart l) (hp:∀y∈l,0≤y.2) (hn:1≤n) (hb:behind l a<l.length→a+n≤(l.getD (behind l a) (0,0)).1):tx (l.take (behind l a)++[(a,n)]++l.drop (behind l a)):=by
 have h1:=uE l a
 have hl:l.take (behind l a)++l.drop (behind l a)=l:=zP ..
 have h2:∀x∈l.drop (behind l a),a+n≤x.1:=by
  intro x hx
  by_cases eh:behind l a<l.length
  ·have:=hb eh
   rw [zA,zD eh,Option.getD_some] at this
   rw [List.drop_eq_getElem_cons eh] at hx
   rcases List.mem_cons.1 hx with rfl | hx
   ·exact this
   ·have h3:apart (l[behind l a]::l.drop (behind l a+1)):=by
     rw [←List.drop_eq_getElem_cons eh];exact ha.sub (List.drop_sublist ..)
    have:=h3.hd x hx
    have:=hp _ (List.getElem_mem eh)
    omega
  ·rw [List.drop_of_length_le (by omega)] at hx;cases hx
 have hw:tx (l.take (behind l a)++l.drop (behind l a)):=by rw [hl];exact ha.tx
 unfold tx at hw ⊢
 rw [List.append_assoc,List.pairwise_append]
 rw [List.pairwise_append] at hw
 refine ⟨hw.1,?_,?_⟩
 ·show List.Pairwise _ ((a,n)::l.drop (behind l a))
  rw [List.pairwise_cons]
  exact ⟨h2,hw.2.1⟩
 ·intro x hx y hy
  rcases List.mem_cons.1 hy with rfl | hy
  ·exact h1 x hx
  ·exact hw.2.2 x hx y hy
theorem D8 {fr en:Int} {l l':List Xt} {a n:Int} (ha:apart l) (hp:∀y∈l,0≤y.2) (h:tV fr en l a n=some l'):apart l':=by
 obtain ⟨h1,rfl,h3⟩:=wk h
 refine sA _ _ ?_ (fun y hy=>by cases hy) List.Pairwise.nil (Hq ha hp h1 h3) (fun y hy=>by cases hy)
 intro y hy
 simp only [zX,zF] at hy
 rcases hy with (hy | rfl) | hy
 ·exact hp y (List.mem_of_mem_take hy)
 ·show 0≤n;omega
 ·exact hp y (List.mem_of_mem_drop hy)
theorem Kx {fr en:Int} {l l':List Xt} {a n:Int} (hp:∀y∈l,0≤y.2) (h:tV fr en l a n=some l') (b:Int):qt l' b↔qt l b∨(a≤b∧b<a+n):=by
 obtain ⟨h1,rfl,h3⟩:=wk h
 rw [vW _ _ (fun y hy=>by cases hy)]
 ·have hl:qt l b↔qt (l.take (behind l a)) b∨qt (l.drop (behind l a)) b:=by rw [←iU,zP]
  rw [iU,iU,qq,hl]
  constructor
  ·rintro (⟨_,h,_⟩ | (h | h) | h)
   ·cases h
   ·exact .inl (.inl h)
   ·exact .inr h
   ·exact .inl (.inr h)
  ·rintro ((h | h) | h)
   ·exact .inr (.inl (.inl h))
   ·exact .inr (.inr h)
   ·exact .inr (.inl (.inr h))
 ·intro y hy
  simp only [zX,zF] at hy
  rcases hy with (hy | rfl) | hy
  ·exact hp y (List.mem_of_mem_take hy)
  ·show 0≤n;omega
  ·exact hp y (List.mem_of_mem_drop hy)
structure GB (fr en:Int) (bits:List Bool) (fl:List Xt):Prop where
 len:(bits.length:Int)*8=en-fr
 ap:apart fl
 wd:∀i:Nat,i<bits.length→(bits.getD i false=true↔qt fl (fr+8*i))
def mZ (bits:List Bool) (k:Nat) (v:Bool):Nat→List Bool
 | 0=>bits
 | n+1=>(mZ bits k v n).set (k+n) v
theorem pf (bits:List Bool) (k:Nat) (v:Bool):∀n,(mZ bits k v n).length=bits.length
 | 0=>rfl
 | n+1=>by unfold mZ;rw [zM];exact pf bits k v n
theorem xQ (bits:List Bool) (k:Nat) (v:Bool):∀(n i:Nat),i<bits.length→(mZ bits k v n).getD i false=if k≤i∧i<k+n then v else bits.getD i false
 | 0,i,h=>by rw [if_neg (by omega)];rfl
 | n+1,i,h=>by
  have ih:=xQ bits k v n i h
  unfold mZ
  rw [zA,List.getElem?_set,pf]
  by_cases e:k+n=i
  ·rw [if_pos e,if_pos (by omega),if_pos (by omega)];rfl
  ·rw [if_neg e,←zA,ih]
   by_cases h2:k≤i∧i<k+n
   ·rw [if_pos h2,if_pos (by omega)]
   ·rw [if_neg h2,if_neg (by omega)]
theorem GB.set {fr en:Int} {bits:List Bool} {fl tW:List Xt} (h:GB fr en bits fl) (ha:apart tW) {k n:Nat} {v:Bool} (hc:∀i:Nat,i<bits.length→(qt tW (fr+8*i)↔if k≤i∧i<k+n then v=true else qt fl (fr+8*i))):GB fr en (mZ bits k v n) tW:=by
 refine ⟨by rw [pf];exact h.len,ha,fun i hi=>?_⟩
 rw [pf] at hi
 rw [xQ _ _ _ _ _ hi,hc i hi]
 split
 ·exact Iff.rfl
 ·exact h.wd i hi
theorem CD {fr en:Int} {l l':List Xt} {a n:Int} (hf:∀x∈l,lX fr en x) (hc:jy l n=some (a,l')):fr≤a∧a+n≤en∧a%8=0:=by
 unfold jy at hc
 cases hb:jz l n with
 | none=>rw [hb] at hc;cases hc
 | some i=>
  rw [hb] at hc
  simp only [zI,zU] at hc
  obtain ⟨rfl,_⟩:=hc
  obtain ⟨hi,hg⟩:=mC hb
  rw [zA,zD hi] at hg ⊢
  simp only [Option.getD_some] at hg ⊢
  have:=hf _ (List.getElem_mem hi)
  unfold lX at this
  omega
theorem GB.jy {fr en:Int} {bits:List Bool} {l l':List Xt} (h:GB fr en bits l) (h0:fr%8=0) (hf:∀x∈l,lX fr en x) {a n:Int} (hn:0<n∧n%8=0) (hc:jy l n=some (a,l')):GB fr en (mZ bits ((a-fr) / 8).toNat false (n / 8).toNat) l':=by
 have h1:=CD hf hc
 refine h.set (CE h.ap hn.1 hc) fun i hi=>?_
 rw [HJ h.ap hn.1 hc]
 split
 ·simp only [Bool.false_eq_true,iff_false]
  rintro ⟨_,h3⟩
  exact h3 (by omega)
 ·exact ⟨fun h=>h.1,fun h=>⟨h,by omega⟩⟩
theorem GB.tV {fr en:Int} {bits:List Bool} {l l':List Xt} (h:GB fr en bits l) (h0:fr%8=0) (hf:∀x∈l,lX fr en x) {a n:Int} (hx:lX fr en (a,n)) (hc:tV fr en l a n=some l'):GB fr en (mZ bits ((a-fr) / 8).toNat true (n / 8).toNat) l':=by
 have hp:∀y∈l,0≤y.2:=fun y hy=>by have:=hf y hy;unfold lX at this;omega
 unfold lX at hx
 simp only at hx
 refine h.set (D8 h.ap hp hc) fun i hi=>?_
 rw [Kx hp hc]
 split
 ·simp only [iff_true]
  exact .inr (by omega)
 ·exact ⟨fun h=>h.elim id fun h=>by omega,.inl⟩
theorem GB.busy {fr en:Int} {bits:List Bool} {l:List Xt} (h:GB fr en bits l) (h0:fr%8=0) (hf:∀x∈l,lX fr en x) {x:Xt} (hx:lX fr en x) (hd:∀y∈l,dj x y) {i:Nat} (hi:(x.1-fr) / 8≤i∧(i:Int)<(x.1-fr) / 8+x.2 / 8):bits.getD i false=false:=by
 cases hb:bits.getD i false with
 | false=>rfl
 | true=>
  unfold lX at hx
  have hl:=h.len
  obtain ⟨y,hy,h2⟩:=(h.wd i (by omega)).1 hb
  have:=hd y hy
  unfold dj at this
  omega
theorem GB.w8 {fr en:Int} {l:List Xt} (hf:∀x∈l,lX fr en x):∀x∈l,w8 x:=fun x hx=>by
 have:=hf x hx;unfold lX at this;unfold Go.jJ.w8;omega
theorem GB.no {fr en:Int} {bits:List Bool} {l:List Xt} (h:GB fr en bits l) (h0:fr%8=0) (hf:∀x∈l,lX fr en x) {i:Nat} (hi:i<bits.length) (hb:bits.getD i false=false):clip l (fr+8*((i+1:Nat):Int))=clip l (fr+8*i):=by
 rw [show fr+8*((i+1:Nat):Int)=fr+8*i+8 by omega]
 refine F4 (GB.w8 hf) (by omega) fun hc=>?_
 rw [(h.wd i hi).2 hc] at hb;cases hb
theorem GB.new {fr en:Int} {bits:List Bool} {l:List Xt} (h:GB fr en bits l) (h0:fr%8=0) (hf:∀x∈l,lX fr en x) {i:Nat} (hi:i<bits.length) (hb:bits.getD i false=true) (hp:i=0∨bits.getD (i-1) false=false):clip l (fr+8*((i+1:Nat):Int))=clip l (fr+8*i)++[(fr+8*i,8)]:=by
 rw [show fr+8*((i+1:Nat):Int)=fr+8*i+8 by omega]
 refine Ct h.ap (GB.w8 hf) (by omega) ((h.wd i hi).1 hb) fun hc=>?_
 rcases hp with rfl | hp
 ·obtain ⟨x,hx,hc⟩:=hc
  have:=hf x hx;unfold lX at this;omega
 ·by_cases e:i=0
  ·subst e;rw [Nat.zero_sub] at hp;rw [hb] at hp;cases hp
  ·rw [(h.wd (i-1) (by omega)).2 (by rw [show fr+8*((i-1:Nat):Int)=fr+8*i-8 by omega];exact hc)] at hp;cases hp
theorem GB.old {fr en:Int} {bits:List Bool} {l:List Xt} (h:GB fr en bits l) (h0:fr%8=0) (hf:∀x∈l,lX fr en x) {i:Nat} (hi:i<bits.length) (hb:bits.getD i false=true) (h1:0<i) (hp:bits.getD (i-1) false=true):∃A a s,clip l (fr+8*i)=A++[(a,s)]∧clip l (fr+8*((i+1:Nat):Int))=A++[(a,s+8)]∧0<s∧a+s=fr+8*i:=by
 rw [show fr+8*((i+1:Nat):Int)=fr+8*i+8 by omega]
 exact Cs h.ap (GB.w8 hf) (by omega) ((h.wd i hi).1 hb) (by
  have:=(h.wd (i-1) (by omega)).1 hp
  rw [show fr+8*((i-1:Nat):Int)=fr+8*i-8 by omega] at this;exact this)
theorem GB.zero {fr en:Int} {l:List Xt} (hf:∀x∈l,lX fr en x):clip l (fr+8*((0:Nat):Int))=[]:=nI fun y hy=>by have:=hf y hy;unfold lX at this;omega
theorem GB.ends {fr en:Int} {bits:List Bool} {l:List Xt} (h:GB fr en bits l) (hf:∀x∈l,lX fr en x):clip l (fr+8*(bits.length:Int))=l:=Cw fun y hy=>by have h1:=h.len;have:=hf y hy;unfold lX at this;omega
theorem Cu:∀(l:List Xt) (e:Int),(clip l e).length≤l.length
 | [],_=>Nat.le_refl _
 | x::l,e=>by
  have:=Cu l e
  unfold clip
  split<;>simp<;>omega
open Go.Bm
structure RO where
 dY:Int
 pl:Int
 tag:Int
 nm:Nat
 aS:List Int
 done:Bool
def RO.qL (e:Int) (o:RO):jK:=⟨(o.dY,e,o.pl),o.tag,o.aS,o.done⟩
def jL (m:M) (s:Int):Int:=(ab m.sc s).1.2.2.2
def o_ (s:Int) (o:RO):Bool:=decide (o.dY=s)
structure OR (m:M) (O:List RO):Prop where
 rg:∀o∈O,0≤o.dY∧o.dY<m.p.1
 ob:∀s,0≤s→s<m.p.1→(O.filter (o_ s)).map (RO.qL (jL m s))=(m.bm s).aX
theorem eH {s:Int} {o:RO}:o_ s o=true↔o.dY=s:=by simp [o_]
theorem OR.uq {m:M} {O:List RO} {k:Nat} (hm:MI k m) (h:OR m O) {i j:Nat} {o q:RO} (hi:O[i]?=some o) (hj:O[j]?=some q) (hs:o.dY=q.dY) (hp:o.pl=q.pl):i=j:=by
 have hr:=h.rg o (zG hi)
 have h2:=(hm.tq hr).2.od
 rw [←h.ob _ hr.1 hr.2,List.pairwise_map,List.pairwise_filter,List.pairwise_iff_getElem] at h2
 obtain ⟨i1,i2⟩:=zB.1 hi
 obtain ⟨j1,j2⟩:=zB.1 hj
 rcases Nat.lt_trichotomy i j with h3 | h3 | h3
 ·have:=h2 i j i1 j1 h3 (by rw [i2];exact eH.2 rfl) (by rw [j2];exact eH.2 hs.symm)
  rw [i2,j2] at this
  have this:o.pl<q.pl:=this
  omega
 ·exact h3
 ·have:=h2 j i j1 i1 h3 (by rw [j2];exact eH.2 hs.symm) (by rw [i2];exact eH.2 rfl)
  rw [i2,j2] at this
  have this:q.pl<o.pl:=this
  omega
theorem M.Ei {m:M} {O:List RO} (h:OR m O) {r:iV} (hr:0≤r.1∧r.1<m.p.1):m.find r=(O.find? fun o=>o_ r.1 o && decide ((o.qL (jL m r.1)).ref=r)).map (RO.qL (jL m r.1)):=by
 unfold M.find
 rw [←h.ob _ hr.1 hr.2,List.find?_map,List.find?_filter]
 congr 2
 funext a
 simp
theorem OR.find {m:M} {O:List RO} {k:Nat} (hm:MI k m) (h:OR m O) {i:Nat} {o:RO} (ho:O[i]?=some o):m.find (o.dY,jL m o.dY,o.pl)=some (o.qL (jL m o.dY)):=by
 have hr:=h.rg o (zG ho)
 rw [M.Ei h hr]
 have:(O.find? fun q=>o_ o.dY q && decide ((q.qL (jL m o.dY)).ref=(o.dY,jL m o.dY,o.pl)))=some o:=by
  obtain ⟨i1,i2⟩:=zB.1 ho
  rw [List.find?_eq_some_iff_getElem]
  refine ⟨?_,i,i1,i2,fun j hj=>?_⟩
  ·simp [o_,RO.qL]
  ·cases hq:(o_ o.dY O[j] && decide ((O[j].qL (jL m o.dY)).ref=(o.dY,jL m o.dY,o.pl))) with
   | false=>rfl
   | true=>
    rw [zC,decide_eq_true_eq] at hq
    have h3:O[j].pl=o.pl:=congrArg (fun r:iV=>r.2.2) hq.2
    have:=h.uq hm (i:=j) (j:=i) (zD (by omega)) ho (eH.1 hq.1) h3
    omega
 rw [this];rfl
theorem OR.of {m m':M} {O:List RO} (h:OR m O) (hp:m'.p=m.p) (ha:∀s,0≤s→s<m.p.1→(m'.bm s).aX=(m.bm s).aX) (he:∀s,0≤s→s<m.p.1→(m.bm s).aX=[]∨jL m' s=jL m s):OR m' O:=by
 refine ⟨fun o ho=>by rw [hp];exact h.rg o ho,fun s h0 h1=>?_⟩
 rw [hp] at h1
 have h2:=h.ob s h0 h1
 rw [ha s h0 h1]
 rcases he s h0 h1 with h3 | h3
 ·rw [h3] at h2 ⊢
  rw [List.map_eq_nil_iff] at h2
  rw [h2];rfl
 ·rw [h3];exact h2
theorem DK {O:List RO} {i:Nat} {o o':RO} (ho:O[i]?=some o) (hu:∀j q,O[j]?=some q→q.dY=o.dY→q.pl=o.pl→j=i):O.set i o'=O.map fun q=>if q.dY=o.dY∧q.pl=o.pl then o' else q:=by
 refine List.ext_getElem? fun j=>?_
 rw [List.getElem?_set,zL]
 obtain ⟨i1,i2⟩:=zB.1 ho
 by_cases e:i=j
 ·subst e
  rw [if_pos rfl,if_pos i1,ho,Option.map_some,if_pos ⟨rfl,rfl⟩]
 ·rw [if_neg e]
  cases hj:O[j]? with
  | none=>rfl
  | some q=>
   rw [Option.map_some,if_neg]
   rintro ⟨h1,h2⟩
   exact e (hu j q hj h1 h2).symm
theorem Em {O:List RO} {i:Nat} {o o':RO} (ho:O[i]?=some o) (hs:o'.dY=o.dY) (hp:o'.pl=o.pl) (hu:∀j q,O[j]?=some q→q.dY=o.dY→q.pl=o.pl→j=i) (s:Int):(O.set i o').filter (o_ s)=(O.filter (o_ s)).map fun q=>if q.dY=o.dY∧q.pl=o.pl then o' else q:=by
 rw [DK ho hu,List.filter_map]
 congr 1
 refine List.filter_congr fun q hq=>?_
 show o_ s (if q.dY=o.dY∧q.pl=o.pl then o' else q)=o_ s q
 split
 ·rename_i h;unfold o_;rw [hs,h.1]
 ·rfl
theorem tD {m:M} (r:iV) (g:jK→jK) (s:Int):((m.setObj r g).bm s).aX=(m.bm s).aX.map fun o=>if o.ref=r then g o else o:=by
 unfold M.setObj M.bm
 simp only
 rw [zA,zA,zL]
 cases m.ar[s.toNat]? with
 | none=>rfl
 | some a=>rfl
theorem OR.setObj {m:M} {O:List RO} {k:Nat} (hm:MI k m) (h:OR m O) {i:Nat} {o o':RO} (ho:O[i]?=some o) (hs:o'.dY=o.dY) (hp:o'.pl=o.pl) {g:jK→jK} (hg:g (o.qL (jL m o.dY))=o'.qL (jL m o.dY)):OR (m.setObj (o.dY,jL m o.dY,o.pl) g) (O.set i o'):=by
 have hu:∀j q,O[j]?=some q→q.dY=o.dY→q.pl=o.pl→j=i:=fun j q hq h1 h2=>h.uq hm hq ho h1 h2
 refine ⟨fun q hq=>?_,fun s h0 h1=>?_⟩
 ·rcases List.mem_or_eq_of_mem_set hq with h1 | rfl
  ·exact h.rg q h1
  ·rw [hs];exact h.rg o (zG ho)
 ·have h1:s<m.p.1:=h1
  rw [tD,←h.ob s h0 h1,Em ho hs hp hu,List.map_map,List.map_map]
  refine List.map_congr_left fun q hq=>?_
  obtain ⟨q1,q2⟩:=List.mem_filter.1 hq
  have q2:q.dY=s:=eH.1 q2
  have he:jL (m.setObj (o.dY,jL m o.dY,o.pl) g) s=jL m s:=rfl
  show RO.qL _ (if q.dY=o.dY∧q.pl=o.pl then o' else q)=if (q.qL (jL m s)).ref=_ then g (q.qL (jL m s)) else q.qL (jL m s)
  rw [he]
  by_cases h3:q.dY=o.dY∧q.pl=o.pl
  ·obtain ⟨j,hj⟩:=List.getElem?_of_mem q1
   obtain rfl:=hu j q hj h3.1 h3.2
   rw [ho] at hj
   cases hj
   rw [if_pos h3,if_pos (by rw [←q2];rfl),←q2,hg]
  ·rw [if_neg h3,if_neg]
   intro h4
   have h4:(q.dY,jL m s,q.pl)=(o.dY,jL m o.dY,o.pl):=h4
   injection h4 with h5 h6
   injection h6 with h6 h7
   exact h3 ⟨h5,h7⟩
theorem gI {m:M} {k:Nat} (hm:MI k m) {i s:Int} (hi:0≤i∧i<m.p.1) (hs:0≤s) (a:mG):(m.cK i a).bm s=if s=i then a else m.bm s:=by
 have:=hm.la
 unfold M.cK M.bm
 simp only
 rw [zA,zA,List.getElem?_set]
 by_cases e:s=i
 ·subst e;rw [if_pos rfl,if_pos (by omega),if_pos rfl];rfl
 ·rw [if_neg (by omega),if_neg e]
theorem OR.alloc {m:M} {O:List RO} {k:Nat} (hm:MI k m) (h:OR m O) {s:Int} (hs:0≤s∧s<m.p.1) {a:mG} {q:RO} (hq:q.dY=s) (ha:a.aX=(m.bm s).aX++[q.qL (jL m s)]):OR (m.cK s a) (O++[q]):=by
 refine ⟨fun o ho=>?_,fun t h0 h1=>?_⟩
 ·rcases zX.1 ho with ho | ho
  ·exact h.rg o ho
  ·rcases zF.1 ho with rfl;rw [hq];exact hs
 ·have h1:t<m.p.1:=h1
  have h2:=h.ob t h0 h1
  have he:jL (m.cK s a) t=jL m t:=rfl
  rw [gI hm hs h0,he,List.filter_append,List.map_append,h2]
  by_cases e:t=s
  ·subst e
   rw [if_pos rfl,ha,List.filter_cons_of_pos (by exact eH.2 hq)];rfl
  ·rw [if_neg e,List.filter_cons_of_neg (by rw [eH,hq];exact fun h=>e h.symm)]
   simp
def kP (f:List (List h_)) (s:Int) (o:RO):RO:=if o.dY≠s∨o.done=true∨ev f o.tag=[] then o else { o with aS:=(fZ (ev f o.tag) o.aS).1,done:=true }
def gH (f:List (List h_)) (s:Int):List RO→List Int×Int×Bool
 | []=>([],0,false)
 | o::l=>if o.dY≠s∨o.done=true∨ev f o.tag=[] then gH f s l
  else ((gH f s l).1++(fZ (ev f o.tag) o.aS).2.1,(gH f s l).2.1+1,(gH f s l).2.2 || (fZ (ev f o.tag) o.aS).2.2.1)
theorem vc (f:List (List h_)) (s:Int) (o:RO):(kP f s o).dY=o.dY:=by unfold kP;split<;>rfl
theorem Ce (f:List (List h_)) (s e:Int):∀l:List RO,bM f ((l.filter (o_ s)).map (RO.qL e))=(((l.map (kP f s)).filter (o_ s)).map (RO.qL e),gH f s l)
 | []=>rfl
 | o::l=>by
  have ih:=Ce f s e l
  by_cases h:o.dY=s
  ·have h1:o_ s (kP f s o)=true:=by rw [eH,vc];exact h
   rw [List.filter_cons_of_pos (eH.2 h),List.map_cons,List.map_cons,List.filter_cons_of_pos h1,List.map_cons,bM,ih,gH]
   unfold dV kP
   have e1:(o.qL e).done=o.done:=rfl
   have e2:(o.qL e).tag=o.tag:=rfl
   have e3:(o.qL e).aS=o.aS:=rfl
   rw [e1,e2,e3]
   by_cases h2:o.done=true∨ev f o.tag=[]
   ·rw [if_pos h2,if_pos (.inr h2),if_pos (.inr h2)]
    simp
   ·rw [if_neg h2,if_neg (by rintro (h3 | h3)<;>contradiction),if_neg (by rintro (h3 | h3)<;>contradiction)]
    rfl
  ·have h1:kP f s o=o:=by unfold kP;rw [if_pos (.inl h)]
   rw [List.filter_cons_of_neg (by rw [eH];exact h),List.map_cons,h1,List.filter_cons_of_neg (by rw [eH];exact h),ih,gH,if_pos (.inl h)]
theorem Eo (f:List (List h_)) {s t:Int} (h:t≠s) (l:List RO):(l.map (kP f s)).filter (o_ t)=l.filter (o_ t):=by
 induction l with
 | nil=>rfl
 | cons o l ih=>
  by_cases h2:o.dY=t
  ·have h1:kP f s o=o:=by unfold kP;rw [if_pos (.inl (by rw [h2];exact h))]
   rw [List.map_cons,h1,List.filter_cons_of_pos (eH.2 h2),List.filter_cons_of_pos (eH.2 h2),ih]
  ·rw [List.map_cons,List.filter_cons_of_neg (by rw [eH,vc];exact h2),List.filter_cons_of_neg (by rw [eH];exact h2),ih]
theorem OR.fin {m:M} {O:List RO} {k:Nat} (hm:MI k m) (h:OR m O) {s:Int} (hs:0≤s∧s<m.p.1) :
  (bM m.f (m.bm s).aX).2=gH m.f s O∧OR (m.cK s { m.bm s with aX:=(bM m.f (m.bm s).aX).1 }) (O.map (kP m.f s)):=by
 have e:=Ce m.f s (jL m s) O
 rw [h.ob s hs.1 hs.2] at e
 refine ⟨by rw [e],fun o ho=>?_,fun t h0 h1=>?_⟩
 ·obtain ⟨q,hq,rfl⟩:=List.mem_map.1 ho
  rw [vc];exact h.rg q hq
 ·have h1:t<m.p.1:=h1
  have he:∀a,jL (m.cK s a) t=jL m t:=fun a=>rfl
  rw [gI hm hs h0,he]
  by_cases e2:t=s
  ·subst e2;rw [if_pos rfl,e]
  ·rw [if_neg e2,Eo _ e2];exact h.ob t h0 h1
theorem OR.gone {m m':M} {O:List RO} {k:Nat} (hm:MI k m) (h:OR m O) {s:Int} (hp:m'.p=m.p) (ha:∀t,0≤t→t<m.p.1→(m'.bm t).aX=if t=s then [] else (m.bm t).aX) (he:∀t,0≤t→t<m.p.1→t≠s→jL m' t=jL m t):OR m' (O.filter fun o=>!o_ s o):=by
 refine ⟨fun o ho=>?_,fun t h0 h1=>?_⟩
 ·rw [hp];exact h.rg o (List.mem_filter.1 ho).1
 ·rw [hp] at h1
  rw [ha t h0 h1,List.filter_filter]
  by_cases e:t=s
  ·subst e
   rw [if_pos rfl,List.filter_eq_nil_iff.2 (fun o _=>by simp)];rfl
  ·rw [if_neg e,he t h0 h1 e,←h.ob t h0 h1]
   congr 1
   refine List.filter_congr fun o _=>?_
   by_cases h2:o.dY=t
   ·have:o_ s o=false:=by unfold o_;rw [h2];simp [e]
    rw [this];simp
   ·have:o_ t o=false:=by unfold o_;simp [h2]
    rw [this];simp
end Go.jJ
namespace Go.Proofs.YtihiooaimdoapaaGreat
open Go.Bm Go.jJ
abbrev Sc1:Type:=((Int×Unit)×(Unit×(Unit×(Unit×Unit))))
def nY (i:Int):Sc1:=((i,()),((),((),((),()))))
theorem uz {k:Nat} (h:k<1000000):af .i64 (k:Int) 1=((k+1:Nat):Int):=by rw [aG (by omega)];omega
theorem tH {l:List cR} (hl:l.length≤100):g.dI l=some ((db l,()),()):=by
 unfold g.dI
 cases hL:l.length with
 | zero=>
  have:l=[]:=zZ hL
  subst this
  rfl
 | succ n=>
  have e1:aK .i64 (zN (len l)) 1=(n:Int):=by rw [cF,bB,hL,aN (by omega)];omega
  rw [e1]
  have hn:n<l.length:=by omega
  have e2:nth (0,false) l (nN (n:Int))=l[n]:=gE hn
  repeat refine HS ?_
  rw [e2]
  have:l.getLast?=some l[n]:=by
   rw [List.getLast?_eq_getElem?]
   have e3:l.length-1=n:=by omega
   exact (congrArg (fun i=>l[i]?) e3).trans (zD hn)
  unfold db
  rw [this]
theorem ml {l:List cR} (s:Int) (hl:l.length≤100):g.gx l s=some ((reach l s,()),()):=by
 refine (dJ (fun k=>nY (k:Int)) (fun k=>some ((decide (s=0) || (iF (l.drop k) s).isSome,()),())) l.length (by unfold lG;omega) (fun K=>?_) (fun k hk=>?_)).trans ?_
 ·unfold g.gL nY
  dsimp only
  rw [List.drop_of_length_le (by omega)]
  repeat refine HS ?_
  unfold iF aj
  simp
 ·rw [rD l s k hk]
  have e2:nth (0,false) l (nN (k:Int))=l[k]:=gE hk
  by_cases he:l[k]=(s,true)
  ·refine .inl fun K=>?_
   unfold g.gL nY
   dsimp only
   rw [e2,he]
   repeat refine HS ?_
   simp
  ·refine .inr ⟨by rw [if_neg he,Option.isSome_map],fun K=>?_⟩
   unfold g.gL nY
   dsimp only
   rw [e2,uz (by omega)]
   cases h2:l[k].2 with
   | false=>
    repeat refine HS ?_
    rfl
   | true=>
    have h3:¬l[k].1=s:=fun h=>he (by rw [←h,←h2])
    repeat refine HS ?_
    rfl
 ·rfl
theorem Bl {l:List cR} (s:Int) (hl:l.length≤100):g.j7 l s=some ((parent l s,()),()):=by
 refine (dJ (fun k=>nY (k:Int)) (fun k=>some (((match iF (l.drop k) s with | some i=>db (l.take (k+i)) | none=>-1),()),())) l.length (by unfold lG;omega) (fun K=>?_) (fun k hk=>?_)).trans ?_
 ·unfold g.gn nY
  dsimp only
  rw [List.drop_of_length_le (by omega)]
  repeat refine HS ?_
  rfl
 ·rw [rD l s k hk]
  have e2:nth (0,false) l (nN (k:Int))=l[k]:=gE hk
  by_cases he:l[k]=(s,true)
  ·refine .inl fun K=>?_
   have e3:g.dI (tk (aF (nN (k:Int)) 0) (dr 0 l))=some ((db (l.take k),()),()):=tH (l:=l.take k) (by simp;omega)
   unfold g.gn nY
   dsimp only
   rw [e2,he]
   repeat refine HS ?_
   rw [if_pos rfl]
   rfl
  ·refine .inr ⟨?_,fun K=>?_⟩
   ·rw [if_neg he]
    cases iF (l.drop (k+1)) s with
    | none=>rfl
    | some i=>simp only [Option.map_some];rw [show k+(i+1)=k+1+i by omega]
   ·unfold g.gn nY
    dsimp only
    rw [e2,uz (by omega)]
    cases h2:l[k].2 with
    | false=>
     repeat refine HS ?_
     rfl
    | true=>
     have h3:¬l[k].1=s:=fun h=>he (by rw [←h,←h2])
     repeat refine HS ?_
     rfl
 ·unfold parent
  simp only [List.drop_zero,Nat.zero_add]
  cases iF l s<;>rfl
theorem Lr (l:List cR) (s:Int) (n:Nat) (b:Int):kR l s (n+1) b=if b=s then true else kR l s n (parent l b):=rfl
def Ud (l:List cR) (b:Int):Nat→Int
 | 0=>b
 | n+1=>parent l (Ud l b n)
theorem Dv {l:List cR} (s b:Int) (hl:l.length≤100):g.iL l s b=some ((nL l s b,()),()):=by
 unfold g.iL nL
 by_cases h:s=0
 ·repeat refine HS ?_
  simp [h]
 by_cases hb:s=b
 ·repeat refine HS ?_
  rw [hb]
  unfold kR
  simp
 repeat refine HS ?_
 refine (dJ (fun k=>((Ud l b k,((k:Int),())),((),((),((),()))))) (fun k=>some ((kR l s (8-k) (parent l (Ud l b k)),()),())) 8 (by unfold lG;omega) (fun K=>?_) (fun k hk=>?_)).trans ?_
 ·unfold g.gM
  dsimp only
  repeat refine HS ?_
  rfl
 ·have hp:=Bl (Ud l b k) hl
  rw [show 8-k=(8-(k+1))+1 by omega,Lr]
  by_cases h3:parent l (Ud l b k)=s
  ·refine .inl fun K=>?_
   unfold g.gM
   dsimp only
   repeat refine HS ?_
   rw [if_pos h3]
  ·refine .inr ⟨by rw [if_neg h3];rfl,fun K=>?_⟩
   unfold g.gM
   dsimp only
   rw [uz (by omega)]
   repeat refine HS ?_
   rfl
 ·rw [show kR l s 9 b=if b=s then true else kR l s 8 (parent l b) from rfl,if_neg (fun h=>hb h.symm)]
  simp [h,Ud]
theorem xU {l:List cR} (e:cR) (hl:l.length≤100):g.js l e=some (((push l e).1,((push l e).2,())),()):=by
 unfold g.js push
 by_cases h:6≤l.length
 ·rw [if_pos h]
  repeat refine HS ?_
  rfl
 ·rw [if_neg h]
  repeat refine HS ?_
  rfl
theorem Du:g.dZ []=some (([],((0,false),(23,()))),()):=by
 unfold g.dZ
 repeat refine HS ?_
 rfl
theorem Bk {l:List cR} {x:cR} (hl:l.length≤100) (hx:l.getLast?=some x):g.dZ l=some ((l.dropLast,(x,(0,()))),()):=by
 have h0:l.length≠0:=fun h=>by rw [zZ h] at hx;cases hx
 obtain ⟨n,hn⟩:∃n,l.length=n+1:=⟨l.length-1,by omega⟩
 have e1:aK .i64 (zN (len l)) 1=(n:Int):=by rw [cF,bB,hn,aN (by omega)];omega
 have e2:nth (0,false) l (nN (n:Int))=x:=by
  rw [List.getLast?_eq_getElem?,show l.length-1=n by omega] at hx
  exact bj hx
 have e3:cat [] (tk (aF (nN (n:Int)) 0) (dr 0 l))=l.dropLast:=by
  show l.take n=_
  rw [List.dropLast_eq_take,show l.length-1=n by omega]
 have e4:((0+(l.take n).length:Nat):Int)≤((16777216:Nat):Int):=by simp;omega
 unfold g.dZ
 rw [e1,e2,e3]
 repeat refine HS ?_
 rfl
theorem J0 {a b:Int} (h:0≤a) (hb:0<b) (h2:a≤18446744073709551615):iS .u64 a b=a / b:=by
 have e1:a.tdiv b=a / b:=Int.tdiv_eq_ediv_of_nonneg h
 have e2:a / b≤a:=Int.ediv_le_self b h
 have e3:0≤a / b:=Int.ediv_nonneg h (by omega)
 unfold iS
 rw [e1]
 exact bU ⟨e3,by omega⟩
theorem n4 {r:iV} (h0 : -100000000≤r.1∧r.1≤100000000∧-1000000000≤r.2.1∧r.2.1≤1000000000000∧-1000000000≤r.2.2∧r.2.2≤1000000000000):g.eS r=some (((iT r).1,((iT r).2,())),()):=by
 unfold g.eS iT
 by_cases hr:eg r=true
 ·have hq:=cp.1 hr
  rw [if_pos hr]
  have e4:kU .u64 (af .i64 (af .i64 (iS .i64 r.2.2 8) (fY .i64 16777216 r.1)) (fY .i64 4294967296 r.2.1))=j9 r:=by
   rw [a_ (by omega),a5 (a:=16777216) (by omega),a5 (a:=4294967296) (by omega),aG (a:=r.2.2 / 8) (by omega),aG (by omega)]
   have:r.2.2 / 8+16777216*r.1+4294967296*r.2.1=j9 r:=by unfold j9;omega
   rw [this,bU (by omega)]
  have e5:dU r.2.2 8=r.2.2%8:=aT (by omega)
  rw [e4,e5]
  repeat refine HS ?_
  rfl
 ·rw [if_neg hr]
  rw [cp] at hr
  by_cases h1:r.1<0
  ·repeat refine HS ?_
   rfl
  by_cases h2:8≤r.1
  ·repeat refine HS ?_
   rfl
  by_cases h3:r.2.1<0
  ·repeat refine HS ?_
   rfl
  by_cases h4:16777215<r.2.1
  ·repeat refine HS ?_
   rfl
  by_cases h5:r.2.2<8
  ·repeat refine HS ?_
   rfl
  by_cases h6:65528<r.2.2
  ·repeat refine HS ?_
   rfl
  have e5:dU r.2.2 8=r.2.2%8:=aT (by omega)
  rw [e5]
  repeat refine HS ?_
  rfl
theorem kG {h:Int} (h0:u64 h):g.fe h=some (((au h).1,((au h).2,())),()):=by
 unfold u64 at h0
 have e1:kU .i64 (dU (iS .u64 h 16777216) 256)=(gi h).1:=by
  rw [J0 (by omega) (by omega) (by omega),aT (by omega),bP (by omega)];rfl
 have e2:kU .i64 (iS .u64 h 4294967296)=(gi h).2.1:=by
  rw [J0 (by omega) (by omega) (by omega),bP (by omega)];rfl
 have e3:fY .i64 8 (kU .i64 (dU h 16777216))=(gi h).2.2:=by
  rw [aT (by omega),bP (by omega),a5 (by omega),Int.mul_comm];rfl
 have hb:(0≤(gi h).1∧(gi h).1≤255)∧(0≤(gi h).2.1∧(gi h).2.1≤4294967296)∧0≤(gi h).2.2∧(gi h).2.2≤134217728∧(1152921504606846976≤h→16777215<(gi h).2.1):=by unfold gi;simp only;omega
 have hP:=n4 (r:=gi h) (by omega)
 have hn:=yi h0.1
 unfold g.fe au
 rw [e1,e2,e3]
 generalize gi h=r at *
 by_cases h1:1152921504606846976≤h
 ·rw [if_neg (by rw [cp];omega)]
  repeat refine HS ?_
  rfl
 by_cases h2:eg r=true
 ·have h3:=cp.1 h2
  unfold iT at hP
  rw [if_pos h2] at hP ⊢
  rw [hn h3.1.2] at hP
  repeat refine HS ?_
  rfl
 ·unfold iT at hP
  rw [if_neg h2] at hP ⊢
  repeat refine HS ?_
  rfl
theorem xh {a b:Int}:g.iM a b=some (((bo a b).1,((bo a b).2,())),()):=by
 unfold g.iM bo
 by_cases h1:a<0
 ·rw [if_pos (.inl (kz.2 (by omega)))]
  repeat refine HS ?_
  rfl
 by_cases h2:6<a
 ·rw [if_pos (.inl (kz.2 (by omega)))]
  repeat refine HS ?_
  rfl
 by_cases h3:b<0
 ·rw [if_pos (.inr (kz.2 (by omega)))]
  repeat refine HS ?_
  rfl
 by_cases h4:512<b
 ·rw [if_pos (.inr (kz.2 (by omega)))]
  repeat refine HS ?_
  rfl
 rw [if_neg (by rw [kz,kz];omega)]
 have e:af .i64 (af .i64 2 a) (iS .i64 (af .i64 b 7) 8)=2+a+(b+7) / 8:=by
  rw [aG (a:=b) (by omega),a_ (by omega),aG (a:=2) (by omega),aG (by omega)]
 rw [e]
 repeat refine HS ?_
 rfl
theorem tI {p:rM} (h:dL p=true):g.fj p=some (((p.1*64,p.2.2.1),()),()):=by
 rw [da] at h
 unfold g.fj
 rw [a5 (by omega),Int.mul_comm]
theorem yS {p:rM} (h:dL p=true):g.ju p=some (((p.1*64+p.2.2.1,p.2.2.2),()),()):=by
 rw [da] at h
 unfold g.ju
 rw [a5 (by omega),aG (by omega),Int.mul_comm]
open Go.Bm Go.jJ
theorem Ie {α:Type} {l:List (Option (List α))} {j:Nat} {r:List α} (h:aD l j=some r):aU l j (some r)=l:=by
 rw [Ql] at h
 exact kb h
section
variable {d13:jY} {d16:gQ} {gN bN:Nat} {fr en:Int} {bits:List Bool}
theorem Kv {a n:Int} {v:Bool} (h1:d13[gN]?=some (fr,some bN)) (h2:aD d16 bN=some bits) (hb:0≤fr∧fr≤a∧0≤n∧(a-fr) / 8+n / 8≤bits.length∧a≤100000∧n≤100000∧bits.length≤100000) :
  g.d_ gN a n v d13 d16=some ((),(aU d16 bN (some (mZ bits ((a-fr) / 8).toNat v (n / 8).toNat)),())):=by
 have e1:∀d,nth d d13 gN=(fr,some bN):=fun d=>bj h1
 have e0:aU d16 bN (some (mZ bits ((a-fr) / 8).toNat v 0))=d16:=Ie h2
 have q1:iS .i64 n 8=n / 8:=a_ (by omega)
 have q2:iS .i64 (aK .i64 a fr) 8=(a-fr) / 8:=by rw [aN (by omega),a_ (by omega)]
 generalize hK:((a-fr) / 8).toNat=K at *
 generalize hN:(n / 8).toNat=N at *
 unfold g.d_
 refine Eq.trans (congrArg (fun d=>loop (g.eT gN a n v d13) ((0,()),((),((),((),(d,())))))) e0.symm) ?_
 refine dJ (fun k=>(((k:Int),()),((),((),((),(aU d16 bN (some (mZ bits K v k)),())))))) (fun _=>some ((),(aU d16 bN (some (mZ bits K v N)),()))) N (by unfold lG;omega) (fun F=>?_) (fun k hk=>.inr ⟨rfl,fun F=>?_⟩)
 ·unfold g.eT
  dsimp only
  rw [q1]
  repeat refine HS ?_
  rfl
 ·have ei:af .i64 ((a-fr) / 8) (k:Int)=((K+k:Nat):Int):=by rw [aG (by omega)];omega
  have hl:(mZ bits K v k).length=bits.length:=pf ..
  have h3:aD (aU d16 bN (some (mZ bits K v k))) bN=some (mZ bits K v k):=aC h2
  unfold g.eT
  dsimp only
  simp only [e1]
  rw [q1,q2,ei,uz (by omega)]
  repeat refine HS ?_
  rw [yF]
  rfl
abbrev ExS:Type:=((Int×Unit)×((List (Int×Int)×Unit)×(Unit×(Unit×Unit))))
def exS (i:Int) (l:List Xt):ExS:=((i,()),((l,()),((),((),()))))
theorem AW {A:List Xt} {x y:Xt} {f:Xt→Xt} (h:f x=y) {i:Nat} (hi:i=A.length):aw (0,0) (A++[x]) i f=A++[y]:=by
 subst hi
 have:nth (0,0) (A++[x]) A.length=x:=sq
 unfold aw
 rw [this,h]
 exact uV
theorem yE {fl:List Xt} (h1:d13[gN]?=some (fr,some bN)) (h2:aD d16 bN=some bits) (hg:GB fr en bits fl) (h0:0≤fr∧fr%8=0∧en≤16384) (hf:∀x∈fl,lX fr en x) (hl:fl.length≤10000) :
  g.eG gN d13 d16=some ((fl,()),()):=by
 have e1:∀d,nth d d13 gN=(fr,some bN):=fun d=>bj h1
 have hlen:=hg.len
 have hS:=GB.zero hf
 have hE:=hg.ends hf
 unfold g.eG
 refine Eq.trans (congrArg (fun d=>loop (g.dB gN d13 d16) (exS 0 d)) hS.symm) ?_
 refine dJ (fun k=>exS (k:Int) (clip fl (fr+8*((k:Nat):Int)))) (fun _=>some ((fl,()),())) bits.length (by unfold lG;omega) (fun F=>?_) (fun k hk=>.inr ⟨rfl,fun F=>?_⟩)
 ·unfold g.dB exS
  dsimp only
  simp only [e1]
  rw [hE]
  repeat refine HS ?_
  rfl
 ·have tU:=Cu fl (fr+8*((k:Nat):Int))
  unfold g.dB
  show _=F (exS _ _)
  unfold exS
  dsimp only
  simp only [e1]
  rw [uz (by omega)]
  have ei:af .i64 fr (fY .i64 8 (k:Int))=fr+8*(k:Int):=by rw [a5 (by omega),aG (by omega)]
  rw [ei]
  cases hb:bits.getD k false with
  | false=>
   rw [hg.no h0.2.1 hf hk hb]
   have hb:nth false bits (nN (k:Int))=false:=hb
   repeat refine HS ?_
   rfl
  | true=>
   by_cases hp:k=0∨bits.getD (k-1) false=false
   ·rw [hg.new h0.2.1 hf hk hb hp]
    generalize hC:clip fl (fr+8*((k:Nat):Int))=C at *
    have hb:nth false bits (nN (k:Int))=true:=hb
    have qk:aw (0,0) (cat C [(fr+8*(k:Int),0)]) C.length (fun mI=>(mI.1,af IntKind.i64 mI.2 8))=C++[(fr+8*(k:Int),8)]:=AW (by rw [aG (by show _≤(0:Int)+8∧(0:Int)+8≤_;omega)];rfl) rfl
    have hC1:aK .i64 (zN (len (cat C [(fr+8*(k:Int),0)]))) 1=(C.length:Int):=by rw [cF,bB,lK,aN (by simp;omega)];simp
    by_cases hk0:k=0
    ·repeat refine HS ?_
     dsimp only
     rw [hC1,cQ,qk]
    ·have Uj:bits.getD (k-1) false=false:=hp.resolve_left hk0
     have em:aK .i64 (k:Int) 1=((k-1:Nat):Int):=by rw [aN (by omega)];omega
     have hm:nth false bits (nN ((k-1:Nat):Int))=false:=Uj
     rw [em]
     repeat refine HS ?_
     dsimp only
     rw [hC1,cQ,qk]
   ·have hk0:¬k=0:=fun h=>hp (.inl h)
    have Uj:bits.getD (k-1) false=true:=by cases h:bits.getD (k-1) false with
     | true=>rfl
     | false=>exact absurd (.inr h) hp
    obtain ⟨A,a,s,c1,c2,c3,c4⟩:=hg.old h0.2.1 hf hk hb (by omega) Uj
    rw [c1] at tU ⊢
    rw [c2]
    have hAl:(A++[(a,s)]).length=A.length+1:=by simp
    have hs:s≤200000∧0≤s∧A.length≤10000:=by
     have hx:(a,s)∈clip fl (fr+8*((k:Nat):Int)):=by rw [c1];simp
     have:0≤a:=by
      have:∀(l:List Xt) (e:Int),∀y∈clip l e,∃z∈l,z.1=y.1:=by
       intro l e
       induction l with
       | nil=>intro y hy;cases hy
       | cons x l ih=>
        intro y hy
        unfold clip at hy
        split at hy
        ·rcases List.mem_cons.1 hy with rfl | hy
         ·exact ⟨x,zV ..,rfl⟩
         ·obtain ⟨z,z1,z2⟩:=ih y hy;exact ⟨z,zT _ z1,z2⟩
        ·obtain ⟨z,z1,z2⟩:=ih y hy;exact ⟨z,zT _ z1,z2⟩
      obtain ⟨z,z1,z2⟩:=this _ _ _ hx
      have:=hf z z1;unfold lX at this
      have z2:z.1=a:=z2
      omega
     omega
    have em:aK .i64 (k:Int) 1=((k-1:Nat):Int):=by rw [aN (by omega)];omega
    have hm:nth false bits (nN ((k-1:Nat):Int))=true:=Uj
    have hb:nth false bits (nN (k:Int))=true:=hb
    have qk:aw (0,0) (A++[(a,s)]) A.length (fun mI=>(mI.1,af IntKind.i64 mI.2 8))=A++[(a,s+8)]:=AW (by rw [aG (by show _≤s+8∧s+8≤_;omega)]) rfl
    have hC1:aK .i64 (zN (len (A++[(a,s)]))) 1=(A.length:Int):=by rw [cF,bB,hAl,aN (by omega)];omega
    have hC2:(A.length:Int)<(len (A++[(a,s)]):Nat):=by rw [bB,hAl];omega
    rw [em]
    repeat refine HS ?_
    dsimp only
    rw [hC1,cQ,qk]
theorem CS {fl tW:List Xt} {a n:Int} (h1:d13[gN]?=some (fr,some bN)) (h2:aD d16 bN=some bits) (hg:GB fr en bits fl) (h0:0≤fr∧fr%8=0∧en≤16384) (hf:∀x∈fl,lX fr en x) (hl:fl.length≤10000) (hn:0<n∧n%8=0) (hc:jy fl n=some (a,tW)) :
  g.cO gN n d13 d16=some ((a,(true,())),(aU d16 bN (some (mZ bits ((a-fr) / 8).toNat false (n / 8).toNat)),())):=by
 have hE:=yE h1 h2 hg h0 hf hl
 have ha:=CD hf hc
 have hlen:=hg.len
 have Nu:n≤16384:=by omega
 have hS:=Kv (v:=false) (a:=a) (n:=n) h1 h2 (by omega)
 have er:dU n 8=n%8:=aT (by omega)
 unfold jy at hc
 cases hb:jz fl n with
 | none=>rw [hb] at hc;cases hc
 | some i=>
  rw [hb] at hc
  simp only [zI,zU] at hc
  obtain ⟨hi,hgg⟩:=mC hb
  rw [zA,zD hi] at hgg hc
  simp only [Option.getD_some] at hgg hc
  unfold g.cO
  rw [er]
  repeat refine HS ?_
  have eh:∀k:Nat,k<i→∃hk:k<fl.length,¬n≤fl[k].2:=by
   intro k hk
   refine ⟨by omega,fun h=>?_⟩
   have:∀(l:List Xt) (j i:Nat) (hj:j<l.length),jz l n=some i→n≤l[j].2→i≤j:=by
    intro l
    induction l with
    | nil=>intro j i hj;exact absurd hj (Nat.not_lt_zero _)
    | cons x l ih=>
     intro j i hj hb hx
     unfold jz at hb
     split at hb
     ·cases hb;omega
     ·rename_i Sh
      cases j with
      | zero=>exact absurd hx Sh
      | succ j=>
       cases L2:jz l n with
       | none=>rw [L2] at hb;cases hb
       | some q=>
        rw [L2] at hb
        have hb:q+1=i:=by simpa using hb
        have:=ih j q (by simpa using hj) L2 (by simpa using hx)
        omega
   have:=this fl k i (by omega) hb h
   omega
  refine dJ (fun k=>(((k:Int),()),((),((),((),(d16,())))))) (fun _=>some ((a,(true,())),(aU d16 bN (some (mZ bits ((a-fr) / 8).toNat false (n / 8).toNat)),()))) i (by unfold lG;omega) (fun F=>?_) (fun k hk=>.inr ⟨rfl,fun F=>?_⟩)
  ·have e2:nth (0,0) fl (nN (i:Int))=fl[i]:=gE hi
   unfold g.dh
   dsimp only
   rw [e2,hc.1]
   repeat refine HS ?_
   rfl
  ·obtain ⟨Uo,hk3⟩:=eh k hk
   have e2:nth (0,0) fl (nN (k:Int))=fl[k]:=gE Uo
   unfold g.dh
   dsimp only
   rw [e2,uz (by omega)]
   repeat refine HS ?_
   rfl
theorem CU {fl:List Xt} {n:Int} (h1:d13[gN]?=some (fr,some bN)) (h2:aD d16 bN=some bits) (hg:GB fr en bits fl) (h0:0≤fr∧fr%8=0∧en≤16384) (hf:∀x∈fl,lX fr en x) (hl:fl.length≤10000) (hn:0<n∧n%8=0) (hc:jy fl n=none) :
  g.cO gN n d13 d16=some ((0,(false,())),(d16,())):=by
 have hE:=yE h1 h2 hg h0 hf hl
 have er:dU n 8=n%8:=aT (by omega)
 have hb:jz fl n=none:=by
  unfold jy at hc
  cases hb:jz fl n with
  | none=>rfl
  | some i=>rw [hb] at hc;cases hc
 have eh:∀(l:List Xt),jz l n=none→∀x∈l,¬n≤x.2:=by
  intro l
  induction l with
  | nil=>intro _ x hx;cases hx
  | cons y l ih=>
   intro h x hx
   unfold jz at h
   split at h
   ·cases h
   ·rename_i hy
    rcases List.mem_cons.1 hx with rfl | hx
    ·exact hy
    ·exact ih (by simpa using h) x hx
 unfold g.cO
 rw [er]
 repeat refine HS ?_
 refine dJ (fun k=>(((k:Int),()),((),((),((),(d16,())))))) (fun _=>some ((0,(false,())),(d16,()))) fl.length (by unfold lG;omega) (fun F=>?_) (fun k hk=>.inr ⟨rfl,fun F=>?_⟩)
 ·unfold g.dh
  dsimp only
  repeat refine HS ?_
  rfl
 ·have hk3:=eh fl hb fl[k] (List.getElem_mem hk)
  have e2:nth (0,0) fl (nN (k:Int))=fl[k]:=gE hk
  unfold g.dh
  dsimp only
  rw [e2,uz (by omega)]
  repeat refine HS ?_
  rfl
theorem Oq {fl:List Xt} {x:Xt} (h1:d13[gN]?=some (fr,some bN)) (h2:aD d16 bN=some bits) (hg:GB fr en bits fl) (h0:0≤fr∧fr%8=0∧en≤16384) (hf:∀x∈fl,lX fr en x) (hx:lX fr en x) (hd:∀y∈fl,dj x y) :
  g.fI gN x.1 x.2 d13 d16=some ((0,()),(aU d16 bN (some (mZ bits ((x.1-fr) / 8).toNat true (x.2 / 8).toNat)),())):=by
 have e1:∀d,nth d d13 gN=(fr,some bN):=fun d=>bj h1
 have hlen:=hg.len
 have hbu:∀i:Nat,_→_:=fun i=>hg.busy h0.2.1 hf hx hd (i:=i)
 unfold lX at hx
 have hS:=Kv (v:=true) (a:=x.1) (n:=x.2) h1 h2 (by omega)
 have q1:iS .i64 x.2 8=x.2 / 8:=a_ (by omega)
 have q2:iS .i64 (aK .i64 x.1 fr) 8=(x.1-fr) / 8:=by rw [aN (by omega),a_ (by omega)]
 have er1:dU x.2 8=x.2%8:=aT (by omega)
 have er2:dU x.1 8=x.1%8:=aT (by omega)
 have ee:af .i64 fr (fY .i64 8 (zN (len bits)))=en:=by rw [cF,bB,a5 (by omega),aG (by omega)];omega
 unfold g.fI
 simp only [e1]
 rw [er1,er2]
 repeat refine HS ?_
 dsimp only
 refine dJ (fun k=>nY (k:Int)) (fun _=>some ((0,()),(aU d16 bN (some (mZ bits ((x.1-fr) / 8).toNat true (x.2 / 8).toNat)),()))) (x.2 / 8).toNat (by unfold lG;omega) (fun F=>?_) (fun k hk=>.inr ⟨rfl,fun F=>?_⟩)
 ·unfold g.eF nY
  dsimp only
  rw [q1]
  repeat refine HS ?_
  rfl
 ·have ei:af .i64 ((x.1-fr) / 8) (k:Int)=((((x.1-fr) / 8).toNat+k:Nat):Int):=by rw [aG (by omega)];omega
  have hb:=hbu (((x.1-fr) / 8).toNat+k) (by omega)
  have hn:nth false bits (nN ((((x.1-fr) / 8).toNat+k:Nat):Int))=false:=hb
  unfold g.eF nY
  dsimp only
  simp only [e1]
  rw [q1,q2,ei,uz (by omega)]
  repeat refine HS ?_
  rfl
end
open Go.Bm Go.jJ
theorem m0 (c:nO):g.fw c=some ((bf c,()),()):=by
 obtain ⟨s,n,p,e⟩:=c
 unfold g.fw bf
 dsimp only
 by_cases he:e<0
 ·have:within e 0 16777215=false:=kz.2 (by omega)
  rw [this]
  repeat refine HS ?_
  rfl
 by_cases Us:16777215<e
 ·have:within e 0 16777215=false:=kz.2 (by omega)
  rw [this]
  repeat refine HS ?_
  rfl
 have hw:within e 0 16777215=true:=bF.2 (by omega)
 rw [hw,Bool.true_and]
 have hp:cZ (-1) p=true∧bz p 8=within p (-1) 7∨cZ (-1) p=false∧within p (-1) 7=false:=by
  by_cases h1 : -1≤p
  ·refine .inl ⟨decide_eq_true h1,?_⟩
   by_cases h2:p≤7
   ·rw [bF.2 ⟨h1,h2⟩];exact decide_eq_true (by omega)
   ·rw [kz.2 (by omega)];exact decide_eq_false (by omega)
  ·exact .inr ⟨decide_eq_false h1,kz.2 (by omega)⟩
 have h01:∀(a b:Int),aj a b=decide (a=b):=fun _ _=>rfl
 rcases hp with ⟨p1,p2⟩ | ⟨p1,p2⟩
 all_goals
  by_cases s0:s=0
  ·subst s0
   rw [if_pos (.inl rfl)]
   repeat refine HS ?_
   by_cases n0:n=0
   ·repeat refine HS ?_
    rw [h01];simp [n0]
   ·repeat refine HS ?_
    simp [n0]
  by_cases s1:s=1
  ·subst s1
   rw [if_pos (.inr rfl)]
   repeat refine HS ?_
   by_cases n0:n=0
   ·repeat refine HS ?_
    rw [h01];simp [n0]
   ·repeat refine HS ?_
    simp [n0]
  have No:aj s 1=false:=decide_eq_false s1
  rw [if_neg (by omega)]
  repeat refine HS ?_
  by_cases s2:s=2
  ·subst s2
   rw [if_pos rfl]
   repeat refine HS ?_
   by_cases n1:1≤n
   ·by_cases n7:n≤7
    ·rw [bF.2 ⟨n1,n7⟩]
     repeat refine HS ?_
     try rw [p2]
     simp
    ·rw [kz.2 (by omega)]
     repeat refine HS ?_
     rfl
   ·rw [kz.2 (by omega)]
    repeat refine HS ?_
    rfl
  rw [if_neg s2]
  by_cases s3:s=3
  ·subst s3
   rw [if_pos rfl]
   repeat refine HS ?_
   by_cases n0:n=0
   ·repeat refine HS ?_
    try rw [p2]
    simp [n0]
   ·repeat refine HS ?_
    simp [n0]
  rw [if_neg s3]
  repeat refine HS ?_
  rfl
theorem xj (c:nO) (f:Int):g.iO c f=some (((bS c f).1,((bS c f).2,())),()):=by
 have hR:=m0 c
 unfold g.iO bS
 cases hr:bf c with
 | false=>
  rw [hr] at hR
  rw [if_pos (.inl rfl)]
  repeat refine HS ?_
  rfl
 | true=>
  rw [hr] at hR
  by_cases h1:f<0
  ·rw [if_pos (.inr (kz.2 (by omega)))]
   repeat refine HS ?_
   rfl
  by_cases h2:8≤f
  ·rw [if_pos (.inr (kz.2 (by omega)))]
   repeat refine HS ?_
   rfl
  rw [if_neg (by rw [kz];simp;omega)]
  by_cases s0:c.1=0
  ·rw [if_pos s0]
   repeat refine HS ?_
   rfl
  rw [if_neg s0]
  by_cases s3:c.1=3
  ·rw [if_pos s3]
   repeat refine HS ?_
   rfl
  rw [if_neg s3]
  by_cases s1:c.1=1
  ·rw [if_pos s1]
   have:c.2.1=0:=by
    rcases jD hr with h | h | h
    ·exact h.2.1
    ·omega
    ·omega
   repeat refine HS ?_
   rw [this];rfl
  rw [if_neg s1]
  by_cases hp:c.2.2.1=f
  ·rw [if_neg (by simpa using hp)]
   by_cases h7:c.2.1=7
   ·rw [if_pos h7]
    repeat refine HS ?_
    rfl
   ·rw [if_neg h7]
    have h2:c.1=2:=by
     rcases jD hr with h | h | h
     ·omega
     ·exact h
     ·omega
    have:=fH hr h2
    have e:af .i64 c.2.1 1=c.2.1+1:=aG (by omega)
    rw [e]
    repeat refine HS ?_
    rfl
  ·rw [if_pos hp]
   repeat refine HS ?_
   rfl
theorem yz {c:nO} (s:Int) (hr:bf c=false):jd c s=1:=by unfold jd;rw [if_pos hr]
theorem Co {c:nO} {s:Int} (hr:bf c=true) (h:¬c.1=s):jd c s=11:=by unfold jd;rw [if_neg (by rw [hr];simp),if_pos h]
theorem yy {c:nO} {s:Int} (hr:bf c=true) (h:c.1=s):jd c s=0:=by unfold jd;rw [if_neg (by rw [hr];simp),if_neg (by simpa using h)]
theorem xi (c:nO):g.iN c=some (((bG c).1,((bG c).2,())),()):=by
 have hR:=m0 c
 unfold g.iN bG
 cases hr:bf c with
 | false=>
  rw [hr] at hR
  rw [yz 2 hr,if_pos (by decide)]
  repeat refine HS ?_
  rfl
 | true=>
  rw [hr] at hR
  by_cases h2:c.1=2
  ·have:=fH hr h2
   have e:aK .i64 c.2.1 1=c.2.1-1:=aN (by omega)
   rw [e,yy hr h2,if_neg (by decide)]
   by_cases h1:c.2.1=1
   ·rw [if_pos h1]
    repeat refine HS ?_
    rw [h1];rfl
   ·rw [if_neg h1]
    repeat refine HS ?_
    rfl
  ·rw [Co hr h2,if_pos (by decide)]
   repeat refine HS ?_
   rfl
theorem yT (c:nO):g.jv c=some (((eJ c).1,((eJ c).2,())),()):=by
 have hR:=m0 c
 unfold g.jv eJ
 cases hr:bf c with
 | false=>
  rw [hr] at hR
  rw [yz 3 hr,if_pos (by decide)]
  repeat refine HS ?_
  rfl
 | true=>
  rw [hr] at hR
  by_cases h2:c.1=3
  ·have:0≤c.2.2.2∧c.2.2.2≤16777215:=by
    have h:=hr
    unfold bf at h
    simp only [zC,bF] at h
    exact h.1
   have e:dU (af .i64 c.2.2.2 1) 16777216=b6 c.2.2.2:=by rw [aG (by omega),aT (by omega)];rfl
   rw [e,yy hr h2,if_neg (by decide)]
   repeat refine HS ?_
   rfl
  ·rw [Co hr h2,if_pos (by decide)]
   repeat refine HS ?_
   rfl
structure YN where
 s:Nat
 c:Nat
 x:Nat
 g:Nat
 b:Nat
structure uS (y:YN) (fr en:Int) (l:List dW) (fl:List Xt) (d12:kD) (d13:jY) (d14:hZ) (d15:T4) (d16:gQ):Prop where
 sb:d12[y.s]?=some (some y.c,(some y.x,some y.g))
 gb:d13[y.g]?=some (fr,some y.b)
 cr:aD d14 y.c=some (l.map (·.1))
 xr:aD d15 y.x=some (l.map (·.2))
 br:∃bits,aD d16 y.b=some bits∧GB fr en bits fl
section
variable {y:YN} {fr en:Int} {l:List dW} {fl:List Xt} {d12:kD} {d13:jY} {d14:hZ} {d15:T4} {d16:gQ}
theorem mQ {l:List dW} {i:Int} (h:0≤i∧i<l.length):nth (0,(0,(0,0))) (l.map (·.1)) (nN i)=(ab l i).1:=by
 unfold ab nth nN
 rw [zA,zA,zL]
 cases hx:l[i.toNat]? with
 | none=>rw [List.getElem?_eq_none_iff] at hx;omega
 | some x=>rfl
theorem E9 {l:List dW} {i:Int} (h:0≤i∧i<l.length):nth (0,0) (l.map (·.2)) (nN i)=(ab l i).2:=by
 unfold ab nth nN
 rw [zA,zA,zL]
 cases hx:l[i.toNat]? with
 | none=>rw [List.getElem?_eq_none_iff] at hx;omega
 | some x=>rfl
theorem Oo (h:uS y fr en l fl d12 d13 d14 d15 d16) (hl:l.length≤100) (i:Int):g.de y.s i d12 d13 d14 d15 d16=some ((lb l 1 i,()),()):=by
 have e1:∀d,nth d d12 y.s=(some y.c,(some y.x,some y.g)):=fun d=>bj h.sb
 have hc:=h.cr
 unfold g.de
 simp only [e1]
 by_cases h1:1≤i
 ·repeat refine HS ?_
  have:bz i (zN (len (l.map (·.1))))=lb l 1 i:=by
   rw [cF,bB,zH]
   by_cases h2:i<l.length
   ·rw [bX.2 ⟨h1,h2⟩];exact decide_eq_true h2
   ·rw [Iy.2 (by omega)];exact decide_eq_false h2
  rw [this]
 ·rw [Iy.2 (by omega)]
  repeat refine HS ?_
  rfl
theorem uS.put (h:uS y fr en l fl d12 d13 d14 d15 d16) {i:Int} (hi:0≤i∧i<l.length) (c:nO):uS y fr en (l.set i.toNat (c,(ab l i).2)) fl d12 d13 (aU d14 y.c (some (aU (l.map (·.1)) (nN i) c))) d15 d16:=
 ⟨h.sb,h.gb,by rw [aC h.cr,List.map_set];rfl,by
  rw [h.xr,List.map_set]
  show _=some ((l.map (·.2)).set i.toNat (ab l i).2)
  rw [kb (by rw [zL,iX hi.1 hi.2];rfl)],h.br⟩
theorem wO (h:uS y fr en l fl d12 d13 d14 d15 d16) {i:Int} (hi:0≤i∧i<l.length) (hl:l.length≤100) (c:nO) (e:Int) :
  g.cW y.s i c e d12 d13 d15 d16 d14=some ((e,()),(if e=0 then aU d14 y.c (some (aU (l.map (·.1)) (nN i) c)) else d14,())):=by
 have e1:∀d,nth d d12 y.s=(some y.c,(some y.x,some y.g)):=fun d=>bj h.sb
 have hc:=h.cr
 have hm:(l.map (·.1)).length=l.length:=zH ..
 unfold g.cW
 simp only [e1]
 by_cases h1:e=0
 ·rw [if_pos h1]
  repeat refine HS ?_
  rfl
 ·rw [if_neg h1]
  repeat refine HS ?_
  rfl
theorem IW (h:uS y fr en l fl d12 d13 d14 d15 d16) (hl:l.length≤100) (i f:Int) :
  ∃eM,g.dF y.s i f d12 d13 d15 d16 d14=some (((cS l i (fun c=>bS c f)).2,()),(eM,()))∧uS y fr en (cS l i (fun c=>bS c f)).1 fl d12 d13 eM d15 d16:=by
 have e1:∀d,nth d d12 y.s=(some y.c,(some y.x,some y.g)):=fun d=>bj h.sb
 have hc:=h.cr
 have hI:=Oo h hl i
 have hm:(l.map (·.1)).length=l.length:=zH ..
 unfold cS
 cases hi:lb l 1 i with
 | false=>
  rw [hi] at hI
  refine ⟨d14,?_,h⟩
  unfold g.dF
  repeat refine HS ?_
  rfl
 | true=>
  rw [hi] at hI
  rw [bX] at hi
  have hn:=mQ (l:=l) (i:=i) (by omega)
  have hE:=xj (ab l i).1 f
  have hB:=wO h (i:=i) (by omega) hl (bS (ab l i).1 f).1 (bS (ab l i).1 f).2
  rw [if_pos rfl]
  refine ⟨if (bS (ab l i).1 f).2=0 then aU d14 y.c (some (aU (l.map (·.1)) (nN i) (bS (ab l i).1 f).1)) else d14,?_,?_⟩
  ·unfold g.dF
   simp only [e1]
   repeat refine HS ?_
   rw [hn]
   repeat refine HS ?_
   split
   ·rename_i h0;dsimp only at h0 ⊢;rw [h0]
   ·rfl
  ·split
   ·exact h.put (by omega) _
   ·exact h
theorem Bs (h:uS y fr en l fl d12 d13 d14 d15 d16) (hl:l.length≤100) (i:Int) :
  ∃eM b,g.cu y.s i d12 d13 d15 d16 d14=some ((b,((cS l i bG).2,())),(eM,()))∧uS y fr en (cS l i bG).1 fl d12 d13 eM d15 d16:=by
 have e1:∀d,nth d d12 y.s=(some y.c,(some y.x,some y.g)):=fun d=>bj h.sb
 have hc:=h.cr
 have hI:=Oo h hl i
 have hm:(l.map (·.1)).length=l.length:=zH ..
 unfold cS
 cases hi:lb l 1 i with
 | false=>
  rw [hi] at hI
  refine ⟨d14,false,?_,h⟩
  unfold g.cu
  repeat refine HS ?_
  rfl
 | true=>
  rw [hi] at hI
  rw [bX] at hi
  have hn:=mQ (l:=l) (i:=i) (by omega)
  have hE:=xi (ab l i).1
  have hB:=wO h (i:=i) (by omega) hl (bG (ab l i).1).1 (bG (ab l i).1).2
  rw [if_pos rfl]
  by_cases h0:(bG (ab l i).1).2=0
  ·rw [if_pos h0] at hB ⊢
   refine ⟨aU d14 y.c (some (aU (l.map (·.1)) (nN i) (bG (ab l i).1).1)),aj (bG (ab l i).1).1.1 3,?_,h.put (by omega) (bG (ab l i).1).1⟩
   unfold g.cu
   simp only [e1]
   repeat refine HS ?_
   rw [hn]
   repeat refine HS ?_
   rw [h0]
  ·rw [if_neg h0] at hB ⊢
   refine ⟨d14,false,?_,h⟩
   unfold g.cu
   simp only [e1]
   repeat refine HS ?_
   rw [hn]
   repeat refine HS ?_
   rfl
theorem Mw (h:uS y fr en l fl d12 d13 d14 d15 d16) (hl:l.length≤100) (i:Int) :
  ∃eM,g.dm y.s i d12 d13 d15 d16 d14=some (((cS l i eJ).2,()),(eM,()))∧uS y fr en (cS l i eJ).1 fl d12 d13 eM d15 d16:=by
 have e1:∀d,nth d d12 y.s=(some y.c,(some y.x,some y.g)):=fun d=>bj h.sb
 have hc:=h.cr
 have hI:=Oo h hl i
 have hm:(l.map (·.1)).length=l.length:=zH ..
 unfold cS
 cases hi:lb l 1 i with
 | false=>
  rw [hi] at hI
  refine ⟨d14,?_,h⟩
  unfold g.dm
  repeat refine HS ?_
  rfl
 | true=>
  rw [hi] at hI
  rw [bX] at hi
  have hn:=mQ (l:=l) (i:=i) (by omega)
  have hE:=yT (ab l i).1
  have hB:=wO h (i:=i) (by omega) hl (eJ (ab l i).1).1 (eJ (ab l i).1).2
  rw [if_pos rfl]
  refine ⟨if (eJ (ab l i).1).2=0 then aU d14 y.c (some (aU (l.map (·.1)) (nN i) (eJ (ab l i).1).1)) else d14,?_,?_⟩
  ·unfold g.dm
   simp only [e1]
   repeat refine HS ?_
   rw [hn]
   repeat refine HS ?_
   split
   ·rename_i h0;dsimp only at h0 ⊢;rw [h0]
   ·rfl
  ·split
   ·exact h.put (by omega) _
   ·exact h
end
open Go.Bm Go.jJ
theorem ur:∀{l:List dW},g_ l=none→∀x∈l,x.1.1≠0
 | [],_,x,hx=>by cases hx
 | y::l,h,x,hx=>by
  unfold g_ at h
  split at h
  ·cases h
  ·rename_i hy
   rcases List.mem_cons.1 hx with rfl | hx
   ·exact hy
   ·exact ur (by simpa using h) x hx
theorem sN:∀{l:List dW} {i j:Nat} {x:dW},g_ l=some i→j<i→l[j]?=some x→x.1.1≠0
 | [],_,_,_,h,_,_=>by cases h
 | y::l,i,j,x,h,hj,hx=>by
  unfold g_ at h
  split at h
  ·have h:0=i:=Option.some.inj h
   omega
  ·rename_i hy
   cases hf:g_ l with
   | none=>rw [hf] at h;cases h
   | some q=>
    rw [hf] at h
    have h:q+1=i:=by simpa using h
    cases j with
    | zero=>simp at hx;subst hx;exact hy
    | succ j=>exact sN (j:=j) hf (by omega) (by simpa using hx)
section
variable {y:YN} {fr en:Int} {l:List dW} {fl:List Xt} {d12:kD} {d13:jY} {d14:hZ} {d15:T4} {d16:gQ}
abbrev CrS:Type:=((Int×Unit)×(Unit×(Unit×(Unit×(hZ×(T4×(gQ×Unit)))))))
def K7 (i:Int) (d14:hZ) (d15:T4) (d16:gQ):CrS:=((i,()),((),((),((),(d14,(d15,(d16,())))))))
abbrev CrR:Type:=(Int×(Int×Unit))×(hZ×(T4×(gQ×Unit)))
theorem abF (h:uS y fr en l fl d12 d13 d14 d15 d16) (hl:l.length≤100) {n:Int} {k:Nat} {x:dW} (hk:l[k]?=some x) (hx:x.1.1≠0) (F:CrS→Option CrR) :
  g.bA y.s n d12 d13 F (K7 (k:Int) d14 d15 d16)=F (K7 ((k+1:Nat):Int) d14 d15 d16):=by
 have e1:∀d,nth d d12 y.s=(some y.c,(some y.x,some y.g)):=fun d=>bj h.sb
 have hc:=h.cr
 have hm:(l.map (·.1)).length=l.length:=zH ..
 obtain ⟨hk1,Uo⟩:=zB.1 hk
 have hn:nth (0,(0,(0,0))) (l.map (·.1)) (nN (k:Int))=x.1:=bj (by rw [cQ,zL,hk];rfl)
 unfold g.bA K7
 dsimp only
 simp only [e1]
 rw [uz (by omega)]
 repeat refine HS ?_
 rw [hn]
 repeat refine HS ?_
 rfl
theorem Td (h:uS y fr en l fl d12 d13 d14 d15 d16) (hl:l.length≤100) {n:Int} (F:CrS→Option CrR) :
  g.bA y.s n d12 d13 F (K7 (l.length:Int) d14 d15 d16)=some ((0,(13,())),(d14,(d15,(d16,())))):=by
 have e1:∀d,nth d d12 y.s=(some y.c,(some y.x,some y.g)):=fun d=>bj h.sb
 have hc:=h.cr
 have hm:(l.map (·.1)).length=l.length:=zH ..
 unfold g.bA K7
 dsimp only
 simp only [e1]
 repeat refine HS ?_
 rfl
theorem Rb {n:Int} (h:1≤n∧n≤8192):fY .i64 (iS .i64 (af .i64 n 7) 8) 8=rK n:=by
 rw [aG (by omega),a_ (by omega),a5 (by omega)];unfold rK;omega
theorem Ak (h:uS y fr en l fl d12 d13 d14 d15 d16) (hl:1≤l.length∧l.length≤100) {n:Int} (N:Nat) (R:Option CrR) (hb:∀k,1≤k→k≤N→∃x,l[k]?=some x∧x.1.1≠0) (he:∀F,g.bA y.s n d12 d13 F (K7 ((N+1:Nat):Int) d14 d15 d16)=R) :
  loop (g.bA y.s n d12 d13) (K7 1 d14 d15 d16)=R:=by
 have hN:N≤100:=by
  by_cases h0:N=0
  ·omega
  ·obtain ⟨x,hx,_⟩:=hb N (by omega) (Nat.le_refl _)
   have:=(zB.1 hx).1
   omega
 refine dJ (fun k=>K7 ((k+1:Nat):Int) d14 d15 d16) (fun _=>R) N (by unfold lG;omega) (fun F=>he F) (fun k hk=>.inr ⟨rfl,fun F=>?_⟩)
 obtain ⟨x,hx,HW⟩:=hb (k+1) (by omega) (by omega)
 exact abF h hl.2 hx HW F
theorem GC (h:uS y fr en l fl d12 d13 d14 d15 d16) (hs:SI fr en l fl) (AJ:fl.length≤10000) (n:Int) :
  ∃eM rG rF,g.cX y.s n d12 d13 d14 d15 d16=some (((bC l fl n).2.2.1,((bC l fl n).2.2.2,())),(eM,(rG,(rF,()))))∧uS y fr en (bC l fl n).1 (bC l fl n).2.1 d12 d13 eM rG rF:=by
 have LV:=hs.len
 unfold bC
 by_cases hn:within n 1 8192=true
 ·rw [if_neg (by rw [hn];simp)]
  rw [bF] at hn
  have tP:∀R,loop (g.bA y.s n d12 d13) (K7 1 d14 d15 d16)=R→g.cX y.s n d12 d13 d14 d15 d16=R:=by
   intro R hR
   unfold g.cX
   repeat refine HS ?_
   exact hR
  cases C4:g_ l with
  | none=>
   refine ⟨d14,d15,d16,tP _ (Ak h (by omega) (l.length-1) _ (fun k h1 h2=>?_) (fun F=>?_)),h⟩
   ·have hk:k<l.length:=by omega
    exact ⟨l[k],zD hk,ur C4 _ (List.getElem_mem hk)⟩
   ·rw [show l.length-1+1=l.length by omega]
    exact Td h (by omega) F
  | some i=>
   obtain ⟨x,hx,HW⟩:=gW C4
   have hi:i<l.length:=(zB.1 hx).1
   have Uq:i≠0:=by
    rintro rfl
    have:=(hs.im x hx).1
    rw [this] at HW;cases HW
   have hb:∀k,1≤k→k≤i-1→∃x,l[k]?=some x∧x.1.1≠0:=fun k h1 h2=>by
    have hk:k<l.length:=by omega
    exact ⟨l[k],zD hk,sN C4 (by omega) (zD hk)⟩
   have e1:∀d,nth d d12 y.s=(some y.c,(some y.x,some y.g)):=fun d=>bj h.sb
   have hc:=h.cr
   have hxr:=h.xr
   obtain ⟨bits,Uv,L2⟩:=h.br
   have hm:(l.map (·.1)).length=l.length:=zH ..
   have C3:(l.map (·.2)).length=l.length:=zH ..
   have hu:0<rK n∧rK n%8=0:=by unfold rK;omega
   have Kc:nth (0,(0,(0,0))) (l.map (·.1)) (nN (i:Int))=x.1:=bj (by rw [cQ,zL,hx];rfl)
   have LP:ab l (i:Int)=x:=ld hx
   have Nk:=Rb (n:=n) (by omega)
   cases hca:jy fl (rK n) with
   | none=>
    have hC:=CU h.gb Uv L2 hs.Eb hs.fx AJ hu hca
    refine ⟨d14,d15,d16,tP _ (Ak h (by omega) (i-1) _ hb (fun F=>?_)),h⟩
    rw [show i-1+1=i by omega]
    unfold g.bA K7
    dsimp only
    simp only [e1]
    rw [Nk]
    repeat refine HS ?_
    rw [Kc]
    repeat refine HS ?_
    rfl
   | some q=>
    obtain ⟨a,tW⟩:=q
    have hC:=CS h.gb Uv L2 hs.Eb hs.fx AJ hu hca
    have hG:=L2.jy hs.Eb.2.1 hs.fx hu hca
    have J3:aw (0,(0,(0,0))) (l.map (·.1)) (nN (i:Int)) (fun r=>(1,r.2))=(l.map (·.1)).set i (1,x.1.2):=by unfold aw;rw [Kc];rfl
    refine ⟨aU d14 y.c (some ((l.map (·.1)).set i (1,x.1.2))),aU d15 y.x (some (aU (l.map (·.2)) (nN (i:Int)) (a,rK n))),aU d16 y.b (some (mZ bits ((a-fr) / 8).toNat false (rK n / 8).toNat)),tP _ (Ak h (by omega) (i-1) _ hb (fun F=>?_)),?_⟩
    ·rw [show i-1+1=i by omega]
     unfold g.bA K7
     dsimp only
     simp only [e1]
     rw [Nk]
     repeat refine HS ?_
     rw [Kc]
     repeat refine HS ?_
     rw [J3]
    ·dsimp only
     refine ⟨h.sb,h.gb,?_,?_,⟨_,aC Uv,hG⟩⟩
     ·rw [aC hc,LP,List.map_set]
     ·rw [aC hxr,List.map_set];rfl
 ·rw [if_pos (by simpa using hn)]
  rw [bF] at hn
  refine ⟨d14,d15,d16,?_,h⟩
  unfold g.cX
  by_cases h1:n<1
  ·repeat refine HS ?_
   rfl
  ·repeat refine HS ?_
   rfl
theorem Dy (h:uS y fr en l fl d12 d13 d14 d15 d16) (hs:SI fr en l fl) (AJ:fl.length≤10000) (i:Int) :
  ∃eM rG rF,g.cA y.s i d12 d13 d14 d15 d16=some (((bg fr en l fl i).2.2,()),(eM,(rG,(rF,()))))∧uS y fr en (bg fr en l fl i).1 (bg fr en l fl i).2.1 d12 d13 eM rG rF:=by
 have LV:=hs.len
 have e1:∀d,nth d d12 y.s=(some y.c,(some y.x,some y.g)):=fun d=>bj h.sb
 have hc:=h.cr
 have hxr:=h.xr
 obtain ⟨bits,Uv,L2⟩:=h.br
 have hm:(l.map (·.1)).length=l.length:=zH ..
 have C3:(l.map (·.2)).length=l.length:=zH ..
 have hI:=Oo h (by omega) i
 unfold bg
 cases hi:lb l 1 i with
 | false=>
  rw [hi] at hI
  rw [if_pos rfl]
  refine ⟨d14,d15,d16,?_,h⟩
  unfold g.cA
  repeat refine HS ?_
  rfl
 | true=>
  rw [hi] at hI
  rw [bX] at hi
  rw [if_neg (by simp)]
  have hx:=iX (l:=l) (i:=i) (by omega) hi.2
  have hn:=mQ (l:=l) (i:=i) (by omega)
  have Nu:=E9 (l:=l) (i:=i) (by omega)
  generalize Qz:ab l i=x at *
  by_cases h0:x.1.1=0
  ·rw [if_pos h0]
   refine ⟨d14,d15,d16,?_,h⟩
   unfold g.cA
   simp only [e1]
   repeat refine HS ?_
   rw [hn]
   repeat refine HS ?_
   rfl
  rw [if_neg h0]
  by_cases h1:x.1.1=1
  ·rw [if_neg (by simpa using h1)]
   have qO:=hs.ux _ x (by omega) hx h0
   have hdj:=hs.fu _ x (by omega) hx h0
   obtain ⟨tW,g1,_⟩:=z9 hs.Eb hs.fx hs.pw qO hdj
   have hGv:=Oq h.gb Uv L2 hs.Eb hs.fx qO hdj
   have hGb:=L2.tV hs.Eb.2.1 hs.fx qO g1
   have hr:0≤x.1.2.2.2∧x.1.2.2.2≤16777215:=by
    have h:=hs.cr _ _ hx
    unfold bf at h
    simp only [zC,bF] at h
    exact h.1
   have e:dU (af .i64 x.1.2.2.2 1) 16777216=b6 x.1.2.2.2:=by rw [aG (by omega),aT (by omega)];rfl
   rw [g1]
   refine ⟨aU d14 y.c (some (aU (l.map (·.1)) (nN i) (0,(0,(-1,b6 x.1.2.2.2))))),aU d15 y.x (some (aU (l.map (·.2)) (nN i) (0,0))),aU d16 y.b (some (mZ bits ((x.2.1-fr) / 8).toNat true (x.2.2 / 8).toNat)),?_,?_⟩
   ·unfold g.cA
    simp only [e1]
    repeat refine HS ?_
    rw [hn]
    repeat refine HS ?_
    rw [hn]
    repeat refine HS ?_
    rw [Nu]
    repeat refine HS ?_
    rw [hn,e]
   ·dsimp only
    refine ⟨h.sb,h.gb,?_,?_,⟨_,aC Uv,hGb⟩⟩
    ·rw [aC hc,List.map_set];rfl
    ·rw [aC hxr,List.map_set];rfl
  ·rw [if_pos h1]
   refine ⟨d14,d15,d16,?_,h⟩
   unfold g.cA
   simp only [e1]
   repeat refine HS ?_
   rw [hn]
   repeat refine HS ?_
   rw [hn]
   repeat refine HS ?_
   rfl
end
open Go.Bm Go.jJ
abbrev Obj:Type:=Int×(Int×(Int×(Option Nat×Bool)))
def ro (q:RO):Obj:=(q.dY,(q.pl,(q.tag,(some q.nm,q.done))))
structure YB where
 y:YN
 o:Option Nat
 O:List RO
 G:List Int
 B:List Int
 R:List (List Int)
 C:List (List cR)
structure YR (yd:Nat) (m:M) (b:YB) (d11:kZ) (d12:kD) (d13:jY) (d14:hZ) (d15:T4) (d16:gQ) (d17:kS) (d18:dT):Prop where
 bx:d11[yd]?=some (m.p,(m.f,(some b.y.s,(b.o,(b.G,(b.B,(b.R,b.C)))))))
 sc:uS b.y m.fr m.en m.sc m.fl d12 d13 d14 d15 d16
 ob:OR m b.O
 ol:b.O.length≤9000
 ow:(b.o=none∧b.O=[])∨∃j,b.o=some j∧aD d17 j=some (b.O.map ro)
 sl:∀q∈b.O,aD d18 q.nm=some q.aS
 un:b.O.Pairwise fun q r=>q.nm≠r.nm
 ga:∀s:Int,0≤s→s<m.p.1→b.G.getD s.toNat 0=(m.bm s).gate
 us:∀s:Int,0≤s→s<m.p.1→b.B.getD s.toNat 0=(m.bm s).used
 rg:∀n:Int,0≤n→n<m.th.length→b.R.getD n.toNat [0,0,0,0]=(m.ax n).dc
 cs:∀n:Int,0≤n→n<m.th.length→b.C.getD n.toNat []=(m.ax n).aA
def oM (P:RO→Bool):List RO→Int→Int
 | [],_=>-1
 | q::l,k=>if P q=true then k else oM P l (k+1)
theorem vQ {P:RO→Bool}:∀{l:List RO} (k:Int),(∀q∈l,P q=false)→oM P l k = -1
 | [],_,_=>rfl
 | q::l,k,h=>by
  unfold oM
  rw [if_neg (by rw [h q (zV ..)];simp)]
  exact vQ _ fun q hq=>h q (zT _ hq)
theorem vP {P:RO→Bool}:∀{l:List RO} {i:Nat} {q:RO} (k:Int),l[i]?=some q→P q=true→(∀j r,l[j]?=some r→P r=true→j=i)→oM P l k=k+i
 | [],_,_,_,h,_,_=>by simp at h
 | x::l,0,q,k,h,hp,_=>by
  simp at h
  subst h
  unfold oM
  rw [if_pos hp];simp
 | x::l,i+1,q,k,h,hp,hu=>by
  have hx:¬P x=true:=fun hx=>by have:=hu 0 x rfl hx;omega
  unfold oM
  rw [if_neg hx,vP (l:=l) (i:=i) (q:=q) (k+1) (by simpa using h) hp (fun j r hj hr=>by have:=hu (j+1) r (by simpa using hj) hr;omega)]
  omega
def fP (r:iV) (e:Int) (q:RO):Bool:=decide (q.dY=r.1) && (decide (q.pl=r.2.2) && decide (e=r.2.1))
section
variable {yd:Nat} {m:M} {b:YB} {d11:kZ} {d12:kD} {d13:jY} {d14:hZ} {d15:T4} {d16:gQ} {d17:kS} {d18:dT} {k:Nat}
theorem YR.nx (h:YR yd m b d11 d12 d13 d14 d15 d16 d17 d18):nth bE d11 yd=(m.p,(m.f,(some b.y.s,(b.o,(b.G,(b.B,(b.R,b.C))))))):=bj h.bx
theorem YR.nC (h:YR yd m b d11 d12 d13 d14 d15 d16 d17 d18) {n:Int} (hn:0≤n∧n<m.th.length):nth [] b.C (nN n)=(m.ax n).aA:=h.cs n hn.1 hn.2
theorem YR.nR (h:YR yd m b d11 d12 d13 d14 d15 d16 d17 d18) {n:Int} (hn:0≤n∧n<m.th.length) (r:Int):nth 0 (nth [0,0,0,0] b.R (nN n)) (nN r)=m.c_ n r:=by
 have:nth [0,0,0,0] b.R (nN n)=(m.ax n).dc:=h.rg n hn.1 hn.2
 rw [this];rfl
theorem YR.ER (h:YR yd m b d11 d12 d13 d14 d15 d16 d17 d18):nth (none,(none,none)) d12 b.y.s=(some b.y.c,(some b.y.x,some b.y.g)):=bj h.sc.sb
theorem YR.ep (h:YR yd m b d11 d12 d13 d14 d15 d16 d17 d18) (hi:MI k m) {s:Int} (hs:0≤s∧s<m.p.1):(nth (0,(0,(0,0))) (m.sc.map (·.1)) (nN s)).2.2.2=jL m s:=by
 rw [mQ (by rw [hi.ls];exact hs)];rfl
theorem Ad (h:YR yd m b d11 d12 d13 d14 d15 d16 d17 d18) (hi:MI k m) {r:iV} (hr:0≤r.1∧r.1<m.p.1) :
  g.dv yd r d11 d12 d13 d14 d15 d16 d17 d18=some ((oM (fP r (jL m r.1)) b.O 0,()),()):=by
 have hb:=h.nx
 have hs:=h.ER
 have hc:=h.sc.cr
 have he:=h.ep hi hr
 have yh:=h.ol
 have yj:=hi.si.len
 have sI:=hi.ls
 have hm:(m.sc.map (·.1)).length=m.sc.length:=zH ..
 unfold g.dv
 rcases h.ow with ⟨w1,w2⟩ | ⟨j,w1,w2⟩
 ·rw [w2]
  rw [qj]
  show g.cj yd r d11 d12 d14 d17 _ _=_
  unfold g.cj
  simp only [hb,w1]
  repeat refine HS ?_
  rfl
 ·refine dJ (fun k=>nY (k:Int)) (fun k=>some ((oM (fP r (jL m r.1)) (b.O.drop k) (k:Int),()),())) b.O.length (by unfold lG;omega) (fun F=>?_) (fun k hk=>?_)
  ·have wh:(b.O.map ro).length=b.O.length:=zH ..
   unfold g.cj nY
   dsimp only
   simp only [hb,w1]
   rw [List.drop_of_length_le (Nat.le_refl _)]
   repeat refine HS ?_
   rfl
  ·have wh:(b.O.map ro).length=b.O.length:=zH ..
   have hq:nth (0,(0,(0,(none,false)))) (b.O.map ro) (nN (k:Int))=ro b.O[k]:=bj (by rw [cQ,zL,zD hk];rfl)
   rw [List.drop_eq_getElem_cons hk]
   generalize b.O[k]=q at *
   have hd:oM (fP r (jL m r.1)) (q::b.O.drop (k+1)) (k:Int)=if fP r (jL m r.1) q=true then (k:Int) else oM (fP r (jL m r.1)) (b.O.drop (k+1)) ((k:Int)+1):=rfl
   rw [hd]
   have h1:(nth (0,(0,(0,(none,false)))) (b.O.map ro) (nN (k:Int))).1=q.dY:=by rw [hq];rfl
   have h2:(nth (0,(0,(0,(none,false)))) (b.O.map ro) (nN (k:Int))).2.1=q.pl:=by rw [hq];rfl
   by_cases c1:q.dY=r.1
   ·by_cases c2:q.pl=r.2.2
    ·by_cases c3:jL m r.1=r.2.1
     ·refine .inl fun F=>?_
      rw [if_pos (by simp [fP,c1,c2,c3])]
      have h3:(nth (0,(0,(0,0))) (m.sc.map (·.1)) (nN r.1)).2.2.2=r.2.1:=by rw [he];exact c3
      unfold g.cj nY
      dsimp only
      simp only [hb,w1]
      repeat refine HS ?_
      simp only [hs]
      repeat refine HS ?_
      rfl
     ·refine .inr ⟨by rw [if_neg (by simp [fP,c3])];rw [show ((k+1:Nat):Int)=(k:Int)+1 by omega],fun F=>?_⟩
      have h3:¬(nth (0,(0,(0,0))) (m.sc.map (·.1)) (nN r.1)).2.2.2=r.2.1:=by rw [he];exact c3
      unfold g.cj nY
      dsimp only
      simp only [hb,w1]
      rw [uz (by omega)]
      repeat refine HS ?_
      simp only [hs]
      repeat refine HS ?_
      rfl
    ·refine .inr ⟨by rw [if_neg (by simp [fP,c2])];rw [show ((k+1:Nat):Int)=(k:Int)+1 by omega],fun F=>?_⟩
     unfold g.cj nY
     dsimp only
     simp only [hb,w1,hs]
     rw [uz (by omega)]
     repeat refine HS ?_
     rfl
   ·refine .inr ⟨by rw [if_neg (by simp [fP,c1])];rw [show ((k+1:Nat):Int)=(k:Int)+1 by omega],fun F=>?_⟩
    unfold g.cj nY
    dsimp only
    simp only [hb,w1,hs]
    rw [uz (by omega)]
    repeat refine HS ?_
    rfl
theorem ru (h:YR yd m b d11 d12 d13 d14 d15 d16 d17 d18) (hi:MI k m) {r:iV} (hr:0≤r.1∧r.1<m.p.1) {o:jK} (hf:m.find r=some o) :
  ∃(i:Nat) (q:RO),b.O[i]?=some q∧q.dY=r.1∧q.pl=r.2.2∧jL m r.1=r.2.1∧o=q.qL (jL m q.dY)∧oM (fP r (jL m r.1)) b.O 0=i:=by
 rw [M.Ei h.ob hr] at hf
 cases hq:b.O.find? (fun o=>o_ r.1 o && decide ((o.qL (jL m r.1)).ref=r)) with
 | none=>rw [hq] at hf;cases hf
 | some q=>
  rw [hq] at hf
  have hf:q.qL (jL m r.1)=o:=by simpa using hf
  have h1:=List.find?_some hq
  rw [zC,decide_eq_true_eq] at h1
  obtain ⟨i,hi2⟩:=List.getElem?_of_mem (List.mem_of_find?_eq_some hq)
  have h2:q.dY=r.1:=eH.1 h1.1
  have h3:q.pl=r.2.2:=congrArg (fun r:iV=>r.2.2) h1.2
  have h4:jL m r.1=r.2.1:=congrArg (fun r:iV=>r.2.1) h1.2
  refine ⟨i,q,hi2,h2,h3,h4,by rw [h2,hf],?_⟩
  rw [vP 0 hi2 (by simp [fP,h2,h3,h4]) (fun j p hj hp=>?_)]
  ·simp
  ·simp [fP] at hp
   exact h.ob.uq hi hj hi2 (by rw [hp.1,h2]) (by rw [hp.2.1,h3])
theorem wm (h:YR yd m b d11 d12 d13 d14 d15 d16 d17 d18) {r:iV} (hr:0≤r.1∧r.1<m.p.1) (hf:m.find r=none):oM (fP r (jL m r.1)) b.O 0 = -1:=by
 refine vQ _ fun q hq=>?_
 rw [M.Ei h.ob hr] at hf
 have hf:b.O.find? (fun o=>o_ r.1 o && decide ((o.qL (jL m r.1)).ref=r))=none:=by simpa using hf
 rw [List.find?_eq_none] at hf
 have:=hf q hq
 cases hp:fP r (jL m r.1) q with
 | false=>rfl
 | true=>
  exfalso
  apply this
  simp [fP] at hp
  rw [zC,decide_eq_true_eq]
  refine ⟨eH.2 hp.1,?_⟩
  show (q.dY,jL m r.1,q.pl)=r
  rw [hp.1,hp.2.1,hp.2.2]
theorem wJ {aA:List cR} {V:Int} (h:(m.check aA V).1=none):(m.check aA V).2≠0:=by
 unfold M.check at h ⊢
 split
 ·decide
 ·split
  ·decide
  ·split
   ·decide
   ·rename_i c1 c2 c3
    rw [if_neg c1,if_neg c2,if_neg c3] at h
    cases hf:m.find (au V).1 with
    | none=>decide
    | some o=>rw [hf] at h;cases h
theorem pq (h:YR yd m b d11 d12 d13 d14 d15 d16 d17 d18) (hi:MI k m) {n:Int} (hn:0≤n∧n<m.th.length) {V:Int} (hV:u64 V) (hc:(m.check (m.ax n).aA V).1=none) :
  g.cT yd n V d11 d12 d13 d14 d15 d16 d17 d18=some ((0,(0,((m.check (m.ax n).aA V).2,()))),()):=by
 have hb:=h.nx
 have hs:=h.ER
 have qP:=h.sc.cr
 have yj:=hi.si.len
 have sI:=hi.ls
 have eh:=hi.lt
 have C2:=hi.u9
 have hm:(m.sc.map (·.1)).length=m.sc.length:=zH ..
 have hU:=kG hV
 have hC:=h.nC hn
 have AK:=(hi.ax hn).2.2.len
 have hRe:=ml (l:=(m.ax n).aA) (au V).1.1 (by omega)
 unfold g.cT
 simp only [hb]
 rw [hC]
 unfold M.check at hc ⊢
 by_cases h1:(au V).2=0
 ·by_cases h2:m.p.1≤(au V).1.1
  ·rw [if_pos (.inr h2)]
   repeat refine HS ?_
   rfl
  ·rw [if_neg (by simp [h1];omega)] at hc ⊢
   cases h3:reach (m.ax n).aA (au V).1.1 with
   | false=>
    rw [if_pos rfl]
    rw [h3] at hRe
    repeat refine HS ?_
    rfl
   | true=>
    rw [h3] at hc hRe
    rw [if_neg (by simp)] at hc ⊢
    have h0:0≤(au V).1.1:=(cp.1 (fK h1).1).1.1
    have he:=h.ep hi (s:=(au V).1.1) (by omega)
    have BX:(kq m.sc (au V).1.1).1.2.2.2=jL m (au V).1.1:=by unfold kq;rw [if_pos (bX.2 (by omega))];rfl
    rw [BX] at hc ⊢
    by_cases h4:jL m (au V).1.1=(au V).1.2.1
    ·rw [if_neg (by simpa using h4)] at hc ⊢
     cases hf:m.find (au V).1 with
     | some o=>rw [hf] at hc;cases hc
     | none=>
      have hF:=Ad h hi (r:=(au V).1) (by omega)
      rw [wm h (by omega) hf] at hF
      repeat refine HS ?_
      simp only [hs]
      repeat refine HS ?_
      rfl
    ·rw [if_pos (by simpa using h4)]
     have h5:¬(au V).1.2.1=(nth (0,(0,(0,0))) (m.sc.map (·.1)) (nN (au V).1.1)).2.2.2:=by rw [he];exact fun h=>h4 h.symm
     repeat refine HS ?_
     simp only [hs]
     repeat refine HS ?_
     rfl
 ·rw [if_pos (.inl h1)]
  repeat refine HS ?_
  rfl
theorem po (h:YR yd m b d11 d12 d13 d14 d15 d16 d17 d18) (hi:MI k m) {n:Int} (hn:0≤n∧n<m.th.length) {V:Int} (hV:u64 V) {o:jK} (hc:(m.check (m.ax n).aA V).1=some o) :
  ∃(i:Nat) (q:RO),b.O[i]?=some q∧o=q.qL (jL m q.dY)∧(0≤q.dY∧q.dY<m.p.1)∧g.cT yd n V d11 d12 d13 d14 d15 d16 d17 d18=some (((i:Int),(q.dY,(0,()))),()):=by
 have hb:=h.nx
 have hs:=h.ER
 have qP:=h.sc.cr
 have yj:=hi.si.len
 have sI:=hi.ls
 have eh:=hi.lt
 have C2:=hi.u9
 have hm:(m.sc.map (·.1)).length=m.sc.length:=zH ..
 have hU:=kG hV
 have hC:=h.nC hn
 have AK:=(hi.ax hn).2.2.len
 have hRe:=ml (l:=(m.ax n).aA) (au V).1.1 (by omega)
 obtain ⟨_,h1,h2,h3,h4,h5⟩:=M.gf hc
 have h0:0≤(au V).1.1:=(cp.1 (fK h1).1).1.1
 rw [h3] at hRe
 obtain ⟨i,q,q1,q2,q3,q4,q5,q6⟩:=ru h hi (r:=(au V).1) (by omega) h5
 have hF:=Ad h hi (r:=(au V).1) (by omega)
 rw [q6] at hF
 have he:=h.ep hi (s:=(au V).1.1) (by omega)
 have h6:(au V).1.2.1=(nth (0,(0,(0,0))) (m.sc.map (·.1)) (nN (au V).1.1)).2.2.2:=by rw [he];exact q4.symm
 refine ⟨i,q,q1,q5,by omega,?_⟩
 unfold g.cT
 simp only [hb]
 rw [hC,q2]
 repeat refine HS ?_
 simp only [hs]
 repeat refine HS ?_
 rfl
theorem A_ (h:YR yd m b d11 d12 d13 d14 d15 d16 d17 d18) (hi:MI k m) {n:Int} (hn:0≤n∧n<m.th.length) {V:Int} (hV:u64 V) (s:Int) :
  ∃e,g.cB yd n V s d11 d12 d13 d14 d15 d16 d17 d18=some ((e,()),())∧∀to,m.put (m.ax n).aA V s to=if e=0 then to.code 0 else m.code e:=by
 have hb:=h.nx
 have eh:=hi.lt
 have C2:=hi.u9
 have hC:=h.nC hn
 have AK:=(hi.ax hn).2.2.len
 by_cases h0:V=0
 ·refine ⟨0,?_,fun to=>?_⟩
  ·unfold g.cB
   repeat refine HS ?_
   rfl
  ·unfold M.put;rw [if_pos h0];rfl
 cases hc:(m.check (m.ax n).aA V).1 with
 | none=>
  have hk:=pq h hi hn hV hc
  have he:=wJ hc
  refine ⟨(m.check (m.ax n).aA V).2,?_,fun to=>?_⟩
  ·unfold g.cB
   repeat refine HS ?_
   rfl
  ·unfold M.put;rw [if_neg h0,if_pos he,if_neg he]
 | some o=>
  obtain ⟨i,q,q1,q2,q3,q4⟩:=po h hi hn hV hc
  have h2:(m.check (m.ax n).aA V).2=0:=(M.gf hc).1
  have hA:=Dv (l:=(m.ax n).aA) q.dY s (by omega)
  have ho:o.ref.1=q.dY:=by rw [q2];rfl
  cases ha:nL (m.ax n).aA q.dY s with
  | false=>
   rw [ha] at hA
   refine ⟨22,?_,fun to=>?_⟩
   ·unfold g.cB
    simp only [hb]
    rw [hC]
    repeat refine HS ?_
    rfl
   ·unfold M.put;rw [if_neg h0,if_neg (by rw [h2];simp),hc];simp only;rw [ho,ha];rfl
  | true=>
   rw [ha] at hA
   refine ⟨0,?_,fun to=>?_⟩
   ·unfold g.cB
    simp only [hb]
    rw [hC]
    repeat refine HS ?_
    rfl
   ·unfold M.put;rw [if_neg h0,if_neg (by rw [h2];simp),hc];simp only;rw [ho,ha];rfl
end
open Go.Bm Go.jJ
theorem l9 {α:Type} {d:α} {l:List α} {i:Nat} {f q:α→α}:aw d (aw d l i f) i q=aw d l i (fun r=>q (f r)):=by
 unfold aw aU nth
 rw [List.set_set]
 by_cases h:i<l.length
 ·rw [zA,List.getElem?_set,if_pos rfl,if_pos h];rfl
 ·rw [List.set_eq_of_length_le (by omega),List.set_eq_of_length_le (by omega)]
theorem mh {m:M} {n j:Int} (hn:0≤n∧n<m.th.length) (hj:0≤j) (t:yD):(m.gp n t).ax j=if j=n then t else m.ax j:=by
 unfold M.gp M.ax
 simp only
 rw [zA,zA,List.getElem?_set]
 by_cases e:j=n
 ·subst e;rw [if_pos rfl,if_pos (by omega),if_pos rfl];rfl
 ·rw [if_neg (by omega),if_neg e]
abbrev Bx:Type:=((Int×(Int×(Int×Int)))×((List (List (Int×(Int×Int))))×((Option Nat)×((Option Nat)×((List Int)×((List Int)×((List (List Int))×(List (List (Int×Bool))))))))))
def G5 (m:M) (b:YB):Bx:=(m.p,(m.f,(some b.y.s,(b.o,(b.G,(b.B,(b.R,b.C)))))))
theorem jN {l:List dW} {i j:Int} (hi:0≤i∧i<l.length) (hj:0≤j) (x:dW):ab (l.set i.toNat x) j=if j=i then x else ab l j:=by
 unfold ab nth nN
 rw [zA,zA,List.getElem?_set]
 by_cases e:j=i
 ·subst e;rw [if_pos rfl,if_pos (by omega),if_pos rfl];rfl
 ·rw [if_neg (by omega),if_neg e]
theorem FO {fr en:Int} {l:List dW} {fl:List Xt} (hs:SI fr en l fl) {i:Int} {f:nO→nO×Int} (hf:∀c,bf c=true→(f c).2=0→(f c).1.2.2.2=c.2.2.2) {s:Int} (h0:0≤s):(ab (cS l i f).1 s).1.2.2.2=(ab l s).1.2.2.2:=by
 unfold cS
 split
 ·rename_i h1
  rw [bX] at h1
  split
  ·rename_i h2
   dsimp only
   rw [jN (by omega) h0]
   split
   ·rename_i e
    subst e
    exact hf _ (hs.cr _ _ (iX (by omega) h1.2)) h2
   ·rfl
  ·rfl
 ·rfl
theorem KS (fr:Int) (c:nO) (h:bf c=true) (h0:(bS c fr).2=0):(bS c fr).1.2.2.2=c.2.2.2:=by rw [(kf h h0).1]
theorem JG (c:nO) (h:bf c=true) (h0:(bG c).2=0):(bG c).1.2.2.2=c.2.2.2:=by
 have h2:c.1=2:=by
  unfold bG at h0
  split at h0
  ·rename_i h1;exact absurd h0 h1
  ·rename_i h1;exact (K2 (by simpa using h1:jd c 2=0)).2
 rw [(lF h h2).2]
 split<;>rfl
section
variable {yd:Nat} {m:M} {b:YB} {d11:kZ} {d12:kD} {d13:jY} {d14:hZ} {d15:T4} {d16:gQ} {d17:kS} {d18:dT} {k:Nat}
theorem YR.nu (h:YR yd m b d11 d12 d13 d14 d15 d16 d17 d18) (f:Bx→Bx):nth bE (aw bE d11 yd f) yd=f (G5 m b):=by
 unfold aw
 rw [h.nx]
 exact bj (jZ h.bx)
theorem YR.bu (h:YR yd m b d11 d12 d13 d14 d15 d16 d17 d18) (f:Bx→Bx):(aw bE d11 yd f)[yd]?=some (f (G5 m b)):=by
 unfold aw
 rw [h.nx]
 exact jZ h.bx
theorem YR.Iw (h:YR yd m b d11 d12 d13 d14 d15 d16 d17 d18) {n:Int} (ht:(m.ax n).dc.length=4) (hn:0≤n∧n<m.th.length) {r:Int} (hr:0≤r∧r<4) (v:Int) {R':List (List Int)} {d:kZ} (hR:R'=cy [0,0,0,0] b.R (nN n) (cy 0 (nth [0,0,0,0] b.R (nN n)) (nN r) v)) (hd:d[yd]?=some (m.p,(m.f,(some b.y.s,(b.o,(b.G,(b.B,(R',b.C)))))))) :
  YR yd (m.fV n r v) { b with R:=R' } d d12 d13 d14 d15 d16 d17 d18:=by
 have e1:nth [0,0,0,0] b.R (nN n)=(m.ax n).dc:=h.rg n hn.1 hn.2
 refine ⟨hd,h.sc,⟨h.ob.rg,h.ob.ob⟩,h.ol,h.ow,h.sl,h.un,h.ga,h.us,fun j h0 h1=>?_,fun j h0 h1=>?_⟩
 ·have h2:j<m.th.length:=by have:(m.fV n r v).th.length=m.th.length:=zM;rw [this] at h1;exact h1
  show R'.getD j.toNat _=_
  unfold M.fV
  rw [mh hn h0,hR,e1,kg,pU ht (by omega)]
  by_cases e:j=n
  ·subst e;rw [if_pos rfl,if_pos (cM j).symm]
  ·rw [if_neg e,if_neg (by rw [cM];omega)];exact h.rg j h0 h2
 ·have h2:j<m.th.length:=by have:(m.fV n r v).th.length=m.th.length:=zM;rw [this] at h1;exact h1
  unfold M.fV
  rw [mh hn h0]
  by_cases e:j=n
  ·subst e;rw [if_pos rfl];exact h.cs j h0 h2
  ·rw [if_neg e];exact h.cs j h0 h2
theorem YR.Ml (h:YR yd m b d11 d12 d13 d14 d15 d16 d17 d18) {n:Int} (hn:0≤n∧n<m.th.length) {l:List cR} {C':List (List cR)} {d:kZ} (hC:C'=cy [] b.C (nN n) l) (hd:d[yd]?=some (m.p,(m.f,(some b.y.s,(b.o,(b.G,(b.B,(b.R,C')))))))) :
  YR yd (m.cD n l) { b with C:=C' } d d12 d13 d14 d15 d16 d17 d18:=by
 refine ⟨hd,h.sc,⟨h.ob.rg,h.ob.ob⟩,h.ol,h.ow,h.sl,h.un,h.ga,h.us,fun j h0 h1=>?_,fun j h0 h1=>?_⟩
 ·have h2:j<m.th.length:=by have:(m.cD n l).th.length=m.th.length:=zM;rw [this] at h1;exact h1
  unfold M.cD
  rw [mh hn h0]
  by_cases e:j=n
  ·subst e;rw [if_pos rfl];exact h.rg j h0 h2
  ·rw [if_neg e];exact h.rg j h0 h2
 ·have h2:j<m.th.length:=by have:(m.cD n l).th.length=m.th.length:=zM;rw [this] at h1;exact h1
  show C'.getD j.toNat _=_
  unfold M.cD
  rw [mh hn h0,hC,kg]
  by_cases e:j=n
  ·subst e;rw [if_pos rfl,if_pos (cM j).symm]
  ·rw [if_neg e,if_neg (by rw [cM];omega)];exact h.cs j h0 h2
theorem YR.EN (h:YR yd m b d11 d12 d13 d14 d15 d16 d17 d18) {sc:List dW} {fl:List Xt} {eM:hZ} {rG:T4} {rF:gQ} (hs:uS b.y m.fr m.en sc fl d12 d13 eM rG rF) (ho:OR { m with sc:=sc,fl:=fl } b.O) :
  YR yd { m with sc:=sc,fl:=fl } b d11 d12 d13 eM rG rF d17 d18:=
 ⟨h.bx,hs,ho,h.ol,h.ow,h.sl,h.un,h.ga,h.us,h.rg,h.cs⟩
theorem IK (h:YR yd m b d11 d12 d13 d14 d15 d16 d17 d18) (hi:MI k m) {n:Int} (hn:0≤n∧n<m.th.length) {r hh v a bb t:Int} :
  ∃b' ib eM,g.bH yd n (4,(r,(hh,(v,(a,(bb,t)))))) d12 d13 d15 d16 d17 d18 d11 d14=some ((((m.enter n a).2.1,((m.enter n a).2.2.1,(m.enter n a).2.2.2)),()),(ib,(eM,())))∧YR yd (m.enter n a).1 b' ib d12 d13 eM d15 d16 d17 d18:=by
 have hb:=h.nx
 have hC:=h.nC hn
 have yj:=hi.si.len
 have sI:=hi.ls
 have eh:=hi.lt
 have C2:=hi.u9
 have AK:=(hi.ax hn).2.2.len
 have SA:aH (aj 4 6)=true:=rfl
 have hP:=xU (l:=(m.ax n).aA) (a,true) (by omega)
 unfold M.enter
 by_cases h1:1≤a∧a≤m.p.1-1
 ·rw [if_neg (by rw [bF.2 h1];simp)]
  have hA:=tH (l:=(m.ax n).aA) (by omega)
  obtain ⟨eM,hE,Kr⟩:=IW h.sc (by omega) a (db (m.ax n).aA)
  by_cases h2:(push (m.ax n).aA (a,true)).2=0
  ·rw [if_neg (by simpa using h2)]
   rw [h2] at hP
   have hY:YR yd { m with sc:=(cS m.sc a (fun c=>bS c (db (m.ax n).aA))).1 } b d11 d12 d13 eM d15 d16 d17 d18:=
    h.EN (fl:=m.fl) Kr (h.ob.of rfl (fun _ _ _=>rfl) (fun s h0 _=>.inr (FO hi.si (KS _) h0)))
   by_cases h3:(cS m.sc a (fun c=>bS c (db (m.ax n).aA))).2=0
   ·rw [if_neg (by simpa using h3)]
    rw [h3] at hE
    refine ⟨_,aw bE d11 yd (fun hJ=>(hJ.1,(hJ.2.1,(hJ.2.2.1,(hJ.2.2.2.1,(hJ.2.2.2.2.1,(hJ.2.2.2.2.2.1,(hJ.2.2.2.2.2.2.1,(cy [] hJ.2.2.2.2.2.2.2 (nN n) (push (m.ax n).aA (a,true)).1))))))))),eM,?_,hY.Ml hn rfl (h.bu _)⟩
    unfold g.bH
    simp only [hb]
    rw [hC,SA]
    repeat refine HS ?_
    dsimp only
    repeat refine HS ?_
    rfl
   ·rw [if_pos h3]
    have hz:(cS m.sc a (fun c=>bS c (db (m.ax n).aA))).1=m.sc:=by
     unfold cS at h3 ⊢
     split
     ·rename_i c1
      rw [if_pos c1] at h3
      split
      ·rename_i c2;rw [if_pos c2] at h3;exact absurd rfl h3
      ·rfl
     ·rfl
    rw [hz] at hY
    refine ⟨b,d11,eM,?_,hY⟩
    unfold g.bH
    simp only [hb]
    rw [hC,SA]
    repeat refine HS ?_
    dsimp only
    repeat refine HS ?_
    rfl
  ·rw [if_pos h2]
   refine ⟨b,d11,d14,?_,h⟩
   unfold g.bH
   simp only [hb]
   rw [hC,SA]
   repeat refine HS ?_
   dsimp only
   repeat refine HS ?_
   rfl
 ·rw [if_pos (kz.2 h1)]
  refine ⟨b,d11,d14,?_,h⟩
  unfold g.bH
  simp only [hb]
  by_cases c1:a<0
  ·repeat refine HS ?_
   rfl
  by_cases c2:m.p.1≤a
  ·repeat refine HS ?_
   rfl
  have c3:a=0:=by omega
  repeat refine HS ?_
  rfl
theorem IJ (h:YR yd m b d11 d12 d13 d14 d15 d16 d17 d18) (hi:MI k m) {n:Int} (hn:0≤n∧n<m.th.length) {r hh v a bb t:Int} :
  ∃b' ib eM,g.bH yd n (6,(r,(hh,(v,(a,(bb,t)))))) d12 d13 d15 d16 d17 d18 d11 d14=some ((((m.lr n a).2.1,((m.lr n a).2.2.1,(m.lr n a).2.2.2)),()),(ib,(eM,())))∧YR yd (m.lr n a).1 b' ib d12 d13 eM d15 d16 d17 d18:=by
 have hb:=h.nx
 have hC:=h.nC hn
 have yj:=hi.si.len
 have sI:=hi.ls
 have eh:=hi.lt
 have C2:=hi.u9
 have AK:=(hi.ax hn).2.2.len
 have SA:aH (aj 6 6)=false:=rfl
 have hP:=xU (l:=(m.ax n).aA) (a,false) (by omega)
 have hR:=ml (l:=(m.ax n).aA) a (by omega)
 unfold M.lr
 by_cases h1:0≤a∧a≤m.p.1-1
 ·rw [if_neg (by rw [bF.2 h1];simp)]
  cases h4:reach (m.ax n).aA a with
  | false=>
   rw [h4] at hR
   rw [if_pos rfl]
   refine ⟨b,d11,d14,?_,h⟩
   unfold g.bH
   simp only [hb]
   rw [hC,SA]
   repeat refine HS ?_
   rfl
  | true=>
   rw [h4] at hR
   rw [if_neg (by simp)]
   by_cases h2:(push (m.ax n).aA (a,false)).2=0
   ·rw [if_neg (by simpa using h2)]
    rw [h2] at hP
    refine ⟨_,aw bE d11 yd (fun hJ=>(hJ.1,(hJ.2.1,(hJ.2.2.1,(hJ.2.2.2.1,(hJ.2.2.2.2.1,(hJ.2.2.2.2.2.1,(hJ.2.2.2.2.2.2.1,(cy [] hJ.2.2.2.2.2.2.2 (nN n) (push (m.ax n).aA (a,false)).1))))))))),d14,?_,h.Ml hn rfl (h.bu _)⟩
    unfold g.bH
    simp only [hb]
    rw [hC,SA]
    repeat refine HS ?_
    dsimp only
    repeat refine HS ?_
    rfl
   ·rw [if_pos h2]
    refine ⟨b,d11,d14,?_,h⟩
    unfold g.bH
    simp only [hb]
    rw [hC,SA]
    repeat refine HS ?_
    dsimp only
    repeat refine HS ?_
    rfl
 ·rw [if_pos (kz.2 h1)]
  refine ⟨b,d11,d14,?_,h⟩
  unfold g.bH
  simp only [hb]
  by_cases c1:a<0
  ·repeat refine HS ?_
   rfl
  have c2:m.p.1≤a:=by omega
  repeat refine HS ?_
  rfl
theorem Mq (h:YR yd m b d11 d12 d13 d14 d15 d16 d17 d18) (hi:MI k m) {n:Int} (hn:0≤n∧n<m.th.length) {r hh v a bb t:Int} (hv:0≤v∧v<4) (ha:1≤a∧a≤m.p.1-1) :
  ∃b' ib,g.cn yd n (11,(r,(hh,(v,(a,(bb,t)))))) d12 d13 d14 d15 d16 d17 d18 d11=some ((((m.gate n v a).2.1,((m.gate n v a).2.2.1,(m.gate n v a).2.2.2)),()),(ib,()))∧YR yd (m.gate n v a).1 b' ib d12 d13 d14 d15 d16 d17 d18:=by
 have hb:=h.nx
 have hC:=h.nC hn
 have yj:=hi.si.len
 have sI:=hi.ls
 have eh:=hi.lt
 have C2:=hi.u9
 have AK:=(hi.ax hn).2.2.len
 have hR:=ml (l:=(m.ax n).aA) a (by omega)
 have HX:=h.nR hn v
 unfold M.gate
 rw [if_neg (by rw [bF.2 ha];simp)]
 cases h4:reach (m.ax n).aA a with
 | false=>
  rw [h4] at hR
  rw [if_pos rfl]
  refine ⟨b,d11,?_,h⟩
  unfold g.cn
  simp only [hb]
  rw [hC]
  repeat refine HS ?_
  rfl
 | true=>
  rw [h4] at hR
  rw [if_neg (by simp)]
  obtain ⟨e,hV,xq⟩:=A_ h hi hn (hi.c_ hn v) a
  rw [xq]
  by_cases he:e=0
  ·rw [if_pos he]
   rw [he] at hV
   refine ⟨{ b with G:=cy 0 b.G (nN a) (m.c_ n v) },aw bE d11 yd (fun lW=>(lW.1,(lW.2.1,(lW.2.2.1,(lW.2.2.2.1,((cy 0 lW.2.2.2.2.1 (nN a) (nth 0 (nth [0,0,0,0] lW.2.2.2.2.2.2.1 (nN n)) (nN v))),lW.2.2.2.2.2)))))),?_,?_⟩
   ·unfold g.cn
    simp only [hb]
    rw [hC,HX]
    repeat refine HS ?_
    rfl
   ·have e1:nth 0 (nth [0,0,0,0] b.R (nN n)) (nN v)=m.c_ n v:=HX
    refine ⟨?_,h.sc,?_,h.ol,h.ow,h.sl,h.un,fun s h0 h1=>?_,fun s h0 h1=>?_,h.rg,h.cs⟩
    ·rw [h.bu]
     show some (m.p,(m.f,(some b.y.s,(b.o,(cy 0 b.G (nN a) (nth 0 (nth [0,0,0,0] b.R (nN n)) (nN v)),(b.B,(b.R,b.C)))))))=_
     rw [e1]
     rfl
    ·refine h.ob.of rfl (fun s h0 h1=>?_) (fun s h0 h1=>.inr rfl)
     show ((m.cK a _).bm s).aX=_
     rw [Go.jJ.gI hi (by omega) h0]
     split
     ·rename_i e2;rw [e2]
     ·rfl
    ·show (cy 0 b.G (nN a) (m.c_ n v)).getD s.toNat 0=((m.cK a _).bm s).gate
     rw [kg,Go.jJ.gI hi (by omega) h0]
     by_cases e2:s=a
     ·subst e2;rw [if_pos rfl,if_pos (cM s).symm]
     ·rw [if_neg (by rw [cM];omega),if_neg e2];exact h.ga s h0 h1
    ·show b.B.getD s.toNat 0=((m.cK a _).bm s).used
     rw [Go.jJ.gI hi (by omega) h0]
     by_cases e2:s=a
     ·subst e2;rw [if_pos rfl];exact h.us s h0 h1
     ·rw [if_neg e2];exact h.us s h0 h1
  ·rw [if_neg he]
   refine ⟨b,d11,?_,h⟩
   unfold g.cn
   simp only [hb]
   rw [hC,HX]
   repeat refine HS ?_
   rfl
theorem Gq (h:YR yd m b d11 d12 d13 d14 d15 d16 d17 d18) (hi:MI k m) {n:Int} (hn:0≤n∧n<m.th.length) {r hh v a bb t:Int} (hr:0≤r∧r<4) (ha:1≤a∧a≤m.p.1-1) :
  ∃b' ib,g.cn yd n (10,(r,(hh,(v,(a,(bb,t)))))) d12 d13 d14 d15 d16 d17 d18 d11=some ((((m.gm n r a).2.1,((m.gm n r a).2.2.1,(m.gm n r a).2.2.2)),()),(ib,()))∧YR yd (m.gm n r a).1 b' ib d12 d13 d14 d15 d16 d17 d18:=by
 have hb:=h.nx
 have hC:=h.nC hn
 have yj:=hi.si.len
 have sI:=hi.ls
 have eh:=hi.lt
 have C2:=hi.u9
 have AK:=(hi.ax hn).2.2.len
 have hR:=ml (l:=(m.ax n).aA) a (by omega)
 have Ur:nth 0 b.G (nN a)=(m.bm a).gate:=h.ga a (by omega) (by omega)
 unfold M.gm
 rw [if_neg (by rw [bF.2 ha];simp)]
 cases h4:reach (m.ax n).aA a with
 | false=>
  rw [h4] at hR
  rw [if_pos rfl]
  refine ⟨b,d11,?_,h⟩
  unfold g.cn
  simp only [hb]
  rw [hC]
  repeat refine HS ?_
  rfl
 | true=>
  rw [h4] at hR
  rw [if_neg (by simp)]
  unfold M.QQ
  refine ⟨_,aw bE d11 yd (fun kr=>(kr.1,(kr.2.1,(kr.2.2.1,(kr.2.2.2.1,(kr.2.2.2.2.1,(kr.2.2.2.2.2.1,((cy [0,0,0,0] kr.2.2.2.2.2.2.1 (nN n) (cy 0 (nth [0,0,0,0] kr.2.2.2.2.2.2.1 (nN n)) (nN r) (nth 0 kr.2.2.2.2.1 (nN a)))),kr.2.2.2.2.2.2.2)))))))),?_,h.Iw (hi.ax hn).1 hn hr (m.bm a).gate (R':=cy [0,0,0,0] b.R (nN n) (cy 0 (nth [0,0,0,0] b.R (nN n)) (nN r) (m.bm a).gate)) rfl ?_⟩
  ·unfold g.cn
   simp only [hb,h.nu]
   rw [hC]
   repeat refine HS ?_
   show some (((0,(kU .i64 (nth 0 b.G (nN a)),[])),()),_)=_
   rw [Ur]
  ·rw [h.bu]
   show some (m.p,(m.f,(some b.y.s,(b.o,(b.G,(b.B,(cy [0,0,0,0] b.R (nN n) (cy 0 (nth [0,0,0,0] b.R (nN n)) (nN r) (nth 0 b.G (nN a))),b.C)))))))=_
   rw [Ur]
end
open Go.Bm Go.jJ
section
variable {yd:Nat} {m:M} {b:YB} {d11:kZ} {d12:kD} {d13:jY} {d14:hZ} {d15:T4} {d16:gQ} {d17:kS} {d18:dT} {k:Nat}
theorem YR.setObj (h:YR yd m b d11 d12 d13 d14 d15 d16 d17 d18) (hi:MI k m) {i:Nat} {q:RO} (hq:b.O[i]?=some q) (w:List Int) {g:jK→jK} (hg:g (q.qL (jL m q.dY))=({ q with aS:=w }:RO).qL (jL m q.dY)) :
  YR yd (m.setObj (q.dY,jL m q.dY,q.pl) g) { b with O:=b.O.set i { q with aS:=w } } d11 d12 d13 d14 d15 d16 d17 (aU d18 q.nm (some w)):=by
 have Sk:=h.sl q (zG hq)
 have m6:(b.O.set i { q with aS:=w }).map ro=b.O.map ro:=by
  rw [List.map_set]
  exact kb (by rw [zL,hq];rfl)
 have w9:∀s:Int,((m.setObj (q.dY,jL m q.dY,q.pl) g).bm s).gate=(m.bm s).gate∧((m.setObj (q.dY,jL m q.dY,q.pl) g).bm s).used=(m.bm s).used:=fun s=>by
  unfold M.setObj M.bm
  simp only
  rw [zA,zA,zL]
  cases m.ar[s.toNat]? with
  | none=>exact ⟨rfl,rfl⟩
  | some a=>exact ⟨rfl,rfl⟩
 have Ul:∀(j:Nat) (p:RO),b.O[j]?=some p→j≠i→p.nm≠q.nm:=fun j p hj jB e=>by
  obtain ⟨j1,j2⟩:=zB.1 hj
  obtain ⟨i1,i2⟩:=zB.1 hq
  have hu:=List.pairwise_iff_getElem.1 h.un
  rcases Nat.lt_or_gt_of_ne jB with h1 | h1
  ·exact hu j i j1 i1 h1 (by rw [j2,i2];exact e)
  ·exact hu i j i1 j1 h1 (by rw [j2,i2];exact e.symm)
 refine ⟨h.bx,h.sc,h.ob.setObj hi hq (o':={ q with aS:=w }) rfl rfl hg,by rw [zM];exact h.ol,?_,?_,?_,fun s h0 h1=>?_,fun s h0 h1=>?_,h.rg,h.cs⟩
 ·rcases h.ow with ⟨w1,w2⟩ | ⟨j,w1,w2⟩
  ·exact .inl ⟨w1,by show b.O.set i _=[];rw [w2];rfl⟩
  ·exact .inr ⟨j,w1,by rw [w2];show _=some ((b.O.set i _).map ro);rw [m6]⟩
 ·intro p hp
  obtain ⟨j,hj⟩:=List.getElem?_of_mem hp
  have hj:(b.O.set i { q with aS:=w })[j]?=some p:=hj
  rcases getSet hj with ⟨e1,e2⟩ | ⟨e1,e2⟩
  ·rw [e2];exact aC Sk
  ·rw [uW (j5 Sk),if_neg (fun e=>Ul j p e2 e1 e.symm)]
   exact h.sl p (zG e2)
 ·have:((b.O.set i { q with aS:=w }).map RO.nm).Pairwise (·≠·):=by
   have e:(b.O.set i { q with aS:=w }).map RO.nm=b.O.map RO.nm:=by
    rw [List.map_set]
    exact kb (by rw [zL,hq];rfl)
   rw [e,List.pairwise_map];exact h.un
  rw [List.pairwise_map] at this
  exact this
 ·rw [(w9 s).1];exact h.ga s h0 h1
 ·rw [(w9 s).2];exact h.us s h0 h1
theorem wU {q:RO} {i:Nat} {O:List RO} (hq:O[i]?=some q):nth (0,(0,(0,(none,false)))) (O.map ro) (nN (i:Int))=ro q:=bj (by rw [cQ,zL,hq];rfl)
theorem Mp (h:YR yd m b d11 d12 d13 d14 d15 d16 d17 d18) (hi:MI k m) {n:Int} (hn:0≤n∧n<m.th.length) {r hh v a bb t:Int} (hr:0≤r∧r<4) (Zw:0≤hh∧hh<4) :
  ∃b' ib mL,g.bQ yd n (8,(r,(hh,(v,(a,(bb,t)))))) d12 d13 d14 d15 d16 d17 d11 d18=some ((((m.load n r hh bb).2.1,((m.load n r hh bb).2.2.1,(m.load n r hh bb).2.2.2)),()),(ib,(mL,())))∧YR yd (m.load n r hh bb).1 b' ib d12 d13 d14 d15 d16 d17 mL:=by
 have hb:=h.nx
 have HX:=h.nR hn hh
 have eh:=hi.lt
 have C2:=hi.u9
 unfold M.load
 cases hc:(m.check (m.ax n).aA (m.c_ n hh)).1 with
 | none=>
  have hk:=pq h hi hn (hi.c_ hn hh) hc
  have he:=wJ hc
  rw [if_pos he]
  refine ⟨b,d11,d18,?_,h⟩
  unfold g.bQ
  simp only [hb]
  rw [HX]
  repeat refine HS ?_
  rfl
 | some o=>
  obtain ⟨i,q,q1,q2,q3,hk⟩:=po h hi hn (hi.c_ hn hh) hc
  rw [if_neg (by rw [(M.gf hc).1];simp)]
  simp only
  have BY:o.aS=q.aS:=by rw [q2];rfl
  rw [BY]
  have Sk:=h.sl q (zG q1)
  obtain ⟨j,w1,w2⟩:∃j,b.o=some j∧aD d17 j=some (b.O.map ro):=by
   rcases h.ow with ⟨_,w2⟩ | w
   ·rw [w2] at q1;simp at q1
   ·exact w
  have qO:=wU q1
  have LW:i<b.O.length:=(zB.1 q1).1
  have wh:(b.O.map ro).length=b.O.length:=zH ..
  have Hh:(nth (0,(0,(0,(none,false)))) (b.O.map ro) (nN (i:Int))).2.2.2.1=some q.nm:=by rw [qO];rfl
  have FA:q.aS.length≤6:=by
   have hf:=(MI.found hi hc)
   have:=(hi.tq q3).2.ob o (by rw [←h.ob.ob _ q3.1 q3.2];exact List.mem_map.2 ⟨q,List.mem_filter.2 ⟨zG q1,eH.2 rfl⟩,q2.symm⟩)
   rw [←BY];exact this.2.2.2.2.2.2.1
  by_cases c1:0≤bb∧bb≤(q.aS.length:Int)-1
  ·rw [if_neg (by rw [bF.2 c1];simp)]
   have hv:nth 0 q.aS (nN bb)=q.aS.getD bb.toNat 0:=rfl
   unfold M.QQ
   refine ⟨_,aw bE d11 yd (fun qz=>(qz.1,(qz.2.1,(qz.2.2.1,(qz.2.2.2.1,(qz.2.2.2.2.1,(qz.2.2.2.2.2.1,((cy [0,0,0,0] qz.2.2.2.2.2.2.1 (nN n) (cy 0 (nth [0,0,0,0] qz.2.2.2.2.2.2.1 (nN n)) (nN r) (nth 0 q.aS (nN bb)))),qz.2.2.2.2.2.2.2)))))))),d18,?_,h.Iw (hi.ax hn).1 hn hr (q.aS.getD bb.toNat 0) (R':=cy [0,0,0,0] b.R (nN n) (cy 0 (nth [0,0,0,0] b.R (nN n)) (nN r) (q.aS.getD bb.toNat 0))) rfl ?_⟩
   ·have hRR:nth [0,0,0,0] (cy [0,0,0,0] b.R (nN n) (cy 0 (nth [0,0,0,0] b.R (nN n)) (nN r) (nth 0 q.aS (nN bb)))) (nN n)=cy 0 (nth [0,0,0,0] b.R (nN n)) (nN r) (nth 0 q.aS (nN bb)):=by
     show (cy _ _ _ _).getD _ _=_
     rw [kg,if_pos rfl]
    have NG:nth 0 (cy 0 (nth [0,0,0,0] b.R (nN n)) (nN r) (nth 0 q.aS (nN bb))) (nN r)=q.aS.getD bb.toNat 0:=by
     show (cy _ _ _ _).getD _ _=_
     rw [kg,if_pos rfl];rfl
    unfold g.bQ
    simp only [hb,h.nu,G5,w1]
    rw [HX]
    repeat refine HS ?_
    rw [hRR,NG]
   ·rw [h.bu]
    rfl
  ·rw [if_pos (kz.2 c1)]
   refine ⟨b,d11,d18,?_,h⟩
   unfold g.bQ
   simp only [hb,w1]
   rw [HX]
   by_cases c2:bb<0
   ·repeat refine HS ?_
    rfl
   ·have c3:(q.aS.length:Int)≤bb:=by omega
    repeat refine HS ?_
    rfl
theorem IF (h:YR yd m b d11 d12 d13 d14 d15 d16 d17 d18) (hi:MI k m) {n:Int} (hn:0≤n∧n<m.th.length) {r hh v a bb t:Int} (Uh:0≤v∧v<4) (Zw:0≤hh∧hh<4) :
  ∃b' ib mL,g.bQ yd n (9,(r,(hh,(v,(a,(bb,t)))))) d12 d13 d14 d15 d16 d17 d11 d18=some ((((m.store n hh v bb).2.1,((m.store n hh v bb).2.2.1,(m.store n hh v bb).2.2.2)),()),(ib,(mL,())))∧YR yd (m.store n hh v bb).1 b' ib d12 d13 d14 d15 d16 d17 mL:=by
 have hb:=h.nx
 have HX:=h.nR hn hh
 have hrv:=h.nR hn v
 have eh:=hi.lt
 have C2:=hi.u9
 unfold M.store
 cases hc:(m.check (m.ax n).aA (m.c_ n hh)).1 with
 | none=>
  have hk:=pq h hi hn (hi.c_ hn hh) hc
  have he:=wJ hc
  rw [if_pos he]
  refine ⟨b,d11,d18,?_,h⟩
  unfold g.bQ
  simp only [hb]
  rw [HX]
  repeat refine HS ?_
  rfl
 | some o=>
  obtain ⟨i,q,q1,q2,q3,hk⟩:=po h hi hn (hi.c_ hn hh) hc
  rw [if_neg (by rw [(M.gf hc).1];simp)]
  simp only
  have BY:o.aS=q.aS:=by rw [q2];rfl
  have hor:o.ref=(q.dY,jL m q.dY,q.pl):=by rw [q2];rfl
  rw [BY]
  have Sk:=h.sl q (zG q1)
  obtain ⟨j,w1,w2⟩:∃j,b.o=some j∧aD d17 j=some (b.O.map ro):=by
   rcases h.ow with ⟨_,w2⟩ | w
   ·rw [w2] at q1;simp at q1
   ·exact w
  have qO:=wU q1
  have LW:i<b.O.length:=(zB.1 q1).1
  have wh:(b.O.map ro).length=b.O.length:=zH ..
  have Hh:(nth (0,(0,(0,(none,false)))) (b.O.map ro) (nN (i:Int))).2.2.2.1=some q.nm:=by rw [qO];rfl
  have FA:q.aS.length≤6:=by
   have:=(hi.tq q3).2.ob o (by rw [←h.ob.ob _ q3.1 q3.2];exact List.mem_map.2 ⟨q,List.mem_filter.2 ⟨zG q1,eH.2 rfl⟩,q2.symm⟩)
   rw [←BY];exact this.2.2.2.2.2.2.1
  by_cases c1:0≤bb∧bb≤(q.aS.length:Int)-1
  ·rw [if_neg (by rw [bF.2 c1];simp)]
   obtain ⟨e,hV,xq⟩:=A_ h hi hn (hi.c_ hn v) q.dY
   rw [hor,xq]
   by_cases he:e=0
   ·rw [if_pos he]
    rw [he] at hV
    have hY:=h.setObj hi q1 (q.aS.set bb.toNat (m.c_ n v)) (g:=fun o=>{ o with aS:=o.aS.set bb.toNat (m.c_ n v) }) rfl
    refine ⟨_,d11,aU d18 q.nm (some (q.aS.set bb.toNat (m.c_ n v))),?_,hY⟩
    unfold g.bQ
    simp only [hb,w1]
    rw [HX,hrv]
    repeat refine HS ?_
    rfl
   ·rw [if_neg he]
    refine ⟨b,d11,d18,?_,h⟩
    unfold g.bQ
    simp only [hb,w1]
    rw [HX,hrv]
    repeat refine HS ?_
    rfl
  ·rw [if_pos (kz.2 c1)]
   refine ⟨b,d11,d18,?_,h⟩
   unfold g.bQ
   simp only [hb,w1]
   rw [HX]
   by_cases c2:bb<0
   ·repeat refine HS ?_
    rfl
   ·have c3:(q.aS.length:Int)≤bb:=by omega
    repeat refine HS ?_
    rfl
theorem YR.YD (h:YR yd m b d11 d12 d13 d14 d15 d16 d17 d18) (hi:MI k m) {s:Int} (hs:0≤s∧s<m.p.1) {a:mG} {q:RO} (hq:q.dY=s) (Hh:q.nm=d18.length) (ha:a.aX=(m.bm s).aX++[q.qL (jL m s)]) (hg:a.gate=(m.bm s).gate) (hl:b.O.length<9000)
  {d:kZ} {o':Option Nat} {j:Nat} {oC:kS} {B':List Int} (ho:o'=some j) (hj:aD oC j=some (b.O.map ro++[ro q])) (hB:B'=cy 0 b.B (nN s) a.used) (hd:d[yd]?=some (m.p,(m.f,(some b.y.s,(o',(b.G,(B',(b.R,b.C)))))))) :
  YR yd (m.cK s a) { b with o:=o',O:=b.O++[q],B:=B' } d d12 d13 d14 d15 d16 oC (cat d18 [some q.aS]):=by
 refine ⟨hd,h.sc,h.ob.alloc hi hs hq ha,by simp;omega,.inr ⟨j,ho,by rw [hj,List.map_append];rfl⟩,fun p hp=>?_,?_,fun t h0 h1=>?_,fun t h0 h1=>?_,h.rg,h.cs⟩
 ·rcases zX.1 hp with hp | hp
  ·have:=h.sl p hp
   rw [mO,if_neg (by have:=j5 this;omega)];exact this
  ·rcases zF.1 hp with rfl
   rw [Hh];exact dw
 ·show (b.O++[q]).Pairwise _
  rw [List.pairwise_append]
  refine ⟨h.un,List.pairwise_singleton _ _,fun p hp p' yg=>?_⟩
  rcases zF.1 yg with rfl
  have:=j5 (h.sl p hp)
  omega
 ·rw [Go.jJ.gI hi hs h0]
  by_cases e:t=s
  ·subst e;rw [if_pos rfl,hg];exact h.ga t h0 h1
  ·rw [if_neg e];exact h.ga t h0 h1
 ·show B'.getD t.toNat 0=_
  rw [hB,kg,Go.jJ.gI hi hs h0]
  by_cases e:t=s
  ·subst e;rw [if_pos rfl,if_pos (cM t).symm]
  ·rw [if_neg e,if_neg (by rw [cM];omega)];exact h.us t h0 h1
theorem IV (h:YR yd m b d11 d12 d13 d14 d15 d16 d17 d18) (hi:MI k m) (yk:CT m) (yh:b.O.length<9000) {n:Int} (hn:0≤n∧n<m.th.length) {r hh v a bb t:Int} (hr:0≤r∧r<4) :
  ∃b' ib oC mL,g.cg yd n (7,(r,(hh,(v,(a,(bb,t)))))) d12 d13 d14 d15 d16 d11 d17 d18=some ((((m.alloc n r a bb t).2.1,((m.alloc n r a bb t).2.2.1,(m.alloc n r a bb t).2.2.2)),()),(ib,(oC,(mL,()))))∧YR yd (m.alloc n r a bb t).1 b' ib d12 d13 d14 d15 d16 oC mL:=by
 have hb:=h.nx
 have rp:=h.ER
 have hC:=h.nC hn
 have qP:=h.sc.cr
 have hxr:=h.sc.xr
 have yj:=hi.si.len
 have sI:=hi.ls
 have eh:=hi.lt
 have C2:=hi.u9
 have ht:=hi.ax hn
 have AK:=ht.2.2.len
 have hm1:(m.sc.map (·.1)).length=m.sc.length:=zH ..
 have C3:(m.sc.map (·.2)).length=m.sc.length:=zH ..
 have hW:=xh (a:=a) (b:=bb)
 have hA:=tH (l:=(m.ax n).aA) (by omega)
 unfold M.alloc
 by_cases c0:(bo a bb).2=0
 rotate_left
 ·rw [if_pos (.inl c0)]
  refine ⟨b,d11,d17,d18,?_,h⟩
  unfold g.cg
  repeat refine HS ?_
  rfl
 by_cases c1:t<0
 ·rw [if_pos (.inr (kz.2 (by omega)))]
  refine ⟨b,d11,d17,d18,?_,h⟩
  unfold g.cg
  repeat refine HS ?_
  rfl
 by_cases c2:8≤t
 ·rw [if_pos (.inr (kz.2 (by omega)))]
  refine ⟨b,d11,d17,d18,?_,h⟩
  unfold g.cg
  repeat refine HS ?_
  rfl
 rw [if_neg (by rw [kz];omega)]
 have hw:=ou c0
 have iH:=hi.live yk (M.ko hn) (qx ht.2.2)
 have qO:0≤db (m.ax n).aA∧db (m.ax n).aA<m.p.1:=⟨iH.2.2.1,iH.2.2.2⟩
 have hex:ph m.sc (db (m.ax n).aA)=((ab m.sc (db (m.ax n).aA)).2,0):=by
  unfold ph;rw [if_pos (bX.2 ⟨qO.1,by rw [hi.ls];exact qO.2⟩)]
 have tU:kq m.sc (db (m.ax n).aA)=((ab m.sc (db (m.ax n).aA)).1,0):=by
  unfold kq;rw [if_pos (bX.2 ⟨qO.1,by rw [hi.ls];exact qO.2⟩)]
 have Uw:=(hi.tq qO).2
 have zu:=Uw.us
 have qB:=hi.size iH.1 (by omega)
 have anp:=fH (hi.si.cr _ _ iH.1) iH.2.1
 have Zo:nth 0 b.B (nN (db (m.ax n).aA))=(m.bm (db (m.ax n).aA)).used:=h.us _ qO.1 qO.2
 have hnX:=E9 (l:=m.sc) (i:=db (m.ax n).aA) (by omega)
 have hnE:(nth (0,(0,(0,0))) (m.sc.map (·.1)) (nN (db (m.ax n).aA))).2.2.2=(ab m.sc (db (m.ax n).aA)).1.2.2.2:=by rw [mQ (by omega)]
 unfold M.ra
 rw [hex,tU]
 simp only
 generalize hs:db (m.ax n).aA=s at *
 generalize hX:ab m.sc s=X at *
 have e8:fY .i64 8 (bo a bb).1=(bo a bb).1*8:=by rw [a5 (by omega),Int.mul_comm]
 have eB:af .i64 (m.bm s).used ((bo a bb).1*8)=(m.bm s).used+(bo a bb).1*8:=aG (by omega)
 by_cases c3:X.2.2<(m.bm s).used+(bo a bb).1*8
 ·rw [if_pos c3]
  have c3':(nth (0,0) (m.sc.map (·.2)) (nN s)).2<(m.bm s).used+(bo a bb).1*8:=by rw [hnX];exact c3
  refine ⟨b,d11,d17,d18,?_,h⟩
  unfold g.cg
  simp only [hb]
  rw [hC]
  repeat refine HS ?_
  dsimp only
  rw [Zo,e8,eB]
  simp only [rp]
  repeat refine HS ?_
  rfl
 rw [if_neg c3]
 have c3':¬(nth (0,0) (m.sc.map (·.2)) (nN s)).2<(m.bm s).used+(bo a bb).1*8:=by rw [hnX];exact c3
 have eA:af .i64 X.2.1 (m.bm s).used=X.2.1+(m.bm s).used:=aG (by omega)
 have hnr:eg (s,X.1.2.2.2,X.2.1+(m.bm s).used)=true:=by
  rw [cp];simp only;omega
 have hPk:=n4 (r:=(s,X.1.2.2.2,X.2.1+(m.bm s).used)) (by simp only;omega)
 have hq0:jL m s=X.1.2.2.2:=by unfold jL;rw [hX]
 have hY:∀(j:Nat) (o':Option Nat) (d:kZ) (oC:kS),o'=some j→aD oC j=some (b.O.map ro++[ro ⟨s,X.2.1+(m.bm s).used,t,d18.length,List.replicate a.toNat 0,false⟩]) →
   d[yd]?=some (m.p,(m.f,(some b.y.s,(o',(b.G,(cy 0 b.B (nN s) ((m.bm s).used+(bo a bb).1*8),(b.R,b.C))))))) →
   YR yd (m.cK s ⟨(m.bm s).used+(bo a bb).1*8,(m.bm s).gate,(m.bm s).aX++[⟨(s,X.1.2.2.2,X.2.1+(m.bm s).used),t,List.replicate a.toNat 0,false⟩]⟩)
    { b with o:=o',O:=b.O++[⟨s,X.2.1+(m.bm s).used,t,d18.length,List.replicate a.toNat 0,false⟩],B:=cy 0 b.B (nN s) ((m.bm s).used+(bo a bb).1*8) } d d12 d13 d14 d15 d16 oC (cat d18 [some (List.replicate a.toNat 0)]):=fun j o' d oC h1 h2 h3=>
  h.YD hi qO (a:=(⟨(m.bm s).used+(bo a bb).1*8,(m.bm s).gate,(m.bm s).aX++[⟨(s,X.1.2.2.2,X.2.1+(m.bm s).used),t,List.replicate a.toNat 0,false⟩]⟩:mG)) (q:=(⟨s,X.2.1+(m.bm s).used,t,d18.length,List.replicate a.toNat 0,false⟩:RO)) rfl rfl (by rw [hq0];rfl) rfl yh h1 h2 rfl h3
 have Sr:a.toNat≤6:=by omega
 unfold M.QQ
 rcases h.ow with ⟨w1,w2⟩ | ⟨j,w1,w2⟩
 ·refine ⟨?b1,?d1,?e171,?e181,?eq1,?rel1⟩
  case eq1=>
   unfold g.cg
   simp only [hb,l9,h.nu,G5,w1]
   rw [hC]
   repeat refine HS ?_
   dsimp only
   rw [Zo,e8,eB]
   simp only [rp]
   repeat refine HS ?_
   simp only [rp]
   repeat refine HS ?_
   try simp only [rp]
   repeat refine HS ?_
   rw [hnX,hnE,eA]
   repeat refine HS ?_
   rfl
  case rel1=>
   have hy:=hY d17.length (some (len d17)) (aw bE d11 yd (fun r=>(r.1,(r.2.1,(r.2.2.1,(some (len d17),(r.2.2.2.2.1,((cy 0 r.2.2.2.2.2.1 (nN s) ((m.bm s).used+(bo a bb).1*8)),r.2.2.2.2.2.2)))))))) (cat d17 [some [(s,(X.2.1+(m.bm s).used,(t,(some d18.length,false))))]]) rfl (by rw [w2];exact dw) (by rw [h.bu];rfl)
   refine hy.Iw ht.1 hn hr _ rfl ?_
   rw [h.bu]
   show some (m.p,(m.f,(some b.y.s,(_,(b.G,(cy 0 b.B (nN s) (af .i64 (nth 0 b.B (nN s)) ((bo a bb).1*8)),(_,b.C)))))))=_
   rw [Zo,eB]
   rfl
 ·have LW:=h.ol
  have wh:(b.O.map ro).length=b.O.length:=zH ..
  have hjl:=j5 w2
  refine ⟨?b2,?d2,?e172,?e182,?eq2,?rel2⟩
  case eq2=>
   unfold g.cg
   simp only [hb,l9,h.nu,G5,w1]
   rw [hC]
   repeat refine HS ?_
   dsimp only
   rw [Zo,e8,eB]
   simp only [rp]
   repeat refine HS ?_
   simp only [rp]
   repeat refine HS ?_
   try simp only [rp]
   repeat refine HS ?_
   rw [hnX,hnE,eA]
   repeat refine HS ?_
   rfl
  case rel2=>
   have hy:=hY (aU d17 j none).length (some (len (aU d17 j none))) (aw bE d11 yd (fun r=>(r.1,(r.2.1,(r.2.2.1,(some (len (aU d17 j none)),(r.2.2.2.2.1,((cy 0 r.2.2.2.2.2.1 (nN s) ((m.bm s).used+(bo a bb).1*8)),r.2.2.2.2.2.2)))))))) (cat (aU d17 j none) [some (cat (b.O.map ro) [(s,(X.2.1+(m.bm s).used,(t,(some d18.length,false))))])]) rfl dw (by rw [h.bu];rfl)
   refine hy.Iw ht.1 hn hr _ rfl ?_
   rw [h.bu]
   show some (m.p,(m.f,(some b.y.s,(_,(b.G,(cy 0 b.B (nN s) (af .i64 (nth 0 b.B (nN s)) ((bo a bb).1*8)),(_,b.C)))))))=_
   rw [Zo,eB]
   rfl
end
open Go.Bm Go.jJ
abbrev RuS:Type:=((Bool×(Int×(Int×Unit)))×(((List Int)×((List Int)×Unit))×(Unit×(Unit×Unit))))
def YF (hd:Bool) (a n:Int) (sl sd:List Int):RuS:=((hd,(a,(n,()))),((sl,(sd,())),((),((),()))))
set_option maxHeartbeats 2000000 in
theorem Dw {ops:List h_} (kV:xY ops) (d0:dT):∀(m a:Nat) (sl sd:List Int) (hd:Bool) (n:Int),ops.length≤a+m→sl.length≤100→sd.length+m≤100→(0≤n∧n+m≤1000)→(a≤100) →
  xF (g.fc ops d0) (YF hd (a:Int) n sl sd)
   (some (((some (len d0)),((ke ops m a sl sd hd n).2.1,((ke ops m a sl sd hd n).2.2.1,((ke ops m a sl sd hd n).2.2.2,())))),((cat d0 [(some (ke ops m a sl sd hd n).1)]),()))) m:=by
 obtain ⟨hlen,tj⟩:=kV
 intro m
 induction m with
 | zero=>
  intro a sl sd hd n h1 h2 h3 h4 h5
  refine .stop 0 (fun K=>?_)
  unfold g.fc YF
  dsimp only
  repeat refine HS ?_
  rfl
 | succ m ih=>
  intro a sl sd hd n h1 h2 h3 h4 h5
  by_cases ha:a<ops.length
  ·have ho:BF (ops.getD a (0,0,0)):=by
    rw [zA,zD ha]
    exact tj _ (List.getElem_mem ha)
   rw [oB ha]
   generalize hoo:ops.getD a (0,0,0)=o at ho
   have Hj:nth (0,(0,0)) ops (nN (a:Int))=o:=hoo
   have No:=pM o sl
   have hs2:=oA o sl
   refine .step (s':=YF (hd || (cq o sl).2.2.2) (((a+1+(cq o sl).1:Nat):Int)) (n+1) (cq o sl).2.1 (sd++(cq o sl).2.2.1)) ?_ (fun K=>?_)
   ·have hs3:=sS ho sl
    exact ih _ _ _ _ _ (by omega) (by omega) (by rw [zY];omega) (by omega) (by omega)
   ·obtain ⟨k1,k2,k3⟩:=ho
    have ZE:o.1=0∨o.1=1∨o.1=2∨o.1=3∨o.1=4:=by omega
    have en:af .i64 n 1=n+1:=aG (by omega)
    have ecs:cat [] sl=sl:=rfl
    have hd1:∀b:Bool,(hd || b)=if hd=true then true else b:=fun b=>by cases hd<;>rfl
    unfold g.fc
    unfold YF
    dsimp only
    rw [Hj,uz (by omega),en]
    rcases ZE with h | h | h | h | h
    ·have e:cq o sl=(0,sl,[o.2.1],false):=by unfold cq;rw [if_pos h]
     rw [e]
     by_cases hA:o.2.1<sl.length<;>by_cases hB:o.2.2<sl.length
     all_goals
      cases hd
      ·repeat refine HS ?_
       rfl
      ·repeat refine HS ?_
       rfl
    ·have e:cq o sl=(0,sl.set o.2.1.toNat 0,[],false):=by unfold cq;rw [if_neg (by omega),if_pos h]
     rw [e]
     have h4:aj o.1 4=false:=decide_eq_false (by omega)
     by_cases hA:o.2.1<sl.length
     ·by_cases hB:o.2.2<sl.length
      all_goals
       cases hd
       ·repeat refine HS ?_
        first | rfl | (dsimp only;rw [h4];rfl)
       ·repeat refine HS ?_
        first | rfl | (dsimp only;rw [h4];rfl)
     ·rw [List.set_eq_of_length_le (by omega)]
      by_cases hB:o.2.2<sl.length
      all_goals
       cases hd
       ·repeat refine HS ?_
        first | rfl | (dsimp only;rw [h4];rfl)
       ·repeat refine HS ?_
        first | rfl | (dsimp only;rw [h4];rfl)
    ·have e:cq o sl=(0,if o.2.1.toNat<sl.length∧o.2.2.toNat<sl.length then sl.set o.2.1.toNat (sl.getD o.2.2.toNat 0) else sl,[],false):=by unfold cq;rw [if_neg (by omega),if_neg (by omega),if_pos h]
     rw [e]
     have h4:aj o.1 4=false:=decide_eq_false (by omega)
     by_cases hA:o.2.1<sl.length
     ·by_cases hB:o.2.2<sl.length
      ·rw [if_pos (by omega)]
       have hB1:(bz o.2.2 (zN (len (cat [] sl))))=true:=decide_eq_true hB
       cases hd
       ·repeat refine HS ?_
        first | rfl | (dsimp only;rw [h4];rfl)
       ·repeat refine HS ?_
        first | rfl | (dsimp only;rw [h4];rfl)
      ·rw [if_neg (by omega)]
       have hB1:(bz o.2.2 (zN (len (cat [] sl))))=false:=decide_eq_false hB
       cases hd
       ·repeat refine HS ?_
        first | rfl | (dsimp only;rw [h4];rfl)
       ·repeat refine HS ?_
        first | rfl | (dsimp only;rw [h4];rfl)
     ·rw [if_neg (by omega)]
      by_cases hB:o.2.2<sl.length
      all_goals
       cases hd
       ·repeat refine HS ?_
        first | rfl | (dsimp only;rw [h4];rfl)
       ·repeat refine HS ?_
        first | rfl | (dsimp only;rw [h4];rfl)
    ·have e:cq o sl=(if o.2.1.toNat<sl.length∧sl.getD o.2.1.toNat 0=0 then o.2.2.toNat else 0,sl,[],false):=by unfold cq;rw [if_neg (by omega),if_neg (by omega),if_neg (by omega),if_pos h]
     rw [e]
     have h4:aj o.1 4=false:=decide_eq_false (by omega)
     have hg:nth 0 (cat [] sl) (nN o.2.1)=sl.getD o.2.1.toNat 0:=rfl
     by_cases hA:o.2.1<sl.length
     ·by_cases h0:sl.getD o.2.1.toNat 0=0
      ·rw [if_pos ⟨by omega,h0⟩]
       have h0':nth 0 (cat [] sl) (nN o.2.1)=0:=h0
       have ek:af .i64 ((a+1:Nat):Int) o.2.2=((a+1+o.2.2.toNat:Nat):Int):=by rw [aG (by omega)];omega
       by_cases hB:o.2.2<sl.length
       all_goals
        rw [ek]
        cases hd
        ·repeat refine HS ?_
         first | rfl | (dsimp only;rw [h4];rfl)
        ·repeat refine HS ?_
         first | rfl | (dsimp only;rw [h4];rfl)
      ·rw [if_neg (fun hh=>h0 hh.2)]
       have h0':¬nth 0 (cat [] sl) (nN o.2.1)=0:=h0
       by_cases hB:o.2.2<sl.length
       all_goals
        cases hd
        ·repeat refine HS ?_
         first | rfl | (dsimp only;rw [h4];rfl)
        ·repeat refine HS ?_
         first | rfl | (dsimp only;rw [h4];rfl)
     ·rw [if_neg (by omega)]
      by_cases hB:o.2.2<sl.length
      all_goals
       cases hd
       ·repeat refine HS ?_
        first | rfl | (dsimp only;rw [h4];rfl)
       ·repeat refine HS ?_
        first | rfl | (dsimp only;rw [h4];rfl)
    ·have e:cq o sl=(0,sl,[],decide (o.1=4)):=by unfold cq;rw [if_neg (by omega),if_neg (by omega),if_neg (by omega),if_neg (by omega)]
     rw [e]
     by_cases hA:o.2.1<sl.length<;>by_cases hB:o.2.2<sl.length
     all_goals
      cases hd
      ·repeat refine HS ?_
       rfl
      ·repeat refine HS ?_
       rfl
  ·rw [qo ha]
   refine .stop _ (fun K=>?_)
   unfold g.fc YF
   dsimp only
   repeat refine HS ?_
   rfl
theorem Bo {ops:List h_} (kV:xY ops) {d0:dT} {j:Nat} {sl:List Int} (hj:aD d0 j=some sl) (hl:sl.length≤100) :
  g.iv ops (some j) d0=some (((some d0.length),((fZ ops sl).2.1,((fZ ops sl).2.2.1,((fZ ops sl).2.2.2,())))),((cat d0 [some (fZ ops sl).1]),())):=by
 have h8:=kV.1
 unfold g.iv
 repeat refine HS ?_
 exact (Dw kV d0 ops.length 0 sl [] false 0 (by omega) hl (by simp;omega) (by omega) (by omega)).loop (by unfold lG;omega)
theorem Dx {l:List (List h_)} (t:Int) (hl:l.length≤1000):g.i_ l t=some ((ev l t,()),()):=by
 unfold g.i_ ev
 by_cases h1:t<0
 ·rw [if_neg (by omega)]
  repeat refine HS ?_
  rfl
 rw [if_pos (by omega)]
 by_cases h2:(l.length:Int)≤t
 ·rw [zA,zb (by omega)]
  repeat refine HS ?_
  rfl
 ·repeat refine HS ?_
  rfl
open Go.Bm Go.jJ
def er (q:RO):RO:={ q with nm:=0 }
theorem OR.names {m:M} {P Q:List RO} (h:OR m Q) (e:P.map er=Q.map er):OR m P:=by
 refine ⟨fun o ho=>?_,fun s h0 h1=>?_⟩
 ·have:er o∈Q.map er:=by rw [←e];exact List.mem_map.2 ⟨o,ho,rfl⟩
  obtain ⟨q,hq,Hg⟩:=List.mem_map.1 this
  have:=h.rg q hq
  have e2:(er q).dY=(er o).dY:=by rw [Hg]
  have e2:q.dY=o.dY:=e2
  rw [e2] at this;exact this
 ·rw [←h.ob s h0 h1]
  have key:∀l:List RO,(l.filter (o_ s)).map (RO.qL (jL m s))=((l.map er).filter (o_ s)).map (RO.qL (jL m s)):=fun l=>by
   rw [List.filter_map,List.map_map];rfl
  rw [key P,key Q,e]
structure L7 (m:M) (s:Int) (O P:List RO) (k j:Nat) (d17:kS) (d18:dT):Prop where
 ln:P.length=O.length
 lo:∀i,i<k→P[i]?=O[i]?
 hi:∀i,k≤i→(P[i]?).map er=(O[i]?).map (fun q=>er (kP m.f s q))
 rw:aD d17 j=some (P.map ro)
 sl:∀q∈P,aD d18 q.nm=some q.aS
 un:P.Pairwise fun q r=>q.nm≠r.nm
abbrev ExT:Type:=((Bool×(Int×Unit))×(Unit×(Unit×((((Int×(Int×((List Int)×Unit)))×Unit))×(kS×(dT×Unit))))))
def AN (i:Int) (a:List Int×Int×Bool) (d17:kS) (d18:dT):ExT:=((a.2.2,(i,())),((),((),(((0,(a.2.1,(a.1,()))),()),(d17,(d18,()))))))
abbrev ExV:Type:=((List (Int×Bool))×((Int×Bool)×(Int×Unit)))×Unit
def Ch (l:List cR) (s:Int):ExV:=((l,((s,true),(0,()))),())
abbrev ExR:Type:=((Int×(Int×(List Int)))×Unit)×(kZ×(hZ×(kS×(dT×Unit))))
theorem yq (f:List (List h_)) (hf:m9 f) (s:Int):∀l:List RO,(gH f s l).1.length≤8*l.length∧0≤(gH f s l).2.1∧(gH f s l).2.1≤l.length
 | []=>⟨Nat.le_refl _,Int.le_refl _,Int.le_refl _⟩
 | o::l=>by
  have ih:=yq f hf s l
  have h8:=(tX hf o.tag).1
  have hs:=mU (ev f o.tag) o.aS
  unfold gH
  split
  ·simp only [zR];omega
  ·simp only [zR,zY];omega
section
variable {yd:Nat} {m:M} {b:YB} {d11:kZ} {d12:kD} {d13:jY} {d14:hZ} {d15:T4} {d16:gQ} {d17:kS} {d18:dT} {k:Nat}
theorem KN (hb:nth bE d11 yd=G5 m b) (D2:m9 m.f) {j:Nat} (hw:b.o=some j) {s:Int} {O P:List RO} {n:Int} {i:Nat} {xz:kS} {tn:dT} (hS:L7 m s O P (i+1) j xz tn) (hi:i<O.length) (yh:O.length≤9000) (FA:∀q∈O,q.aS.length≤6) (l:List cR) :
  ∃P' f17 f18,L7 m s O P' i j f17 f18∧∀F:ExT→Option ExR,g.a6 yd n d12 d13 d15 d16 d11 d14 (Ch l s) F (AN (i:Int) (gH m.f s (O.drop (i+1))) xz tn)=F (AN ((i:Int)-1) (gH m.f s (O.drop i)) f17 f18):=by
 obtain ⟨q,hq⟩:∃q,O[i]?=some q:=⟨O[i],zD hi⟩
 have hqO:O[i]=q:=(zB.1 hq).2
 have Np:q∈O:=zG hq
 have hP:P[i]?=some q:=by rw [hS.lo i (by omega)];exact hq
 have hPm:=zG hP
 have hn:nth (0,(0,(0,(none,false)))) (P.map ro) (nN (i:Int))=ro q:=bj (by rw [cQ,zL,hP];rfl)
 have h1:(nth (0,(0,(0,(none,false)))) (P.map ro) (nN (i:Int))).1=q.dY:=by rw [hn];rfl
 have h2:(nth (0,(0,(0,(none,false)))) (P.map ro) (nN (i:Int))).2.2.2.2=q.done:=by rw [hn];rfl
 have h3:(nth (0,(0,(0,(none,false)))) (P.map ro) (nN (i:Int))).2.2.2.1=some q.nm:=by rw [hn];rfl
 have hOf:g.i_ m.f (nth (0,(0,(0,(none,false)))) (P.map ro) (nN (i:Int))).2.2.1=some ((ev m.f q.tag,()),()):=by
  rw [hn];exact Dx q.tag (by have:=D2.1;omega)
 have hrw:=hS.rw
 have hlP:(P.map ro).length=O.length:=by rw [zH,hS.ln]
 have am2:P.length=O.length:=hS.ln
 have hsq:=hS.sl q hPm
 have kV:=tX D2 q.tag
 have h8:=kV.1
 have afg:=Bo kV hsq (by have:=FA q Np;omega)
 have hsd:=mU (ev m.f q.tag) q.aS
 have hlen:=yq m.f D2 s (O.drop (i+1))
 have hdl:(O.drop (i+1)).length≤9000:=by rw [List.length_drop];omega
 have ZB:O.drop i=q::O.drop (i+1):=by rw [List.drop_eq_getElem_cons hi,hqO]
 have NF:aK .i64 (i:Int) 1=(i:Int)-1:=aN (by omega)
 have Kk:(q.dY≠s∨q.done=true∨ev m.f q.tag=[])→L7 m s O P i j xz tn:=fun hc=>by
  refine ⟨hS.ln,fun r hr=>hS.lo r (by omega),fun r hr=>?_,hS.rw,hS.sl,hS.un⟩
  by_cases e:r=i
  ·subst e
   rw [hP,hq]
   simp only [Option.map_some]
   unfold kP;rw [if_pos hc]
  ·exact hS.hi r (by omega)
 rw [ZB]
 generalize hA:gH m.f s (O.drop (i+1))=A at *
 by_cases c1:q.dY=s
 rotate_left
 ·have hc:q.dY≠s∨q.done=true∨ev m.f q.tag=[]:=.inl c1
  refine ⟨P,xz,tn,Kk hc,fun F=>?_⟩
  rw [show gH m.f s (q::O.drop (i+1))=A by unfold gH;rw [if_pos hc,hA]]
  have NJ:¬(nth (0,(0,(0,(none,false)))) (P.map ro) (nN (i:Int))).1=s:=by rw [h1];exact c1
  unfold g.a6 AN Ch
  dsimp only
  simp only [hb,G5,hw]
  rw [NF]
  repeat refine HS ?_
  rfl
 have NJ:(nth (0,(0,(0,(none,false)))) (P.map ro) (nN (i:Int))).1=s:=by rw [h1];exact c1
 by_cases c2:q.done=true
 ·have hc:q.dY≠s∨q.done=true∨ev m.f q.tag=[]:=.inr (.inl c2)
  refine ⟨P,xz,tn,Kk hc,fun F=>?_⟩
  rw [show gH m.f s (q::O.drop (i+1))=A by unfold gH;rw [if_pos hc,hA]]
  have h2':(nth (0,(0,(0,(none,false)))) (P.map ro) (nN (i:Int))).2.2.2.2=true:=by rw [h2];exact c2
  unfold g.a6 AN Ch
  dsimp only
  simp only [hb,G5,hw]
  rw [NF]
  repeat refine HS ?_
  rfl
 have h2':(nth (0,(0,(0,(none,false)))) (P.map ro) (nN (i:Int))).2.2.2.2=false:=by rw [h2];simpa using c2
 by_cases c3:ev m.f q.tag=[]
 ·have hc:q.dY≠s∨q.done=true∨ev m.f q.tag=[]:=.inr (.inr c3)
  refine ⟨P,xz,tn,Kk hc,fun F=>?_⟩
  rw [show gH m.f s (q::O.drop (i+1))=A by unfold gH;rw [if_pos hc,hA]]
  have Nw:(ev m.f q.tag).length=0:=by rw [c3];rfl
  unfold g.a6 AN Ch
  dsimp only
  simp only [hb,G5,hw]
  rw [NF]
  repeat refine HS ?_
  rfl
 have hc:¬(q.dY≠s∨q.done=true∨ev m.f q.tag=[]):=by rintro (h | h | h)<;>contradiction
 have Nw:(ev m.f q.tag).length≠0:=fun h=>c3 (zZ h)
 have afe:gH m.f s (q::O.drop (i+1))=(A.1++(fZ (ev m.f q.tag) q.aS).2.1,A.2.1+1,A.2.2 || (fZ (ev m.f q.tag) q.aS).2.2.1):=by unfold gH;rw [if_neg hc,hA]
 rw [afe]
 generalize hR:fZ (ev m.f q.tag) q.aS=R at *
 have Zg:∀f:Obj→Obj,aw (0,(0,(0,(none,false)))) (P.map ro) (nN (i:Int)) f=(P.map ro).set i (f (ro q)):=fun f=>by unfold aw;rw [hn];rfl
 have QB:∀(x:Obj) (f:Obj→Obj),aw (0,(0,(0,(none,false)))) ((P.map ro).set i x) (nN (i:Int)) f=(P.map ro).set i (f x):=fun x f=>by
  have:nth (0,(0,(0,(none,false)))) ((P.map ro).set i x) (nN (i:Int))=x:=bj (by rw [cQ,List.getElem?_set,if_pos rfl,if_pos (by omega)])
  unfold aw aU
  rw [this,cQ,List.set_set]
 have hdN:af .i64 A.2.1 1=A.2.1+1:=aG (by omega)
 let q':RO:=⟨q.dY,q.pl,q.tag,tn.length,R.1,true⟩
 have m6:(P.set i q').map ro=(P.map ro).set i (q.dY,(q.pl,(q.tag,(some tn.length,true)))):=by rw [List.map_set];rfl
 refine ⟨P.set i q',aU (aU xz j (some ((P.map ro).set i (q.dY,(q.pl,(q.tag,(some tn.length,q.done))))))) j (some ((P.map ro).set i (q.dY,(q.pl,(q.tag,(some tn.length,true)))))),cat tn [some R.1],⟨by rw [zM];exact hS.ln,fun r hr=>?_,fun r hr=>?_,?_,fun p hp=>?_,?_⟩,fun F=>?_⟩
 ·rw [List.getElem?_set,if_neg (by omega)];exact hS.lo r (by omega)
 ·by_cases e:r=i
  ·subst e
   have aeY:r<P.length:=by rw [hS.ln];exact hi
   rw [List.getElem?_set,if_pos rfl,if_pos aeY,hq]
   simp only [Option.map_some]
   unfold kP
   rw [if_neg hc,hR]
   rfl
  ·rw [List.getElem?_set,if_neg (fun h=>e h.symm)];exact hS.hi r (by omega)
 ·rw [aC (aC hrw),m6]
 ·rcases List.mem_or_eq_of_mem_set hp with hp | rfl
  ·have:=hS.sl p hp
   rw [mO,if_neg (by have:=j5 this;omega)];exact this
  ·exact dw
 ·have eh:∀p∈P,p.nm<tn.length:=fun p hp=>j5 (hS.sl p hp)
  have hu:=List.pairwise_iff_getElem.1 hS.un
  rw [List.pairwise_iff_getElem]
  intro x y hx hy hxy
  rw [zM] at hx hy
  rw [List.getElem_set,List.getElem_set]
  have hpx:=eh _ (List.getElem_mem hx)
  have hpy:=eh _ (List.getElem_mem hy)
  split
  ·rw [if_neg (by omega)];show tn.length≠_;omega
  ·split
   ·show _≠tn.length;omega
   ·exact hu x y hx hy hxy
 ·unfold g.a6 AN Ch
  dsimp only
  simp only [hb,G5,hw]
  rw [NF,hdN]
  cases hh:A.2.2 with
  | true=>
   repeat refine HS ?_
   simp only [Zg]
   repeat refine HS ?_
   simp only [QB]
   repeat refine HS ?_
   rfl
  | false=>
   repeat refine HS ?_
   simp only [Zg]
   repeat refine HS ?_
   simp only [QB]
   repeat refine HS ?_
   rfl
theorem FK (hb:nth bE d11 yd=G5 m b) (D2:m9 m.f) {j:Nat} (hw:b.o=some j) {s:Int} {O:List RO} {n:Int} (yh:O.length≤9000) (FA:∀q∈O,q.aS.length≤6) (l:List cR) :
  ∀(i:Nat) (P:List RO) (xz:kS) (tn:dT),L7 m s O P i j xz tn→i≤O.length →
  ∃P' f17 f18,L7 m s O P' 0 j f17 f18∧∀R:Option ExR,(∀F,g.a6 yd n d12 d13 d15 d16 d11 d14 (Ch l s) F (AN (-1) (gH m.f s O) f17 f18)=R) →
   xF (g.a6 yd n d12 d13 d15 d16 d11 d14 (Ch l s)) (AN ((i:Int)-1) (gH m.f s (O.drop i)) xz tn) R i
 | 0,P,xz,tn,hS,_=>⟨P,xz,tn,hS,fun R hR=>.stop 0 hR⟩
 | i+1,P,xz,tn,hS,hi=>by
  obtain ⟨P1,f17,f18,k1,k2⟩:=KN (d12:=d12) (d13:=d13) (d14:=d14) (d15:=d15) (d16:=d16) (n:=n) hb D2 hw hS (by omega) yh FA l
  obtain ⟨P2,g17,g18,k3,k4⟩:=FK hb D2 hw (n:=n) yh FA l i P1 f17 f18 k1 (by omega)
  refine ⟨P2,g17,g18,k3,fun R hR=>?_⟩
  have:=k4 R hR
  rw [show ((i+1:Nat):Int)-1=(i:Int) by omega]
  exact .step this k2
end
open Go.Bm Go.jJ
def kI (s:Int) (l:List RO):List RO:=l.filter fun o=>!o_ s o
theorem Bz (f:List (List h_)) (s:Int):∀l:List RO,kI s (l.map (kP f s))=kI s l
 | []=>rfl
 | o::l=>by
  have ih:=Bz f s l
  unfold kI at ih ⊢
  by_cases h:o.dY=s
  ·rw [List.map_cons,List.filter_cons_of_neg (by simp [o_,vc,h]),List.filter_cons_of_neg (by simp [o_,h]),ih]
  ·have h1:kP f s o=o:=by unfold kP;rw [if_pos (.inl h)]
   rw [List.map_cons,h1,List.filter_cons_of_pos (by simp [o_,h]),List.filter_cons_of_pos (by simp [o_,h]),ih]
theorem E3 (s:Int) (l:List RO):(kI s l).map er=kI s (l.map er):=by
 unfold kI;rw [List.filter_map];rfl
theorem L7.er {m:M} {s:Int} {O P:List RO} {j:Nat} {d17:kS} {d18:dT} (h:L7 m s O P 0 j d17 d18):P.map er=(O.map (kP m.f s)).map er:=by
 refine List.ext_getElem? fun i=>?_
 have:=h.hi i (by omega)
 rw [zL,zL,zL,this,Option.map_map];rfl
abbrev LfS:Type:=((Int×Unit)×(((List (Int×(Int×(Int×((Option Nat)×Bool)))))×Unit)×(Unit×(Unit×Unit))))
def Qu (i:Int) (l:List Obj):LfS:=((i,()),((l,()),((),((),()))))
section
variable {yd:Nat} {m:M} {b:YB} {d11:kZ} {d12:kD} {d13:jY} {d14:hZ} {d15:T4} {d16:gQ} {d17:kS} {d18:dT} {k:Nat}
theorem NY (h:YR yd m b d11 d12 d13 d14 d15 d16 d17 d18) (hi:MI k m) {s:Int} (hs:1≤s∧s<m.p.1) (h2:(ab m.sc s).1.1=2) (h3:(ab m.sc s).1.2.1=1) {n:Int} (hn:0≤n∧n<m.th.length) (a:List Int×Int×Bool) {f17:kS} {f18:dT} {P:List RO} (ow:(b.o=none∧P=[])∨∃j,b.o=some j∧aD f17 j=some (P.map ro)) (l:List cR) (left:List Obj) :
  ∃D11 eM,(∀F,g.cG yd n d12 d13 d15 d16 d11 d14 (AN (-1) a f17 f18) (Ch l s) F (Qu (P.length:Int) left)=some (((0,(a.2.1,a.1)),()),(D11,(eM,(cat f17 [some left],(f18,())))))) ∧
   D11[yd]?=some (m.p,(m.f,(some b.y.s,(some f17.length,(cy 0 b.G (nN s) 0,(cy 0 b.B (nN s) 0,(b.R,cy [] b.C (nN n) l))))))) ∧
   uS b.y m.fr m.en (m.sc.set s.toNat ((1,0,-1,b6 (ab m.sc s).1.2.2.2),(ab m.sc s).2)) m.fl d12 d13 eM d15 d16:=by
 have hb:=h.nx
 have yj:=hi.si.len
 have sI:=hi.ls
 have eh:=hi.lt
 have C2:=hi.u9
 have hx:=hi.nX (i:=s) (by omega)
 have hr:=hi.si.cr _ _ hx
 have hc:=fH hr h2
 obtain ⟨eM,bb,hL,SC⟩:=Bs h.sc (by omega) s
 have e0:=lF hr h2
 rw [if_pos h3] at e0
 have eu:cS m.sc s bG=(m.sc.set s.toNat ((3,0,(ab m.sc s).1.2.2.1,(ab m.sc s).1.2.2.2),(ab m.sc s).2),0):=by
  unfold cS;rw [if_pos (bX.2 (by omega)),if_pos e0.1,e0.2]
 rw [eu] at hL SC
 obtain ⟨aa0,hO,hO2⟩:=Mw SC (by show (m.sc.set _ _).length≤_;rw [zM];omega) s
 have hc3:bf (3,0,(ab m.sc s).1.2.2.1,(ab m.sc s).1.2.2.2)=true:=pk (by omega)
 have eo:cS (m.sc.set s.toNat ((3,0,(ab m.sc s).1.2.2.1,(ab m.sc s).1.2.2.2),(ab m.sc s).2)) s eJ=(m.sc.set s.toNat ((1,0,-1,b6 (ab m.sc s).1.2.2.2),(ab m.sc s).2),0):=by
  unfold cS
  rw [if_pos (bX.2 ⟨hs.1,by rw [zM];omega⟩),Go.jJ.jN (by omega) (by omega),oD hc3 rfl,if_pos rfl,List.set_set]
 dsimp only at hL SC hO hO2
 rw [eo] at hO hO2
 refine ⟨?D,aa0,fun F=>?eq,?dd,hO2⟩
 case eq=>
  rcases ow with ⟨w1,w2⟩ | ⟨j,w1,w2⟩
  ·subst w2
   unfold g.cG Qu AN Ch
   dsimp only
   simp only [hb,w1,l9,h.nu,G5]
   repeat refine HS ?_
   rfl
  ·unfold g.cG Qu AN Ch
   dsimp only
   simp only [hb,w1,l9,h.nu,G5]
   have hlP:(P.map ro).length=P.length:=zH ..
   repeat refine HS ?_
   rfl
 case dd=>
  rw [h.bu]
  rfl
theorem NZ (h:YR yd m b d11 d12 d13 d14 d15 d16 d17 d18) (hi:MI k m) {s:Int} (hs:1≤s∧s<m.p.1) (h2:(ab m.sc s).1.1=2) (h3:(ab m.sc s).1.2.1=1) {n:Int} (hn:0≤n∧n<m.th.length) (a:List Int×Int×Bool) {f17:kS} {f18:dT} {P:List RO} (hP9:P.length≤9000) (ow:(b.o=none∧P=[])∨∃j,b.o=some j∧aD f17 j=some (P.map ro)) (l:List cR) :
  ∃D11 eM,loop (g.cG yd n d12 d13 d15 d16 d11 d14 (AN (-1) a f17 f18) (Ch l s)) (Qu 0 [])=some (((0,(a.2.1,a.1)),()),(D11,(eM,(cat f17 [some ((kI s P).map ro)],(f18,()))))) ∧
   D11[yd]?=some (m.p,(m.f,(some b.y.s,(some f17.length,(cy 0 b.G (nN s) 0,(cy 0 b.B (nN s) 0,(b.R,cy [] b.C (nN n) l))))))) ∧
   uS b.y m.fr m.en (m.sc.set s.toNat ((1,0,-1,b6 (ab m.sc s).1.2.2.2),(ab m.sc s).2)) m.fl d12 d13 eM d15 d16:=by
 have hb:=h.nx
 obtain ⟨D,eM,hT,hD,hY⟩:=NY h hi hs h2 h3 hn a (f18:=f18) ow l ((kI s P).map ro)
 refine ⟨D,eM,?_,hD,hY⟩
 refine dJ (fun i=>Qu (i:Int) ((kI s (P.take i)).map ro)) (fun _=>_) P.length (by unfold lG;omega) (fun F=>?_) (fun i hi=>.inr ⟨rfl,fun F=>?_⟩)
 ·rw [List.take_length];exact hT F
 ·obtain ⟨j,w1,w2⟩:∃j,b.o=some j∧aD f17 j=some (P.map ro):=by
   rcases ow with ⟨_,w2⟩ | w
   ·rw [w2] at hi;simp at hi
   ·exact w
  have hlP:(P.map ro).length=P.length:=zH ..
  have hPi:P[i]?=some P[i]:=zD hi
  have Nu:nth (0,(0,(0,(none,false)))) (P.map ro) (nN (i:Int))=ro P[i]:=bj (by rw [cQ,zL,hPi];rfl)
  have hlk:((kI s (P.take i)).map ro).length≤9000:=by
   rw [zH]
   have:(kI s (P.take i)).length≤(P.take i).length:=List.length_filter_le ..
   rw [List.length_take] at this;omega
  have htk:kI s (P.take (i+1))=kI s (P.take i)++kI s [P[i]]:=by
   unfold kI
   rw [List.take_add_one,hPi,List.filter_append];rfl
  rw [htk,List.map_append]
  generalize (kI s (P.take i)).map ro=L at *
  generalize P[i]=q at *
  have h1:(nth (0,(0,(0,(none,false)))) (P.map ro) (nN (i:Int))).1=q.dY:=by rw [Nu];rfl
  by_cases c:q.dY=s
  ·have NJ:(nth (0,(0,(0,(none,false)))) (P.map ro) (nN (i:Int))).1=s:=by rw [h1];exact c
   have e:kI s [q]=[]:=by unfold kI;rw [List.filter_cons_of_neg (by simp [o_,c])];rfl
   rw [e]
   show _=F (Qu _ (L++[]))
   rw [List.append_nil]
   unfold g.cG Qu AN Ch
   dsimp only
   simp only [hb,w1]
   rw [uz (by omega)]
   repeat refine HS ?_
   rfl
  ·have NJ:¬(nth (0,(0,(0,(none,false)))) (P.map ro) (nN (i:Int))).1=s:=by rw [h1];exact c
   have e:kI s [q]=[q]:=by unfold kI;rw [List.filter_cons_of_pos (by simp [o_,c])];rfl
   rw [e]
   unfold g.cG Qu AN Ch
   dsimp only
   simp only [hb,w1]
   rw [uz (by omega)]
   repeat refine HS ?_
   rw [Nu]
   have z:((L.length+1:Nat):Int)≤((16777216:Nat):Int):=by omega
   repeat refine HS ?_
   rfl
end
open Go.Bm Go.jJ
section
variable {yd:Nat} {m:M} {b:YB} {d11:kZ} {d12:kD} {d13:jY} {d14:hZ} {d15:T4} {d16:gQ} {d17:kS} {d18:dT} {k:Nat}
theorem YR.Dg (h:YR yd m b d11 d12 d13 d14 d15 d16 d17 d18) (hi:MI k m):∀q∈b.O,q.aS.length≤6:=fun q hq=>by
 have hr:=h.ob.rg q hq
 have:=(hi.tq hr).2.ob (q.qL (jL m q.dY)) (by rw [←h.ob.ob _ hr.1 hr.2];exact List.mem_map.2 ⟨q,List.mem_filter.2 ⟨hq,eH.2 rfl⟩,rfl⟩)
 exact this.2.2.2.2.2.2.1
theorem YR.stg (h:YR yd m b d11 d12 d13 d14 d15 d16 d17 d18) {j:Nat} (w:aD d17 j=some (b.O.map ro)) (s:Int):L7 m s b.O b.O b.O.length j d17 d18:=
 ⟨rfl,fun _ _=>rfl,fun i hi=>by rw [zb (by omega)];rfl,w,h.sl,h.un⟩
theorem Hz (f:List (List h_)) (s:Int) (l:List RO):gH f s (l.drop l.length)=([],0,false):=by rw [List.drop_length];rfl
theorem YR.Ro (h:YR yd m b d11 d12 d13 d14 d15 d16 d17 d18) (hi:MI k m) {s:Int} (hs:0≤s∧s<m.p.1) {P:List RO} {j:Nat} {f17:kS} {f18:dT} (hS:L7 m s b.O P 0 j f17 f18) (hj:b.o=some j) :
  YR yd (m.cK s { m.bm s with aX:=(bM m.f (m.bm s).aX).1 }) { b with O:=P } d11 d12 d13 d14 d15 d16 f17 f18:=by
 refine ⟨h.bx,h.sc,OR.names (h.ob.fin hi hs).2 hS.er,by rw [hS.ln];exact h.ol,.inr ⟨j,hj,hS.rw⟩,hS.sl,hS.un,fun t h0 h1=>?_,fun t h0 h1=>?_,h.rg,h.cs⟩
 ·rw [Go.jJ.gI hi hs h0]
  split
  ·rename_i e;subst e;exact h.ga t h0 h1
  ·exact h.ga t h0 h1
 ·rw [Go.jJ.gI hi hs h0]
  split
  ·rename_i e;subst e;exact h.us t h0 h1
  ·exact h.us t h0 h1
theorem xM {m:M} {n j:Int} (hn:0≤n∧n<m.th.length) (hj:0≤j) (l:List cR):(m.cD n l).ax j=if j=n then ⟨(m.ax n).dc,l⟩ else m.ax j:=mh hn hj _
theorem YR.gone (h:YR yd m b d11 d12 d13 d14 d15 d16 d17 d18) (hi:MI k m) {s:Int} (hs:1≤s∧s<m.p.1) {n:Int} (hn:0≤n∧n<m.th.length) {z:List jK} {x:dW} {l:List cR} {P:List RO} (hP:(kI s P).map er=(kI s b.O).map er) (hPl:P.length≤9000)
  {f17:kS} {f18:dT} (FA:∀q∈P,aD f18 q.nm=some q.aS) (hun:P.Pairwise fun q r=>q.nm≠r.nm) {D:kZ} {eM:hZ} {G' B':List Int} {C':List (List cR)} (hG:G'=cy 0 b.G (nN s) 0) (hB:B'=cy 0 b.B (nN s) 0) (hC:C'=cy [] b.C (nN n) l)
  (hD:D[yd]?=some (m.p,(m.f,(some b.y.s,(some f17.length,(G',(B',(b.R,C'))))))))
  (hY:uS b.y m.fr m.en (m.sc.set s.toNat x) m.fl d12 d13 eM d15 d16) :
  YR yd ((M.cK { m.cK s { m.bm s with aX:=z } with sc:=m.sc.set s.toNat x } s oP).cD n l) { b with o:=some f17.length,O:=kI s P,G:=G',B:=B',C:=C' } D d12 d13 eM d15 d16 (cat f17 [some ((kI s P).map ro)]) f18:=by
 have sI:=hi.ls
 have Sr:=hi.la
 have w9:∀t:Int,0≤t→((M.cK { m.cK s { m.bm s with aX:=z } with sc:=m.sc.set s.toNat x } s oP).cD n l).bm t=if t=s then oP else m.bm t:=fun t h0=>by
  show (((m.ar.set s.toNat _).set s.toNat oP).getD t.toNat oP)=_
  rw [List.set_set,zA,List.getElem?_set]
  by_cases e:t=s
  ·subst e;rw [if_pos rfl,if_pos (by omega),if_pos rfl];rfl
  ·rw [if_neg (by omega),if_neg e];show m.ar[t.toNat]?.getD oP=m.ar.getD t.toNat oP;rw [zA]
 have yf:((M.cK { m.cK s { m.bm s with aX:=z } with sc:=m.sc.set s.toNat x } s oP).cD n l).th.length=m.th.length:=zM
 refine ⟨hD,hY,?_,?_,.inr ⟨_,rfl,dw⟩,fun q hq=>FA q (List.mem_filter.1 hq).1,List.Pairwise.sublist List.filter_sublist hun,fun t h0 h1=>?_,fun t h0 h1=>?_,fun t h0 h1=>?_,fun t h0 h1=>?_⟩
 ·refine OR.names (Q:=kI s b.O) (OR.gone hi h.ob rfl (fun t h0 h1=>?_) (fun t h0 h1 jB=>?_)) hP
  ·rw [w9 t h0]
   split
   ·rfl
   ·rfl
  ·show (ab (m.sc.set s.toNat x) t).1.2.2.2=_
   rw [jN (by omega) h0,if_neg jB];rfl
 ·have:(kI s P).length≤P.length:=List.length_filter_le ..
  show (kI s P).length≤_
  omega
 ·show G'.getD t.toNat 0=_
  rw [w9 t h0,hG,kg]
  by_cases e:t=s
  ·subst e;rw [if_pos (cM t).symm,if_pos rfl];rfl
  ·rw [if_neg (by rw [cM];omega),if_neg e];exact h.ga t h0 h1
 ·show B'.getD t.toNat 0=_
  rw [w9 t h0,hB,kg]
  by_cases e:t=s
  ·subst e;rw [if_pos (cM t).symm,if_pos rfl];rfl
  ·rw [if_neg (by rw [cM];omega),if_neg e];exact h.us t h0 h1
 ·rw [yf] at h1
  rw [xM (m:=M.cK { m.cK s { m.bm s with aX:=z } with sc:=m.sc.set s.toNat x } s oP) hn h0]
  split
  ·rename_i e;subst e;exact h.rg t h0 h1
  ·exact h.rg t h0 h1
 ·rw [yf] at h1
  show C'.getD t.toNat []=_
  rw [xM (m:=M.cK { m.cK s { m.bm s with aX:=z } with sc:=m.sc.set s.toNat x } s oP) hn h0,hC,kg]
  by_cases e:t=n
  ·subst e;rw [if_pos (cM t).symm,if_pos rfl]
  ·rw [if_neg (by rw [cM];omega),if_neg e];exact h.cs t h0 h1
theorem Mr (h:YR yd m b d11 d12 d13 d14 d15 d16 d17 d18) (hi:MI k m) (yk:CT m) {n:Int} (hn:0≤n∧n<m.th.length) {s:Int} (hx:(m.ax n).aA.getLast?=some (s,true)) :
  ∃b' ib eM oC mL,g.cL yd n d12 d13 d15 d16 d11 d14 d17 d18=some ((((m.exit n).2.1,((m.exit n).2.2.1,(m.exit n).2.2.2)),()),(ib,(eM,(oC,(mL,())))))∧YR yd (m.exit n).1 b' ib d12 d13 eM d15 d16 oC mL:=by
 have hb:=h.nx
 have rp:=h.ER
 have hC:=h.nC hn
 have qP:=h.sc.cr
 have yj:=hi.si.len
 have sI:=hi.ls
 have eh:=hi.lt
 have C2:=hi.u9
 have ht:=hi.ax hn
 have AK:=ht.2.2.len
 have hm1:(m.sc.map (·.1)).length=m.sc.length:=zH ..
 have anD:=Bk (by omega) hx
 have hm:=pD hx
 have iH:=hi.live yk (M.ko hn) (.inr hm)
 have h1:=(ht.2.2.Dp _ hm).2.2 rfl
 simp only at h1
 have hs:1≤s∧s<m.p.1:=⟨h1,iH.2.2.2⟩
 have Qz:=hi.nX (i:=s) (by omega)
 have hr:=hi.si.cr _ _ Qz
 have hcn:=fH hr iH.2.1
 have QP:kq m.sc s=((ab m.sc s).1,0):=by unfold kq;rw [if_pos (bX.2 (by omega))]
 have LS:(nth (0,(0,(0,0))) (m.sc.map (·.1)) (nN s)).2.1=(ab m.sc s).1.2.1:=by rw [mQ (by omega)]
 have hlq:=M.mu (m:=m) (n:=n) (l:=(m.ax n).aA.dropLast) (a:=(0,0,[])) hs.1 (by omega) hr iH.2.1
 unfold M.exit
 rw [hx]
 dsimp only
 rw [if_neg (by simp),QP]
 dsimp only
 by_cases h3:(ab m.sc s).1.2.1=1
 rotate_left
 ·rw [if_neg h3,hlq,if_neg h3]
  have h3':1<(nth (0,(0,(0,0))) (m.sc.map (·.1)) (nN s)).2.1:=by rw [LS];omega
  obtain ⟨eM,bb,hL,SC⟩:=Bs h.sc (by omega) s
  have e0:=lF hr iH.2.1
  rw [if_neg h3] at e0
  have eu:cS m.sc s bG=(m.sc.set s.toNat ((2,(ab m.sc s).1.2.1-1,(ab m.sc s).1.2.2.1,(ab m.sc s).1.2.2.2),(ab m.sc s).2),0):=by
   unfold cS;rw [if_pos (bX.2 (by omega)),if_pos e0.1,e0.2]
  have hep:∀t:Int,0≤t→(ab (cS m.sc s bG).1 t).1.2.2.2=jL m t:=fun t h0=>FO hi.si JG h0
  rw [eu] at hL SC hep
  dsimp only at hL SC hep
  have hY:YR yd { m with sc:=m.sc.set s.toNat ((2,(ab m.sc s).1.2.1-1,(ab m.sc s).1.2.2.1,(ab m.sc s).1.2.2.2),(ab m.sc s).2) } b d11 d12 d13 eM d15 d16 d17 d18:=
   h.EN (fl:=m.fl) SC (h.ob.of rfl (fun _ _ _=>rfl) (fun t h0 _=>.inr (hep t h0)))
  refine ⟨_,aw bE d11 yd (fun oU=>(oU.1,(oU.2.1,(oU.2.2.1,(oU.2.2.2.1,(oU.2.2.2.2.1,(oU.2.2.2.2.2.1,(oU.2.2.2.2.2.2.1,(cy [] oU.2.2.2.2.2.2.2 (nN n) (m.ax n).aA.dropLast))))))))),eM,d17,d18,?_,hY.Ml hn rfl (h.bu _)⟩
  unfold g.cL
  simp only [hb]
  rw [hC]
  repeat refine HS ?_
  simp only [rp]
  repeat refine HS ?_
  rfl
 ·rw [if_pos h3]
  have h3':¬1<(nth (0,(0,(0,0))) (m.sc.map (·.1)) (nN s)).2.1:=by rw [LS];omega
  have hO6:=h.Dg hi
  have D2:=hi.ff
  have tS:=(h.ob.fin hi (s:=s) (by omega)).1
  rw [tS]
  have tP:∀(R:Option ExR),((b.o=none∧b.O=[])→loop (g.a6 yd n d12 d13 d15 d16 d11 d14 (Ch (m.ax n).aA.dropLast s)) (AN (-1) ([],0,false) d17 d18)=R) →
    (∀j,b.o=some j→aD d17 j=some (b.O.map ro)→loop (g.a6 yd n d12 d13 d15 d16 d11 d14 (Ch (m.ax n).aA.dropLast s)) (AN ((b.O.length:Int)-1) ([],0,false) d17 d18)=R) →
    g.cL yd n d12 d13 d15 d16 d11 d14 d17 d18=R:=by
   intro R r1 r2
   have yh:=h.ol
   rcases h.ow with ⟨w1,w2⟩ | ⟨j,w1,w2⟩
   ·unfold g.cL
    simp only [hb,w1]
    rw [hC]
    repeat refine HS ?_
    simp only [rp]
    repeat refine HS ?_
    exact r1 ⟨w1,w2⟩
   ·have LV:aK .i64 (zN (len (b.O.map ro))) 1=(b.O.length:Int)-1:=by rw [cF,bB,zH,aN (by omega)]
    unfold g.cL
    simp only [hb,w1]
    rw [hC]
    repeat refine HS ?_
    simp only [rp]
    repeat refine HS ?_
    rw [LV]
    exact r2 j w1 w2
  have jb:∃(P:List RO) (f17:kS) (f18:dT),((b.o=none∧P=[])∨∃j,b.o=some j∧aD f17 j=some (P.map ro))∧(∀q∈P,aD f18 q.nm=some q.aS)∧(P.Pairwise fun q r=>q.nm≠r.nm)∧P.length=b.O.length∧P.map er=(b.O.map (kP m.f s)).map er ∧
    (∀j,b.o=some j→L7 m s b.O P 0 j f17 f18)∧((b.o=none→f17=d17∧f18=d18∧b.O=[])) ∧
    ∀R:Option ExR,(∀F,g.a6 yd n d12 d13 d15 d16 d11 d14 (Ch (m.ax n).aA.dropLast s) F (AN (-1) (gH m.f s b.O) f17 f18)=R)→g.cL yd n d12 d13 d15 d16 d11 d14 d17 d18=R:=by
   rcases h.ow with ⟨w1,w2⟩ | ⟨j,w1,w2⟩
   ·refine ⟨[],d17,d18,.inl ⟨w1,rfl⟩,fun q hq=>(by cases hq),List.Pairwise.nil,by rw [w2],by rw [w2];rfl,fun j hj=>(by rw [w1] at hj;cases hj),fun _=>⟨rfl,rfl,w2⟩,fun R hR=>tP R (fun _=>?_) (fun j hj=>by rw [w1] at hj;cases hj)⟩
    rw [w2] at hR
    exact (xF.stop 0 hR).loop (by unfold lG;omega)
   ·obtain ⟨P,f17,f18,k1,k2⟩:=FK (d12:=d12) (d13:=d13) (d14:=d14) (d15:=d15) (d16:=d16) (b:=b) (m:=m) (s:=s) (n:=n) hb D2 w1 h.ol hO6 (m.ax n).aA.dropLast b.O.length b.O d17 d18 (h.stg w2 s) (Nat.le_refl _)
    refine ⟨P,f17,f18,.inr ⟨j,w1,k1.rw⟩,k1.sl,k1.un,k1.ln,k1.er,fun j' hj=>(by rw [w1] at hj;cases hj;exact k1),fun hj=>(by rw [w1] at hj;cases hj),fun R hR=>tP R (fun hj=>by rw [w1] at hj;cases hj.1) (fun j' hj Zv=>?_)⟩
    have:=k2 R hR
    rw [Hz] at this
    have yh:=h.ol
    exact this.loop (by unfold lG;omega)
  obtain ⟨P,f17,f18,p1,p2,p3,p4,p5,p6,p7,p8⟩:=jb
  have yh:=h.ol
  cases hh:(gH m.f s b.O).2.2 with
  | true=>
   rw [if_pos rfl]
   rcases h.ow with ⟨w1,w2⟩ | ⟨j,w1,w2⟩
   ·rw [w2] at hh;cases hh
   ·refine ⟨_,d11,d14,f17,f18,p8 _ (fun F=>?_),h.Ro hi (by omega) (p6 j w1) w1⟩
    unfold g.a6 AN Ch
    dsimp only
    rw [hh]
    repeat refine HS ?_
    rfl
  | false=>
   rw [if_neg (by simp)]
   obtain ⟨D,eM,hL,hD,hY⟩:=NZ h hi hs iH.2.1 h3 hn (gH m.f s b.O) (f17:=f17) (f18:=f18) (P:=P) (by omega) p1 (m.ax n).aA.dropLast
   have hle:=M.mu (m:=m.cK s { m.bm s with aX:=(bM m.f (m.bm s).aX).1 }) (n:=n) (l:=(m.ax n).aA.dropLast) (a:=(0,(gH m.f s b.O).2.1,(gH m.f s b.O).1)) hs.1 (by show s<m.sc.length;omega) hr iH.2.1
   dsimp only at hle
   have hle:=hle.trans (if_pos (by exact h3))
   have hPo:(kI s P).map er=(kI s b.O).map er:=by
    rw [E3,p5,←E3,Bz]
   rw [hle]
   refine ⟨_,D,eM,_,f18,p8 _ (fun F=>?_),h.gone hi hs hn (z:=(bM m.f (m.bm s).aX).1) hPo (by omega) p2 p3 rfl rfl rfl hD hY⟩
   unfold g.a6
   refine Eq.trans (ba (by show ¬(0:Int)≤-1;omega)) ?_
   refine Eq.trans (uR (by exact hh)) ?_
   exact hL
end
open Go.Bm Go.jJ
theorem pF (a b:Int):bz a b=decide (a<b):=rfl
theorem yR (c:oZ):g.jq c=some ((cC c,()),()):=by
 obtain ⟨op,r,hh,v,a,bb,t⟩:=c
 unfold g.jq cC rZ
 dsimp only
 by_cases h1:op=1
 ·subst h1
  repeat refine HS ?_
  simp [pF]
 by_cases h7:op=7
 ·subst h7
  repeat refine HS ?_
  simp [pF]
 by_cases C5:op=10
 ·subst C5
  repeat refine HS ?_
  have:aj (10:Int) 10=true:=rfl
  simp [pF]
 have e10:aj op 10=false:=decide_eq_false C5
 by_cases h8:op=8
 ·subst h8
  by_cases c1:r<4
  ·repeat refine HS ?_
   simp [pF,c1]
  ·repeat refine HS ?_
   simp [pF,c1]
 by_cases h9:op=9
 ·subst h9
  by_cases c1:hh<4
  ·repeat refine HS ?_
   simp [pF,c1]
  ·repeat refine HS ?_
   simp [pF,c1]
 by_cases FD:op=11
 ·subst FD
  repeat refine HS ?_
  simp [pF]
 repeat refine HS ?_
 rw [if_neg (by omega),if_neg h8,if_neg h9,if_neg FD]
 rfl
section
variable {yd:Nat} {m:M} {b:YB} {d11:kZ} {d12:kD} {d13:jY} {d14:hZ} {d15:T4} {d16:gQ} {d17:kS} {d18:dT} {k:Nat}
abbrev DoY:Type:=(((Int×(Int×(List Int)))×Unit)×(kZ×(hZ×(T4×(gQ×(kS×(dT×Unit)))))))
def abT (x:Option DoY) (yd:Nat) (d12:kD) (d13:jY) (o:Out):Prop:=∃b' ib eM rG rF oC mL,x=some (((o.2.1,(o.2.2.1,o.2.2.2)),()),(ib,(eM,(rG,(rF,(oC,(mL,())))))))∧YR yd o.1 b' ib d12 d13 eM rG rF oC mL
theorem yM {fr en:Int} {l:List dW} {fl:List Xt} (hs:SI fr en l fl) (a:Int) {s:Int} (h0:0≤s):(ab l s).1.1=1∨(ab (bg fr en l fl a).1 s).1.2.2.2=(ab l s).1.2.2.2:=by
 unfold bg
 split
 ·exact .inr rfl
 ·rename_i h1
  have h1:1≤a∧a<l.length:=by rw [←bX];simpa using h1
  split
  ·exact .inr rfl
  ·split
   ·exact .inr rfl
   ·rename_i h2 h3
    dsimp only
    rw [jN (by omega) h0]
    by_cases e:s=a
    ·subst e;exact .inl (by simpa using h3)
    ·rw [if_neg e];exact .inr rfl
theorem A6 {l:List dW} {fl:List Xt} (a:Int) {s:Int} (h0:0≤s):(ab (bC l fl a).1 s).1.2.2.2=(ab l s).1.2.2.2:=by
 unfold bC
 split
 ·rfl
 ·split
  ·rfl
  ·rename_i i hi
   split
   ·rfl
   ·obtain ⟨x,hx,_⟩:=gW hi
    have LW:=(zB.1 hx).1
    have key:∀x:dW,x.1.2.2.2=(ab l (i:Int)).1.2.2.2→(ab (l.set i x) s).1.2.2.2=(ab l s).1.2.2.2:=fun x hx=>by
     have:=jN (l:=l) (i:=(i:Int)) (j:=s) (by omega) h0 x
     rw [zE] at this
     rw [this]
     split
     ·rename_i e;subst e;exact hx
     ·rfl
    exact key _ rfl
theorem YK (h:YR yd m b d11 d12 d13 d14 d15 d16 d17 d18) (hi:MI k m) (yk:CT m) (yh:b.O.length<9000) {n:Int} (hn:0≤n∧n<m.th.length) {c:oZ} (hc:wX c) :
  abT (g.aM yd n c d12 d13 d11 d14 d15 d16 d17 d18) yd d12 d13 (if cC c=true then m.act n c else m.code 1):=by
 have hb:=h.nx
 have hC:=h.nC hn
 have yj:=hi.si.len
 have eh:=hi.lt
 have C2:=hi.u9
 have AG:=hi.kk
 have QK:=hi.fk
 have AK:=(hi.ax hn).2.2.len
 have hR:=yR c
 cases hf:cC c with
 | false=>
  rw [hf] at hR
  rw [if_neg (by simp)]
  refine ⟨b,d11,d14,d15,d16,d17,d18,?_,h⟩
  unfold g.aM
  repeat refine HS ?_
  rfl
 | true=>
 rw [hf] at hR
 rw [if_pos rfl]
 obtain ⟨op,r,hh,v,a,bb,t⟩:=c
 have AF:0≤r:=hc.r
 have hh0:0≤hh:=hc.h
 have zt:0≤v:=hc.v
 have C4:=hf
 unfold cC at C4
 rw [List.all_eq_true] at C4
 unfold rZ at C4
 dsimp only at C4
 unfold M.act
 dsimp only
 by_cases o0:op=0
 ·subst o0
  rw [if_pos rfl]
  refine ⟨b,d11,d14,d15,d16,d17,d18,?_,h⟩
  unfold g.aM
  repeat refine HS ?_
  rfl
 rw [if_neg o0]
 by_cases o1:op=1
 ·subst o1
  rw [if_pos rfl]
  have J7:r<4:=by simpa using C4 r (by simp)
  refine ⟨_,aw bE d11 yd (fun l_=>(l_.1,(l_.2.1,(l_.2.2.1,(l_.2.2.2.1,(l_.2.2.2.2.1,(l_.2.2.2.2.2.1,((cy [0,0,0,0] l_.2.2.2.2.2.2.1 (nN n) (cy 0 (nth [0,0,0,0] l_.2.2.2.2.2.2.1 (nN n)) (nN r) (kU IntKind.u64 a))),l_.2.2.2.2.2.2.2)))))))),d14,d15,d16,d17,d18,?_,h.Iw (hi.ax hn).1 hn ⟨AF,J7⟩ (kU .u64 a) rfl (h.bu _)⟩
  unfold g.aM
  repeat refine HS ?_
  rfl
 rw [if_neg o1]
 by_cases o2:op=2
 ·subst o2
  rw [if_pos rfl]
  obtain ⟨eM,rG,rF,e1,e2⟩:=GC h.sc hi.si (by omega) a
  refine ⟨b,d11,eM,rG,rF,d17,d18,?_,h.EN e2 (h.ob.of rfl (fun _ _ _=>rfl) (fun s h0 _=>.inr (A6 a h0)))⟩
  unfold g.aM
  simp only [hb]
  repeat refine HS ?_
  rfl
 rw [if_neg o2]
 by_cases o3:op=3
 ·subst o3
  rw [if_pos rfl]
  obtain ⟨eM,rG,rF,e1,e2⟩:=Dy h.sc hi.si (by omega) a
  refine ⟨b,d11,eM,rG,rF,d17,d18,?_,h.EN e2 (h.ob.of rfl (fun _ _ _=>rfl) (fun s h0 h1=>?_))⟩
  ·unfold g.aM
   simp only [hb]
   repeat refine HS ?_
   rfl
  ·rcases yM hi.si a h0 with e | e
   ·have:=(hi.tq ⟨h0,h1⟩).2.id (by rw [e];decide)
    exact .inl (by rw [this];rfl)
   ·exact .inr e
 rw [if_neg o3]
 by_cases o4:op=4
 ·subst o4
  rw [if_pos rfl]
  obtain ⟨b',ib,eM,e1,e2⟩:=IK h hi hn (r:=r) (hh:=hh) (v:=v) (a:=a) (bb:=bb) (t:=t)
  refine ⟨b',ib,eM,d15,d16,d17,d18,?_,e2⟩
  unfold g.aM
  repeat refine HS ?_
  rfl
 rw [if_neg o4]
 by_cases o5:op=5
 ·subst o5
  rw [if_pos rfl]
  cases hx:(m.ax n).aA.getLast? with
  | none=>
   have he:(m.ax n).aA=[]:=List.getLast?_eq_none_iff.1 hx
   have hP:g.dZ (m.ax n).aA=some (([],((0,false),(23,()))),()):=by rw [he];exact Du
   refine ⟨b,d11,d14,d15,d16,d17,d18,?_,?_⟩
   ·unfold M.exit
    rw [hx]
    unfold g.aM
    simp only [hb]
    rw [hC]
    repeat refine HS ?_
    rfl
   ·unfold M.exit;rw [hx];exact h
  | some x=>
   obtain ⟨s,bx⟩:=x
   have hP:=Bk (by omega) hx
   cases bx with
   | false=>
    refine ⟨{ b with C:=cy [] b.C (nN n) (m.ax n).aA.dropLast },aw bE d11 yd (fun hJ=>(hJ.1,(hJ.2.1,(hJ.2.2.1,(hJ.2.2.2.1,(hJ.2.2.2.2.1,(hJ.2.2.2.2.2.1,(hJ.2.2.2.2.2.2.1,(cy [] hJ.2.2.2.2.2.2.2 (nN n) (m.ax n).aA.dropLast))))))))),d14,d15,d16,d17,d18,?_,?_⟩
    rotate_left
    ·unfold M.exit;rw [hx]
     exact h.Ml hn rfl (h.bu _)
    ·unfold M.exit
     rw [hx]
     unfold g.aM
     simp only [hb]
     rw [hC]
     repeat refine HS ?_
     rfl
   | true=>
    obtain ⟨b',ib,eM,oC,mL,e1,e2⟩:=Mr h hi yk hn hx
    refine ⟨b',ib,eM,d15,d16,oC,mL,?_,e2⟩
    unfold g.aM
    simp only [hb]
    rw [hC]
    repeat refine HS ?_
    rfl
 rw [if_neg o5]
 by_cases o6:op=6
 ·subst o6
  rw [if_pos rfl]
  obtain ⟨b',ib,eM,e1,e2⟩:=IJ h hi hn (r:=r) (hh:=hh) (v:=v) (a:=a) (bb:=bb) (t:=t)
  refine ⟨b',ib,eM,d15,d16,d17,d18,?_,e2⟩
  have e66:aj (6:Int) 6=true:=rfl
  unfold g.aM
  repeat refine HS ?_
  rfl
 rw [if_neg o6]
 have e6:aj op 6=false:=decide_eq_false o6
 by_cases o7:op=7
 ·subst o7
  rw [if_pos rfl]
  have J7:r<4:=by simpa using C4 r (by simp)
  obtain ⟨b',ib,oC,mL,e1,e2⟩:=IV h hi yk yh hn (r:=r) (hh:=hh) (v:=v) (a:=a) (bb:=bb) (t:=t) ⟨AF,J7⟩
  refine ⟨b',ib,d14,d15,d16,oC,mL,?_,e2⟩
  unfold g.aM
  repeat refine HS ?_
  rfl
 rw [if_neg o7]
 by_cases o8:op=8
 ·subst o8
  rw [if_pos rfl]
  have J7:r<4:=by simpa using C4 r (by simp)
  have Zw:hh<4:=by simpa using C4 hh (by simp)
  obtain ⟨b',ib,mL,e1,e2⟩:=Mp h hi hn (r:=r) (hh:=hh) (v:=v) (a:=a) (bb:=bb) (t:=t) ⟨AF,J7⟩ ⟨hh0,Zw⟩
  refine ⟨b',ib,d14,d15,d16,d17,mL,?_,e2⟩
  unfold g.aM
  repeat refine HS ?_
  rfl
 rw [if_neg o8]
 by_cases o9:op=9
 ·subst o9
  rw [if_pos rfl]
  have Zw:hh<4:=by simpa using C4 hh (by simp)
  have Uh:v<4:=by simpa using C4 v (by simp)
  obtain ⟨b',ib,mL,e1,e2⟩:=IF h hi hn (r:=r) (hh:=hh) (v:=v) (a:=a) (bb:=bb) (t:=t) ⟨zt,Uh⟩ ⟨hh0,Zw⟩
  refine ⟨b',ib,d14,d15,d16,d17,mL,?_,e2⟩
  unfold g.aM
  repeat refine HS ?_
  rfl
 rw [if_neg o9]
 by_cases o10:op=10
 ·subst o10
  rw [if_pos rfl]
  have J7:r<4:=by simpa using C4 r (by simp)
  by_cases ha:1≤a∧a≤m.p.1-1
  ·obtain ⟨b',ib,e1,e2⟩:=Gq h hi hn (r:=r) (hh:=hh) (v:=v) (a:=a) (bb:=bb) (t:=t) ⟨AF,J7⟩ ha
   refine ⟨b',ib,d14,d15,d16,d17,d18,?_,e2⟩
   unfold g.aM
   simp only [hb]
   repeat refine HS ?_
   rfl
  ·have hg:m.gm n r a=m.code 11:=by unfold M.gm;rw [if_pos (kz.2 ha)]
   rw [hg]
   refine ⟨b,d11,d14,d15,d16,d17,d18,?_,h⟩
   unfold g.aM
   simp only [hb]
   by_cases c1:a<1
   ·repeat refine HS ?_
    rfl
   ·have c2:m.p.1≤a:=by omega
    repeat refine HS ?_
    rfl
 rw [if_neg o10]
 by_cases o11:op=11
 ·subst o11
  rw [if_pos rfl]
  have Uh:v<4:=by simpa using C4 v (by simp)
  by_cases ha:1≤a∧a≤m.p.1-1
  ·obtain ⟨b',ib,e1,e2⟩:=Mq h hi hn (r:=r) (hh:=hh) (v:=v) (a:=a) (bb:=bb) (t:=t) ⟨zt,Uh⟩ ha
   refine ⟨b',ib,d14,d15,d16,d17,d18,?_,e2⟩
   unfold g.aM
   simp only [hb]
   repeat refine HS ?_
   rfl
  ·have hg:m.gate n v a=m.code 11:=by unfold M.gate;rw [if_pos (kz.2 ha)]
   rw [hg]
   refine ⟨b,d11,d14,d15,d16,d17,d18,?_,h⟩
   unfold g.aM
   simp only [hb]
   by_cases c1:a<1
   ·repeat refine HS ?_
    rfl
   ·have c2:m.p.1≤a:=by omega
    repeat refine HS ?_
    rfl
 rw [if_neg o11]
 refine ⟨b,d11,d14,d15,d16,d17,d18,?_,h⟩
 unfold g.aM
 repeat refine HS ?_
 rfl
end
open Go.Bm Go.jJ
theorem Gt {a c:Bool} {N k:Nat} (hk:k<N):(List.replicate k a++List.replicate (N-k) c).set k a=List.replicate (k+1) a++List.replicate (N-(k+1)) c:=by
 rw [show N-k=(N-(k+1))+1 by omega,List.replicate_succ,List.set_append_right _ _ (by simp)]
 simp only [List.length_replicate,Nat.sub_self,List.set_cons_zero]
 rw [List.replicate_succ',List.append_assoc];rfl
theorem Br {ck n:Int} (hn:0≤n∧n≤100000) (d13:jY) (d16:gQ) :
  g.jU ck n d13 d16=some (((some d13.length),()),((cat d13 [(ck,some d16.length)]),((cat d16 [some (List.replicate (n / 8).toNat true)]),()))):=by
 have q1:iS .i64 n 8=n / 8:=a_ (by omega)
 have e1:∀d,nth d (cat d13 [(ck,some (len d16))]) (len d13)=(ck,some (len d16)):=fun d=>sq
 unfold g.jU
 rw [q1]
 generalize hN:(n / 8).toNat=N
 have hNb:N≤100000:=by omega
 have hnN:nN (n / 8)=N:=hN
 rw [hnN]
 repeat refine HS ?_
 refine dJ (fun k=>(((k:Int),()),((),((),((),((cat d16 [some (List.replicate k true++List.replicate (N-k) false)]),())))))) (fun _=>some (((some d13.length),()),((cat d13 [(ck,some d16.length)]),((cat d16 [some (List.replicate N true)]),())))) N (by unfold lG;omega) (fun F=>?_) (fun k hk=>.inr ⟨rfl,fun F=>?_⟩)
 ·have h3:aD (cat d16 [some (List.replicate N true++List.replicate (N-N) false)]) (len d16)=some (List.replicate N true++List.replicate (N-N) false):=dw
  have hl:(List.replicate N true++List.replicate (N-N) false).length=N:=by simp
  unfold g.j8
  dsimp only
  simp only [e1]
  repeat refine HS ?_
  rw [Nat.sub_self]
  simp only [List.replicate_zero,List.append_nil]
  rfl
 ·have h3:aD (cat d16 [some (List.replicate k true++List.replicate (N-k) false)]) (len d16)=some (List.replicate k true++List.replicate (N-k) false):=dw
  have hl:(List.replicate k true++List.replicate (N-k) false).length=N:=by simp;omega
  unfold g.j8
  dsimp only
  simp only [e1]
  rw [uz (by omega)]
  repeat refine HS ?_
  rw [uV,←Gt hk]
  rfl
abbrev NwS:Type:=((Int×Unit)×(Unit×(Unit×(Unit×(kD×(hZ×(T4×Unit)))))))
def T_ (i:Int) (d12:kD) (d14:hZ) (d15:T4):NwS:=((i,()),((),((),((),(d12,(d14,(d15,())))))))
abbrev NwR:Type:=(((Option Nat)×Unit)×(kD×(jY×(hZ×(T4×(gQ×Unit))))))
theorem TC {fr sz:Int} (h:0≤fr∧fr%8=0∧0≤sz∧sz%8=0):GB fr (fr+sz) (List.replicate (sz / 8).toNat true) (if 0<sz then [(fr,sz)] else []):=by
 refine ⟨by rw [List.length_replicate];omega,?_,fun i hi=>?_⟩
 ·split
  ·exact List.pairwise_singleton _ _
  ·exact List.Pairwise.nil
 ·rw [List.length_replicate] at hi
  rw [if_pos (by omega),qq,zA,List.getElem?_replicate,if_pos hi]
  simp only [Option.getD_some,true_iff]
  omega
theorem Bn {p:rM} (hp:dL p=true) (d12:kD) (d13:jY) (d14:hZ) (d15:T4) (d16:gQ) (f:List (List h_)) :
  ∃y:YN,∃wD L3 sU sT AP,g.jQ p d12 d13 d14 d15 d16=some (((some y.s),()),(wD,(L3,(sU,(sT,(AP,()))))))∧uS y (M.new p f).fr (M.new p f).en (M.new p f).sc (M.new p f).fl wD L3 sU sT AP:=by
 have Sn:=da.1 hp
 have hI:=tI hp
 have hH:=yS hp
 have hG:=Br (ck:=p.1*64+p.2.2.1) (n:=p.2.2.2) (by omega) d13 d16
 let Q:Option NwR→Prop:=fun R=>∃y:YN,∃wD L3 sU sT AP,R=some (((some y.s),()),(wD,(L3,(sU,(sT,(AP,()))))))∧uS y (M.new p f).fr (M.new p f).en (M.new p f).sc (M.new p f).fl wD L3 sU sT AP
 show Q _
 unfold g.jQ
 refine JE (fun r (st:NwS)=>∃(i:Nat) (wD:kD) (sU:hZ) (sT:T4),r+i=p.1.toNat∧st=T_ (i:Int) wD sU sT ∧
   ((i=0∧wD[d12.length]?=some (none,(none,none)))∨(0<i∧∃c x,wD[d12.length]?=some (some c,(some x,none))∧aD sU c=some (List.replicate i (0,(0,(-1,0))))∧aD sT x=some (List.replicate i (0,0))))) Q ?_ (m:=p.1.toNat)
  ⟨0,cat d12 [(none,(none,none))],d14,d15,by omega,rfl,.inl ⟨rfl,by simp [cat]⟩⟩ (by unfold lG;omega)
 rintro r st ⟨i,wD,sU,sT,hri,rfl,qN⟩
 have hld:len d12=d12.length:=rfl
 by_cases eh:i<p.1.toNat
 ·refine .inr ⟨r-1,?_⟩
  rcases qN with ⟨h0,h1⟩ | ⟨h0,c,x,h1,h2,h3⟩
  ·have e1:∀d,nth d wD d12.length=(none,(none,none)):=fun d=>bj h1
   have en:∀f:(Option Nat×(Option Nat×Option Nat))→_,nth (none,(none,none)) (aw (none,(none,none)) wD d12.length f) d12.length=f (none,(none,none)):=fun f=>by
    unfold aw;rw [e1];exact bj (jZ h1)
   refine ⟨T_ ((i+1:Nat):Int) (aw (none,(none,none)) wD d12.length (fun r=>(some sU.length,(some sT.length,r.2.2)))) (cat sU [some [(0,(0,(-1,0)))]]) (cat sT [some [(0,0)]]),by omega,⟨i+1,_,_,_,by omega,rfl,.inr ⟨by omega,sU.length,sT.length,?_,?_,?_⟩⟩,fun G=>?_⟩
   ·unfold aw;rw [e1];exact jZ h1
   ·rw [h0];exact dw
   ·rw [h0];exact dw
   ·unfold g.ij T_
    dsimp only
    simp only [hld,e1,l9,en]
    rw [uz (by omega)]
    repeat refine HS ?_
    rfl
  ·have e1:∀d,nth d wD d12.length=(some c,(some x,none)):=fun d=>bj h1
   have en:∀f:(Option Nat×(Option Nat×Option Nat))→_,nth (none,(none,none)) (aw (none,(none,none)) wD d12.length f) d12.length=f (some c,(some x,none)):=fun f=>by
    unfold aw;rw [e1];exact bj (jZ h1)
   have Un:(List.replicate i ((0,(0,(-1,0))):Int×Int×Int×Int)).length=i:=List.length_replicate
   have wh:(List.replicate i ((0,0):Int×Int)).length=i:=List.length_replicate
   have tU:=j5 h2
   have hxl:=j5 h3
   refine ⟨T_ ((i+1:Nat):Int) (aw (none,(none,none)) wD d12.length (fun r=>(some (len (aU sU c none)),(some (len (aU sT x none)),r.2.2)))) (cat (aU sU c none) [some (cat (List.replicate i (0,(0,(-1,0)))) [(0,(0,(-1,0)))])]) (cat (aU sT x none) [some (cat (List.replicate i (0,0)) [(0,0)])]),by omega,⟨i+1,_,_,_,by omega,rfl,.inr ⟨by omega,len (aU sU c none),len (aU sT x none),?_,?_,?_⟩⟩,fun G=>?_⟩
   ·unfold aw;rw [e1];exact jZ h1
   ·rw [List.replicate_succ'];exact dw
   ·rw [List.replicate_succ'];exact dw
   ·unfold g.ij T_
    dsimp only
    simp only [hld,e1,l9,en]
    rw [uz (by omega)]
    repeat refine HS ?_
    rfl
 ·rcases qN with ⟨h0,h1⟩ | ⟨h0,c,x,h1,h2,h3⟩
  ·omega
  ·have hip:(i:Int)=p.1:=by omega
   obtain ⟨i',rfl⟩:∃i',i=i'+1:=⟨i-1,by omega⟩
   have e1:∀d,nth d wD d12.length=(some c,(some x,none)):=fun d=>bj h1
   have Un:(List.replicate (i'+1) ((0,(0,(-1,0))):Int×Int×Int×Int)).length=i'+1:=List.length_replicate
   have wh:(List.replicate (i'+1) ((0,0):Int×Int)).length=i'+1:=List.length_replicate
   have hpm:(p.1-1).toNat=i':=by omega
   refine .inl ⟨_,⟨⟨d12.length,c,x,d13.length,d16.length⟩,aw (none,(none,none)) wD d12.length (fun AD=>(AD.1,(AD.2.1,(some d13.length)))),cat d13 [(p.1*64+p.2.2.1,some d16.length)],aU sU c (some (aU (List.replicate (i'+1) (0,(0,(-1,0)))) 0 (2,(1,(-1,0))))),aU sT x (some (aU (List.replicate (i'+1) (0,0)) 0 (p.1*64,p.2.2.1))),cat d16 [some (List.replicate (p.2.2.2 / 8).toNat true)],rfl,?_⟩,fun G=>?_⟩
   ·refine ⟨?_,?_,?_,?_,⟨_,dw,?_⟩⟩
    ·unfold aw;rw [e1];exact jZ h1
    ·show (cat d13 _)[d13.length]?=_
     unfold cat;rw [zJ (by omega)];simp [M.fr,M.new]
    ·rw [aC h2]
     unfold M.new
     simp only [List.map_cons,List.map_replicate,hpm]
     rfl
    ·rw [aC h3]
     unfold M.new
     simp only [List.map_cons,List.map_replicate,hpm]
     rfl
    ·have:=TC (fr:=p.1*64+p.2.2.1) (sz:=p.2.2.2) (by omega)
     exact this
   ·unfold g.ij T_
    dsimp only
    simp only [hld,e1]
    repeat refine HS ?_
    rfl
theorem Ry {p:rM} (hp:dL p=true) (f:List (List h_)) (d11:kZ) (d12:kD) (d13:jY) (d14:hZ) (d15:T4) (d16:gQ) (d17:kS) (d18:dT) :
  ∃b L4 wD L3 sU sT AP,g.iu p f d17 d18 d11 d12 d13 d14 d15 d16=some (((some d11.length),()),(L4,(wD,(L3,(sU,(sT,(AP,())))))))∧YR d11.length (M.new p f) b L4 wD L3 sU sT AP d17 d18∧b.O=[]:=by
 obtain ⟨y,wD,L3,sU,sT,AP,hN,hY⟩:=Bn hp d12 d13 d14 d15 d16 f
 have Sn:=da.1 hp
 have w9:∀s:Int,(M.new p f).bm s=oP:=fun s=>by
  unfold M.bm M.new
  rw [zA,List.getElem?_replicate]
  split<;>rfl
 refine ⟨⟨y,none,[],[0,0,0,0,0,0,0,0],[0,0,0,0,0,0,0,0],[[0,0,0,0],[0,0,0,0],[0,0,0,0],[0,0,0,0]],[[],[],[],[]]⟩,cat d11 [(p,(f,(some y.s,(none,([0,0,0,0,0,0,0,0],([0,0,0,0,0,0,0,0],([[0,0,0,0],[0,0,0,0],[0,0,0,0],[0,0,0,0]],[[],[],[],[]])))))))],wD,L3,sU,sT,AP,?_,⟨?_,hY,⟨fun o ho=>(by cases ho),fun s _ _=>(by rw [w9];rfl)⟩,Nat.zero_le _,.inl ⟨rfl,rfl⟩,fun q hq=>(by cases hq),List.Pairwise.nil,fun s h0 h1=>?_,fun s h0 h1=>?_,fun n h0 h1=>?_,fun n h0 h1=>?_⟩,rfl⟩
 ·unfold g.iu
  repeat refine HS ?_
  rfl
 ·show (cat d11 _)[d11.length]?=_
  unfold cat;rw [zJ (by omega)];simp [M.new]
 ·rw [w9]
  have h1:s<p.1:=h1
  have:s=0∨s=1∨s=2∨s=3∨s=4∨s=5∨s=6∨s=7:=by omega
  rcases this with rfl | rfl | rfl | rfl | rfl | rfl | rfl | rfl<;>rfl
 ·rw [w9]
  have h1:s<p.1:=h1
  have:s=0∨s=1∨s=2∨s=3∨s=4∨s=5∨s=6∨s=7:=by omega
  rcases this with rfl | rfl | rfl | rfl | rfl | rfl | rfl | rfl<;>rfl
 ·have hl:(M.new p f).th.length=p.2.1.toNat:=List.length_replicate
  have ht:(M.new p f).ax n=⟨[0,0,0,0],[]⟩:=by
   unfold M.ax
   show (List.replicate p.2.1.toNat _).getD _ _=_
   rw [zA,List.getElem?_replicate,if_pos (by omega)];rfl
  rw [ht]
  have:n=0∨n=1∨n=2∨n=3:=by omega
  rcases this with rfl | rfl | rfl | rfl<;>rfl
 ·have hl:(M.new p f).th.length=p.2.1.toNat:=List.length_replicate
  have ht:(M.new p f).ax n=⟨[0,0,0,0],[]⟩:=by
   unfold M.ax
   show (List.replicate p.2.1.toNat _).getD _ _=_
   rw [zA,List.getElem?_replicate,if_pos (by omega)];rfl
  rw [ht]
  have:n=0∨n=1∨n=2∨n=3:=by omega
  rcases this with rfl | rfl | rfl | rfl<;>rfl
end Go.Proofs.YtihiooaimdoapaaGreat
namespace Go.jJ
open Go.Bm
def par (m:M) (s:Int):Int:=(ab m.sc s).1.2.2.1
def Fj (m:M) (s:Int):Prop:=0≤s∧s<m.p.1∧(ab m.sc s).1.1=2
def C_ (m:M) (t:Int):Nat→Int→Bool
 | 0,_=>false
 | n+1,s=>if s<0 then false else if s=t then true else C_ m t n (par m s)
def Q7 (m:M) (v s:Int):Prop:=v=0∨((au v).2=0∧(au v).1.1<m.p.1∧m.find (au v).1≠none∧((au v).1.1=0∨C_ m (au v).1.1 9 s=true))
def oR (m:M) (s v:Int):Prop:=v=(m.bm s).gate∨∃o∈(m.bm s).aX,v∈o.aS
def UV (m:M):Prop:=∀s v:Int,0≤s→s<m.p.1→oR m s v→Q7 m v s
theorem Ih {m m':M} {t:Int} {L:Int→Prop} (hL:∀s,L s→par m' s=par m s) (hc:∀s,L s→par m s<0∨L (par m s)):∀(n:Nat) (s:Int),L s→C_ m' t n s=C_ m t n s
 | 0,_,_=>rfl
 | n+1,s,h=>by
  unfold C_
  rw [hL s h]
  rcases hc s h with h1 | h1
  ·have:∀(M:M) (k:Nat),C_ M t k (par m s)=false:=fun M k=>by cases k with
    | zero=>rfl
    | succ k=>unfold C_;rw [if_pos h1]
   rw [this,this]
  ·rw [Ih hL hc n _ h1]
theorem OD {m:M} {t:Int} {L:Int→Prop} (hc:∀s,L s→par m s<0∨L (par m s)):∀(n:Nat) (s:Int),L s→C_ m t n s=true→L t
 | 0,_,_,h=>by cases h
 | n+1,s,hs,h=>by
  unfold C_ at h
  split at h
  ·cases h
  ·split at h
   ·rename_i e;rw [←e];exact hs
   ·rcases hc s hs with h1 | h1
    ·cases n with
     | zero=>cases h
     | succ k=>unfold C_ at h;rw [if_pos h1] at h;cases h
    ·exact OD hc n _ h1 h
theorem UV.of {m m':M} (hp:m'.p=m.p) (L:Int→Prop) (hL:∀s,L s→par m' s=par m s) (hc:∀s,L s→par m s<0∨L (par m s))
  (hf:∀r:iV,0≤r.1→r.1<m.p.1→(r.1=0∨L r.1)→m.find r≠none→m'.find r≠none) (hv:∀s v:Int,0≤s→s<m.p.1→oR m' s v→v=0∨(Q7 m v s∧L s)):UV m':=by
 intro s v h0 h1 CZ
 rw [hp] at h1
 rcases hv s v h0 h1 CZ with h2 | ⟨h2,h3⟩
 ·exact .inl h2
 ·rcases h2 with h2 | ⟨k1,k2,k3,k4⟩
  ·exact .inl h2
  ·have AF:=(cp.1 (fK k1).1).1.1
   refine .inr ⟨k1,by rw [hp];exact k2,?_,?_⟩
   ·refine hf _ AF k2 ?_ k3
    exact k4.imp id (OD hc 9 s h3)
   ·rw [Ih hL hc 9 s h3];exact k4
theorem zk {k:Nat} {m:M} (h:MI k m) (hc:CT m) (hp:PI m):∀s,Fj m s→par m s<0∨Fj m (par m s):=by
 rintro s ⟨h0,h1,h2⟩
 have hz:=h.nX (i:=0) (by have:=h.u9;omega)
 have him:=(h.si.im _ hz).1
 by_cases e:s=0
 ·subst e;unfold par;rw [him];exact .inl (by decide)
 ·have Hm:=(counts h hc hp (s:=s) (by omega)).2.2.2
  by_cases h3:0<par m s
  ·have:=Hm h3;exact .inr ⟨by omega,this.2.1,this.2.2⟩
  ·by_cases h4:par m s=0
   ·rw [h4];exact .inr ⟨Int.le_refl _,by have:=h.u9;omega,by rw [him]⟩
   ·exact .inl (by omega)
theorem pa {k:Nat} {m:M} (h:MI k m) {s v:Int} (h0:0≤s∧s<m.p.1) (hv:oR m s v):v=0∨Fj m s:=by
 by_cases h2:(ab m.sc s).1.1=2
 ·exact .inr ⟨h0.1,h0.2,h2⟩
 ·have:=(h.tq h0).2.id h2
  unfold oR at hv
  rw [this] at hv
  rcases hv with hv | ⟨o,ho,_⟩
  ·exact .inl hv
  ·cases ho
theorem UV.plain {k:Nat} {m m':M} (h:MI k m) (hc:CT m) (hp:PI m) (hu:UV m) (Sl:m'.p=m.p) (hs:∀s,Fj m s→par m' s=par m s) (ha:m'.ar=m.ar):UV m':=by
 have hA:∀s,m'.bm s=m.bm s:=fun s=>by unfold M.bm;rw [ha]
 refine UV.of Sl (Fj m) hs (zk h hc hp) (fun r _ _ _ hr=>by unfold M.find;rw [hA];exact hr) (fun s v h0 h1 hv=>?_)
 have hv:oR m s v:=by unfold oR at hv ⊢;rw [hA] at hv;exact hv
 exact (pa h ⟨h0,h1⟩ hv).imp id fun hl=>⟨hu s v h0 h1 hv,hl⟩
theorem uY {m:M} {a:Int} {y:dW} (ha:0≤a∧a<m.sc.length) (hy:Fj m a→y.1.2.2.1=par m a) {s:Int} (hs:Fj m s):(ab (m.sc.set a.toNat y) s).1.2.2.1=par m s:=by
 rw [kj hs.1]
 split
 ·rename_i e
  have:s=a:=by omega
  subst this
  exact hy hs
 ·rfl
theorem UV.enter {k:Nat} {m:M} (h:MI k m) (hc:CT m) (hp:PI m) (hu:UV m) (n a:Int):UV (m.enter n a).1:=by
 unfold M.enter
 split
 ·exact hu
 rename_i ha
 have ha:1≤a∧a≤m.p.1-1:=by rw [←bF];simpa using ha
 split
 ·exact hu
 split
 ·exact hu
 rename_i _ he
 have he:(cS m.sc a (fun c=>bS c (db (m.ax n).aA))).2=0:=by simpa using he
 refine UV.plain h hc hp hu rfl (fun s hs=>?_) rfl
 have sI:=h.ls
 have e1:lb m.sc 1 a=true:=bX.2 (by omega)
 unfold cS at he
 rw [if_pos e1] at he
 have h0:(bS (ab m.sc a).1 (db (m.ax n).aA)).2=0:=by
  by_cases c:(bS (ab m.sc a).1 (db (m.ax n).aA)).2=0
  ·exact c
  ·rw [if_neg c] at he;exact absurd he c
 have qP:=h.si.cr _ _ (h.nX (i:=a) (by omega))
 obtain ⟨k1,k2⟩:=kf qP h0
 show (ab (cS m.sc a (fun c=>bS c (db (m.ax n).aA))).1 s).1.2.2.1=_
 unfold cS
 rw [if_pos e1,if_pos h0]
 refine uY (by omega) (fun hl=>?_) hs
 rw [k1]
 have wh:(ab m.sc a).1.1=2:=hl.2.2
 rcases k2 with k2 | ⟨_,k2,_⟩
 ·omega
 ·exact k2.symm
theorem UV.lr {k:Nat} {m:M} (h:MI k m) (hc:CT m) (hp:PI m) (hu:UV m) (n a:Int):UV (m.lr n a).1:=by
 unfold M.lr
 split
 ·exact hu
 split
 ·exact hu
 split
 ·exact hu
 exact UV.plain h hc hp hu rfl (fun s hs=>rfl) rfl
theorem UV.c_ {k:Nat} {m:M} (h:MI k m) (hc:CT m) (hp:PI m) (hu:UV m) (n r v:Int):UV (m.fV n r v):=UV.plain h hc hp hu rfl (fun s hs=>rfl) rfl
theorem UV.create {k:Nat} {m:M} (h:MI k m) (hc:CT m) (hp:PI m) (hu:UV m) (a:Int):UV { m with sc:=(bC m.sc m.fl a).1,fl:=(bC m.sc m.fl a).2.1 }:=by
 refine UV.plain h hc hp hu rfl (fun s hs=>?_) rfl
 show (ab (bC m.sc m.fl a).1 s).1.2.2.1=_
 unfold bC
 split
 ·rfl
 ·split
  ·rfl
  ·rename_i i hi
   split
   ·rfl
   ·obtain ⟨x,hx,HW⟩:=gW hi
    have LW:=(zB.1 hx).1
    have LP:ab m.sc (i:Int)=x:=ld hx
    refine uY (a:=(i:Int)) (by omega) (fun hl=>?_) hs
    have:=hl.2.2
    rw [LP,HW] at this;cases this
theorem UV.lE {k:Nat} {m:M} (h:MI k m) (hc:CT m) (hp:PI m) (hu:UV m) (a:Int):UV { m with sc:=(bg m.fr m.en m.sc m.fl a).1,fl:=(bg m.fr m.en m.sc m.fl a).2.1 }:=by
 refine UV.plain h hc hp hu rfl (fun s hs=>?_) rfl
 show (ab (bg m.fr m.en m.sc m.fl a).1 s).1.2.2.1=_
 unfold bg
 split
 ·rfl
 ·rename_i h1
  have h1:1≤a∧a<m.sc.length:=by rw [←bX];simpa using h1
  split
  ·rfl
  ·split
   ·rfl
   ·rename_i h2 h3
    refine uY (by omega) (fun hl=>?_) hs
    have:=hl.2.2
    have h3:(ab m.sc a).1.1=1:=by simpa using h3
    omega
theorem UV.here {k:Nat} {m m':M} (h:MI k m) (hc:CT m) (hp:PI m) (hu:UV m) (Sl:m'.p=m.p) (BX:m'.sc=m.sc)
  (hf:∀r:iV,0≤r.1→r.1<m.p.1→m.find r≠none→m'.find r≠none) (hv:∀s v:Int,0≤s→s<m.p.1→oR m' s v→v=0∨oR m s v∨(Q7 m v s∧Fj m s)):UV m':=by
 refine UV.of Sl (Fj m) (fun s _=>by unfold par;rw [BX]) (zk h hc hp) (fun r h0 h1 _=>hf r h0 h1) (fun s v h0 h1 CZ=>?_)
 rcases hv s v h0 h1 CZ with h2 | h2 | h2
 ·exact .inl h2
 ·exact (pa h ⟨h0,h1⟩ h2).imp id fun hl=>⟨hu s v h0 h1 h2,hl⟩
 ·exact .inr h2
theorem UV.alloc {k:Nat} {m:M} (h:MI k m) (hc:CT m) (hp:PI m) (hu:UV m) {n:Int} (hn:0≤n∧n<m.th.length) (r a b c:Int):UV (m.alloc n r a b c).1:=by
 unfold M.alloc
 split
 ·exact hu
 split
 ·exact hu
 have iH:=h.live hc (M.ko hn) (qx (h.ax hn).2.2)
 have qO:0≤db (m.ax n).aA∧db (m.ax n).aA<m.p.1:=⟨iH.2.2.1,iH.2.2.2⟩
 generalize m.ra n=nr
 generalize db (m.ax n).aA=s at *
 refine UV.here h hc hp hu rfl rfl (fun q h0 h1 hq=>?_) (fun t v h0 h1 hv=>?_)
 ·show ((m.cK s _).bm q.1).aX.find? _≠none
  rw [gI h qO h0]
  split
  ·rename_i e
   rw [List.find?_append]
   unfold M.find at hq
   rw [e] at hq
   cases hh:(m.bm s).aX.find? (fun o=>decide (o.ref=q)) with
   | none=>exact absurd hh hq
   | some o=>simp
  ·exact hq
 ·have hv:oR (m.cK s _) t v:=hv
  unfold oR at hv ⊢
  rw [gI h qO h0] at hv
  by_cases e:t=s
  ·rw [if_pos e] at hv
   subst e
   rcases hv with hv | ⟨o,ho,hv⟩
   ·exact .inr (.inl (.inl hv))
   ·rcases zX.1 ho with ho | ho
    ·exact .inr (.inl (.inr ⟨o,ho,hv⟩))
    ·rcases zF.1 ho with rfl
     exact .inl (List.eq_of_mem_replicate hv)
  ·rw [if_neg e] at hv
   exact .inr (.inl hv)
theorem Cb (o:h_) (sl:List Int):∀v∈(cq o sl).2.1,v=0∨v∈sl:=by
 intro v hv
 unfold cq at hv
 split at hv
 ·exact .inr hv
 ·split at hv
  ·rcases List.mem_or_eq_of_mem_set hv with h | h
   ·exact .inr h
   ·exact .inl h
  ·split at hv
   ·dsimp only at hv
    split at hv
    ·rename_i hc
     rcases List.mem_or_eq_of_mem_set hv with h | h
     ·exact .inr h
     ·rw [h,zA,zD hc.2]
      exact .inr (List.getElem_mem _)
    ·exact .inr hv
   ·split at hv<;>exact .inr hv
theorem yr {ops:List h_}:∀(f a:Nat) (sl sd:List Int) (hd:Bool) (n:Int),∀v∈(ke ops f a sl sd hd n).1,v=0∨v∈sl
 | 0,_,_,_,_,_,v,hv=>.inr hv
 | f+1,a,sl,sd,hd,n,v,hv=>by
  by_cases ha:a<ops.length
  ·rw [oB ha] at hv
   rcases yr f _ _ _ _ _ v hv with h | h
   ·exact .inl h
   ·exact Cb _ _ v h
  ·rw [qo ha] at hv;exact .inr hv
theorem wx (f:List (List h_)):∀(l:List jK),(bM f l).1.map jK.ref=l.map jK.ref∧∀o∈(bM f l).1,∀v∈o.aS,v=0∨∃q∈l,v∈q.aS
 | []=>⟨rfl,fun o ho=>by cases ho⟩
 | q::l=>by
  obtain ⟨h1,h2⟩:=wx f l
  have hr:(dV f q).1.ref=q.ref:=by unfold dV;split<;>rfl
  refine ⟨by unfold bM;rw [List.map_cons,List.map_cons,h1,hr],fun o ho v hv=>?_⟩
  unfold bM at ho
  rcases List.mem_cons.1 ho with rfl | ho
  ·unfold dV at hv
   split at hv
   ·exact .inr ⟨q,zV ..,hv⟩
   ·rcases yr _ _ _ _ _ _ v hv with h | h
    ·exact .inl h
    ·exact .inr ⟨q,zV ..,h⟩
  ·exact (h2 o ho v hv).imp id fun ⟨p,hp,hv⟩=>⟨p,zT _ hp,hv⟩
theorem yn {l l':List jK} (h:l'.map jK.ref=l.map jK.ref) {r:iV} (hf:l.find? (fun o=>decide (o.ref=r))≠none):l'.find? (fun o=>decide (o.ref=r))≠none:=by
 intro hn
 rw [List.find?_eq_none] at hn
 apply hf
 rw [List.find?_eq_none]
 intro o ho hd
 have:o.ref∈l'.map jK.ref:=by rw [h];exact List.mem_map.2 ⟨o,ho,rfl⟩
 obtain ⟨q,hq,e⟩:=List.mem_map.1 this
 have h2:=hn q hq
 rw [decide_eq_true_eq] at hd
 rw [decide_eq_true_eq,e] at h2
 exact h2 hd
theorem UV.fin {k:Nat} {m:M} (h:MI k m) (hc:CT m) (hp:PI m) (hu:UV m) {s:Int} (hs:0≤s∧s<m.p.1):UV (m.cK s { m.bm s with aX:=(bM m.f (m.bm s).aX).1 }):=by
 obtain ⟨h1,h2⟩:=wx m.f (m.bm s).aX
 refine UV.here h hc hp hu rfl rfl (fun q h0 _ hq=>?_) (fun t v h0 _ hv=>?_)
 ·show ((m.cK s _).bm q.1).aX.find? _≠none
  rw [gI h hs h0]
  split
  ·rename_i e
   unfold M.find at hq
   rw [e] at hq
   exact yn h1 hq
  ·exact hq
 ·unfold oR at hv ⊢
  rw [gI h hs h0] at hv
  by_cases e:t=s
  ·rw [if_pos e] at hv
   subst e
   rcases hv with hv | ⟨o,ho,hv⟩
   ·exact .inr (.inl (.inl hv))
   ·exact (h2 o ho v hv).imp id fun ⟨p,hp,hv⟩=>.inl (.inr ⟨p,hp,hv⟩)
  ·rw [if_neg e] at hv
   exact .inr (.inl hv)
theorem UV.leave {k:Nat} {m:M} (h:MI k m) (hc:CT m) (hp:PI m) (hu:UV m) {n s:Int} {l:List cR} {a:L9} (h1:1≤s∧s<m.p.1) (h2:(ab m.sc s).1.1=2)
  (h':MI k (m.leave n s l a).1) (HZ:CT (m.leave n s l a).1) (yg:PI (m.leave n s l a).1):UV (m.leave n s l a).1:=by
 have sI:=h.ls
 have qP:=h.si.cr _ _ (h.nX (i:=s) (by omega))
 have he:=M.mu (m:=m) (n:=n) (l:=l) (a:=a) h1.1 (by omega) qP h2
 rw [he] at h' HZ yg ⊢
 by_cases h3:(ab m.sc s).1.2.1=1
 ·rw [if_pos h3] at h' HZ yg ⊢
  have w9:∀t:Int,0≤t→((M.cK { m with sc:=m.sc.set s.toNat ((1,0,-1,b6 (ab m.sc s).1.2.2.2),(ab m.sc s).2) } s oP).cD n l).bm t=if t=s then oP else m.bm t:=fun t h0=>by
   have Sr:=h.la
   show ((m.ar.set s.toNat oP).getD t.toNat oP)=_
   rw [zA,List.getElem?_set]
   by_cases e:t=s
   ·subst e;rw [if_pos rfl,if_pos (by omega),if_pos rfl];rfl
   ·rw [if_neg (by omega),if_neg e];show m.ar[t.toNat]?.getD oP=m.ar.getD t.toNat oP;rw [zA]
  have LP:∀t:Int,0≤t→ab ((M.cK { m with sc:=m.sc.set s.toNat ((1,0,-1,b6 (ab m.sc s).1.2.2.2),(ab m.sc s).2) } s oP).cD n l).sc t=if t=s then ((1,0,-1,b6 (ab m.sc s).1.2.2.2),(ab m.sc s).2) else ab m.sc t:=fun t h0=>by
   show ab (m.sc.set s.toNat _) t=_
   rw [kj h0]
   by_cases e:t=s
   ·rw [if_pos e,if_pos (by omega)]
   ·rw [if_neg e,if_neg (by omega)]
  have Kd:∀t,Fj ((M.cK { m with sc:=m.sc.set s.toNat ((1,0,-1,b6 (ab m.sc s).1.2.2.2),(ab m.sc s).2) } s oP).cD n l) t→t≠s:=fun t ht e=>by
   have:=ht.2.2
   rw [LP t ht.1,if_pos e] at this;cases this
  have Zl:∀t,Fj ((M.cK { m with sc:=m.sc.set s.toNat ((1,0,-1,b6 (ab m.sc s).1.2.2.2),(ab m.sc s).2) } s oP).cD n l) t→par ((M.cK { m with sc:=m.sc.set s.toNat ((1,0,-1,b6 (ab m.sc s).1.2.2.2),(ab m.sc s).2) } s oP).cD n l) t=par m t:=fun t ht=>by
   unfold par;rw [LP t ht.1,if_neg (Kd t ht)]
  refine UV.of (m:=m) rfl _ Zl (fun t ht=>?_) (fun r h0 hr1 hr hq=>?_) (fun t v h0 Nl hv=>?_)
  ·rw [←Zl t ht];exact zk h' HZ yg t ht
  ·have:r.1≠s:=by
    rcases hr with hr | hr
    ·omega
    ·exact Kd _ hr
   unfold M.find
   rw [w9 _ h0,if_neg this];exact hq
  ·have hl:=pa h' (s:=t) ⟨h0,Nl⟩ hv
   rcases hl with hl | hl
   ·exact .inl hl
   ·refine .inr ⟨?_,hl⟩
    unfold oR at hv
    rw [w9 t h0,if_neg (Kd t hl)] at hv
    exact hu t v h0 Nl hv
 ·rw [if_neg h3]
  refine UV.plain h hc hp hu rfl (fun t ht=>?_) rfl
  show (ab (m.sc.set s.toNat ((2,(ab m.sc s).1.2.1-1,(ab m.sc s).1.2.2.1,(ab m.sc s).1.2.2.2),(ab m.sc s).2)) t).1.2.2.1=_
  exact uY (a:=s) (by omega) (fun _=>by rfl) ht
theorem UV.exit {k:Nat} {m:M} (h:MI k m) (hc:CT m) (hp:PI m) (hu:UV m) {n:Int} (hn:0≤n∧n<m.th.length):UV (m.exit n).1:=by
 have hE:=h.exit hc hn
 have Kr:=CT.exit h hc hn
 have NH:PI (m.exit n).1:=PI.exit h hc hp.1 hp.2 hn
 unfold M.exit at hE Kr NH ⊢
 cases hx:(m.ax n).aA.getLast? with
 | none=>exact hu
 | some x=>
  obtain ⟨s,b⟩:=x
  rw [hx] at hE Kr NH
  cases b with
  | false=>exact UV.plain h hc hp hu rfl (fun s hs=>rfl) rfl
  | true=>
   have hm:(s,true)∈(m.ax n).aA:=List.mem_of_getLast? hx
   have iH:=h.live hc (M.ko hn) (.inr hm)
   have h1:=((h.ax hn).2.2.Dp _ hm).2.2 rfl
   have h1:1≤s:=h1
   have sI:=h.ls
   dsimp only at hE Kr NH ⊢
   rw [if_neg (by simp)] at hE Kr NH ⊢
   split
   ·rename_i c1
    rw [if_pos c1] at hE Kr NH
    have hF:=UV.fin h hc hp hu (s:=s) ⟨iH.2.2.1,iH.2.2.2⟩
    split
    ·exact hF
    ·rename_i c2
     rw [if_neg c2] at hE Kr NH
     have B1:=(h.qW (i:=s) ⟨iH.2.2.1,iH.2.2.2⟩ ((h.tq (i:=s) ⟨iH.2.2.1,iH.2.2.2⟩).2.fin m.f))
     exact UV.leave B1 (hc.cK s _) ⟨hp.1,hp.2⟩ hF ⟨h1,iH.2.2.2⟩ iH.2.1 hE Kr NH
   ·rename_i c1
    rw [if_neg c1] at hE Kr NH
    exact UV.leave h hc hp hu ⟨h1,iH.2.2.2⟩ iH.2.1 hE Kr NH
theorem uy:∀{l:List cR} {s:Int} {i:Nat},iF l s=some i→∃B,l=l.take i++(s,true)::B
 | [],_,_,h=>by cases h
 | e::l,s,i,h=>by
  unfold iF at h
  split at h
  ·rename_i he
   injection h with h
   subst h
   exact ⟨l,by rw [he];rfl⟩
  ·cases hh:iF l s with
   | none=>rw [hh] at h;cases h
   | some j=>
    rw [hh] at h
    have h:j+1=i:=by simpa using h
    subst h
    obtain ⟨B,hB⟩:=uy hh
    exact ⟨B,by rw [List.take_succ_cons,List.cons_append,←hB]⟩
theorem CL {k:Nat} {m:M} (h:MI k m) (hp:PI m) {n:Int} (hn:0≤n∧n<m.th.length) {t:Int} (ht:0≤t):∀(j:Nat) (b:Int),(b=0∨(b,true)∈(m.ax n).aA)→kR (m.ax n).aA t j b=true→C_ m t j b=true
 | 0,_,_,h=>by cases h
 | j+1,b,hb,ha=>by
  have LZ:=(h.ax hn).2.2
  have hb0:0≤b:=by
   rcases hb with hb | hb
   ·omega
   ·exact (LZ.Dp _ hb).1
  unfold kR at ha
  unfold C_
  rw [if_neg (by omega)]
  by_cases e:b=t
  ·rw [if_pos e]
  ·rw [if_neg e] at ha ⊢
   cases hE:iF (m.ax n).aA b with
   | none=>
    have:parent (m.ax n).aA b = -1:=by unfold parent;rw [hE]
    rw [this] at ha
    have:∀i,kR (m.ax n).aA t i (-1)=false:=fun i=>by
     have Sl:parent (m.ax n).aA (-1) = -1:=by
      unfold parent
      cases hq:iF (m.ax n).aA (-1) with
      | none=>rfl
      | some i=>
       have:=tY.1 (by rw [hq];rfl:(iF (m.ax n).aA (-1)).isSome=true)
       have:=(LZ.Dp _ this).1
       simp at this
     induction i with
     | zero=>rfl
     | succ i ih=>unfold kR;rw [if_neg (by omega),Sl,ih]
    rw [this] at ha;cases ha
   | some i=>
    obtain ⟨B,hB⟩:=uy hE
    have hpa:parent (m.ax n).aA b=db ((m.ax n).aA.take i):=by unfold parent;rw [hE]
    have hpt:=hp.2 _ (M.ko hn) _ _ _ hB
    have e2:par m b=parent (m.ax n).aA b:=by rw [hpa];exact hpt
    rw [e2]
    refine CL h hp hn ht j _ ?_ ha
    rw [hpa]
    have hA:rE m.p ((m.ax n).aA.take i):=by
     refine ⟨by have:=LZ.len;rw [List.length_take];omega,fun e he=>LZ.Dp e (List.mem_of_mem_take he),fun A C s' hs=>?_⟩
     exact LZ.AX A (C++(m.ax n).aA.drop i) s' (by rw [←List.cons_append,←List.append_assoc,←hs,zP])
    exact (qx hA).imp id List.mem_of_mem_take
theorem Q7.put {k:Nat} {m:M} (h:MI k m) (hp:PI m) {n:Int} (hn:0≤n∧n<m.th.length) {v s:Int} (hs:reach (m.ax n).aA s=true) {o:jK} (hc:(m.check (m.ax n).aA v).1=some o) (ha:nL (m.ax n).aA o.ref.1 s=true):Q7 m v s:=by
 obtain ⟨_,h1,h2,h3,h4,h5⟩:=M.gf hc
 have AF:=(cp.1 (fK h1).1).1.1
 have ho:o.ref=(au v).1:=by
  unfold M.find at h5
  have:=List.find?_some h5
  simpa using this
 refine .inr ⟨h1,h2,by rw [h5];simp,?_⟩
 rw [ho] at ha
 unfold nL at ha
 rw [Bool.or_eq_true,decide_eq_true_eq] at ha
 exact ha.imp id fun ha=>CL h hp hn AF 9 s (qe.1 hs) ha
theorem UV.put {k:Nat} {m to:M} (h:MI k m) (hp:PI m) (hu:UV m) {n:Int} (hn:0≤n∧n<m.th.length) {v s:Int} (hs:reach (m.ax n).aA s=true) (ht:Q7 m v s→UV to):UV (m.put (m.ax n).aA v s to).1:=by
 unfold M.put
 split
 ·rename_i e;exact ht (.inl e)
 ·split
  ·exact hu
  ·cases hc:(m.check (m.ax n).aA v).1 with
   | none=>exact hu
   | some o=>
    dsimp only
    split
    ·exact hu
    ·rename_i e;exact ht (Q7.put h hp hn hs hc (by simpa using e))
theorem xV {k:Nat} {m:M} (h:MI k m) (hc:CT m) {n:Int} (hn:0≤n∧n<m.th.length) {s:Int} (hs:reach (m.ax n).aA s=true):Fj m s:=by
 have iH:=h.live hc (M.ko hn) (qe.1 hs)
 exact ⟨iH.2.2.1,iH.2.2.2,iH.2.1⟩
theorem UV.store {k:Nat} {m:M} (h:MI k m) (hc:CT m) (hp:PI m) (hu:UV m) {n:Int} (hn:0≤n∧n<m.th.length) (g v b:Int):UV (m.store n g v b).1:=by
 unfold M.store
 split
 ·exact hu
 ·cases FB:(m.check (m.ax n).aA (m.c_ n g)).1 with
  | none=>exact hu
  | some o=>
   obtain ⟨_,h1,h2,h3,h4,h5⟩:=M.gf FB
   have ho:o.ref=(au (m.c_ n g)).1:=by
    unfold M.find at h5
    have:=List.find?_some h5
    simpa using this
   have hs:reach (m.ax n).aA o.ref.1=true:=by rw [ho];exact h3
   have hl:=xV h hc hn hs
   dsimp only
   split
   ·exact hu
   ·refine UV.put h hp hu hn hs fun hU=>?_
    refine UV.here h hc hp hu rfl rfl (fun q h0 _ hq=>?_) (fun t w h0 Nl hv=>?_)
    ·show ((m.setObj o.ref _).bm q.1).aX.find? _≠none
     rw [tD]
     refine yn ?_ hq
     rw [List.map_map]
     refine List.map_congr_left fun p _=>?_
     show (if p.ref=o.ref then ({ p with aS:=_ }:jK) else p).ref=p.ref
     split<;>rfl
    ·have Ur:((m.setObj o.ref fun o=>{ o with aS:=o.aS.set b.toNat (m.c_ n v) }).bm t).gate=(m.bm t).gate:=by
      unfold M.setObj M.bm
      simp only
      rw [zA,zA,zL]
      cases m.ar[t.toNat]? with
      | none=>rfl
      | some a=>rfl
     rcases hv with hv | ⟨p,Ui,hv⟩
     ·rw [Ur] at hv;exact .inr (.inl (.inl hv))
     ·rw [tD] at Ui
      obtain ⟨q,hq,rfl⟩:=List.mem_map.1 Ui
      by_cases e:q.ref=o.ref
      ·rw [if_pos e] at hv
       rcases List.mem_or_eq_of_mem_set hv with hv | hv
       ·exact .inr (.inl (.inr ⟨q,hq,hv⟩))
       ·have fN:=(h.tq ⟨h0,Nl⟩).2.ob q hq
        have:q.ref.1=t:=by have:=fN.1;omega
        rw [e] at this
        rw [hv,←this]
        exact .inr (.inr ⟨hU,hl⟩)
      ·rw [if_neg e] at hv
       exact .inr (.inl (.inr ⟨q,hq,hv⟩))
theorem UV.gate {k:Nat} {m:M} (h:MI k m) (hc:CT m) (hp:PI m) (hu:UV m) {n:Int} (hn:0≤n∧n<m.th.length) (v a:Int):UV (m.gate n v a).1:=by
 unfold M.gate
 split
 ·exact hu
 split
 ·exact hu
 rename_i _ hs
 have hs:reach (m.ax n).aA a=true:=by simpa using hs
 have hl:=xV h hc hn hs
 refine UV.put h hp hu hn hs fun hU=>?_
 refine UV.here h hc hp hu rfl rfl (fun q h0 _ hq=>?_) (fun t w h0 Nl hv=>?_)
 ·show ((m.cK a _).bm q.1).aX.find? _≠none
  rw [gI h ⟨hl.1,hl.2.1⟩ h0]
  split
  ·rename_i e
   unfold M.find at hq
   rw [e] at hq;exact hq
  ·exact hq
 ·unfold oR at hv ⊢
  rw [gI h ⟨hl.1,hl.2.1⟩ h0] at hv
  by_cases e:t=a
  ·rw [if_pos e] at hv
   rcases hv with hv | hv
   ·rw [hv,e];exact .inr (.inr ⟨hU,hl⟩)
   ·rw [e];exact .inr (.inl (.inr hv))
  ·rw [if_neg e] at hv
   exact .inr (.inl hv)
theorem UV.act {k:Nat} {m:M} (h:MI k m) (hc:CT m) (hp:PI m) (hu:UV m) {n:Int} (hn:0≤n∧n<m.th.length) (c:oZ):UV (m.act n c).1:=by
 obtain ⟨op,r,g,v,a,b,t⟩:=c
 refine cw (fun o:Out=>UV o.1) (fun _=>hu) fun _=>?_
 refine cw (fun o:Out=>UV o.1) (fun _=>UV.c_ h hc hp hu n r _) fun _=>?_
 refine cw (fun o:Out=>UV o.1) (fun _=>UV.create h hc hp hu a) fun _=>?_
 refine cw (fun o:Out=>UV o.1) (fun _=>UV.lE h hc hp hu a) fun _=>?_
 refine cw (fun o:Out=>UV o.1) (fun _=>UV.enter h hc hp hu n a) fun _=>?_
 refine cw (fun o:Out=>UV o.1) (fun _=>UV.exit h hc hp hu hn) fun _=>?_
 refine cw (fun o:Out=>UV o.1) (fun _=>UV.lr h hc hp hu n a) fun _=>?_
 refine cw (fun o:Out=>UV o.1) (fun _=>UV.alloc h hc hp hu hn r a b t) fun _=>?_
 refine cw (fun o:Out=>UV o.1) (fun _=>?_) fun _=>?_
 ·unfold M.load
  split
  ·exact hu
  ·cases (m.check (m.ax n).aA (m.c_ n g)).1 with
   | none=>exact hu
   | some o=>
    dsimp only
    split
    ·exact hu
    ·exact UV.c_ h hc hp hu n r _
 refine cw (fun o:Out=>UV o.1) (fun _=>UV.store h hc hp hu hn g v b) fun _=>?_
 refine cw (fun o:Out=>UV o.1) (fun _=>?_) fun _=>?_
 ·unfold M.gm
  split
  ·exact hu
  split
  ·exact hu
  ·exact UV.c_ h hc hp hu n r _
 exact cw (fun o:Out=>UV o.1) (fun _=>UV.gate h hc hp hu hn v a) fun _=>hu
theorem UV.step {k:Nat} {m:M} (h:MI k m) (hc:CT m) (hp:PI m) (hu:UV m) (n:Int) (c:oZ):UV (m.step n c).1:=by
 unfold M.step
 split
 ·exact hu
 ·rename_i hn
  have hn:0≤n∧n≤(m.th.length:Int)-1:=by rw [←bF];simpa using hn
  split
  ·exact hu
  ·exact UV.act h hc hp hu ⟨hn.1,by omega⟩ c
theorem UV.new (p:rM) (f:List (List h_)):UV (M.new p f):=by
 intro s v h0 h1 hv
 have w9:(M.new p f).bm s=oP:=by
  unfold M.bm M.new
  rw [zA,List.getElem?_replicate]
  split<;>rfl
 unfold oR at hv
 rw [w9] at hv
 rcases hv with hv | ⟨o,ho,_⟩
 ·exact .inl hv
 ·cases ho
end Go.jJ
namespace Go.Proofs.YtihiooaimdoapaaGreat
open Go.Bm Go.jJ
theorem Qo (m:M) (aA:List cR) (v:Int) (scope:Int) (to:M) (h:to.p=m.p):(m.put aA v scope to).1.p=m.p:=by
 unfold M.put
 split
 ·exact h
 ·split
  ·rfl
  ·cases (m.check aA v).1 with
   | none=>rfl
   | some o=>
    dsimp only
    split
    ·rfl
    ·exact h
theorem MG (m:M) (n a:Int):(m.enter n a).1.p=m.p:=by
 unfold M.enter
 split
 ·rfl
 ·split
  ·rfl
  ·split<;>rfl
theorem EZ (m:M) (n s:Int) (l:List cR) (a:L9):(m.leave n s l a).1.p=m.p:=by
 unfold M.leave
 split<;>rfl
theorem RH (m:M) (n:Int):(m.exit n).1.p=m.p:=by
 unfold M.exit
 cases (m.ax n).aA.getLast? with
 | none=>rfl
 | some x=>
  dsimp only
  split
  ·rfl
  ·split
   ·split
    ·rfl
    ·exact EZ _ _ _ _ _
   ·exact EZ _ _ _ _ _
theorem RF (m:M) (n a:Int):(m.lr n a).1.p=m.p:=by
 unfold M.lr
 split
 ·rfl
 ·split
  ·rfl
  ·split<;>rfl
theorem MH (m:M) (n r a b c:Int):(m.alloc n r a b c).1.p=m.p:=by
 unfold M.alloc
 split
 ·rfl
 ·split<;>rfl
theorem RE (m:M) (n r h b:Int):(m.load n r h b).1.p=m.p:=by
 unfold M.load
 split
 ·rfl
 ·cases (m.check (m.ax n).aA (m.c_ n h)).1 with
  | none=>rfl
  | some o=>dsimp only;split<;>rfl
theorem MF (m:M) (n h v b:Int):(m.store n h v b).1.p=m.p:=by
 unfold M.store
 split
 ·rfl
 ·cases (m.check (m.ax n).aA (m.c_ n h)).1 with
  | none=>rfl
  | some o=>
   dsimp only
   split
   ·rfl
   ·exact Qo _ _ _ _ _ rfl
theorem Jc (m:M) (n r a:Int):(m.gm n r a).1.p=m.p:=by
 unfold M.gm
 split
 ·rfl
 ·split<;>rfl
theorem RG (m:M) (n v a:Int):(m.gate n v a).1.p=m.p:=by
 unfold M.gate
 split
 ·rfl
 ·split
  ·rfl
  ·exact Qo _ _ _ _ _ rfl
theorem YL (m:M) (n:Int) (c:oZ):(m.act n c).1.p=m.p:=by
 obtain ⟨op,r,h,v,a,b,d⟩:=c
 unfold M.act
 dsimp only
 by_cases h0:op=0
 ·rw [if_pos h0];rfl
 rw [if_neg h0]
 by_cases h1:op=1
 ·rw [if_pos h1];rfl
 rw [if_neg h1]
 by_cases h2:op=2
 ·rw [if_pos h2]
 rw [if_neg h2]
 by_cases h3:op=3
 ·rw [if_pos h3];rfl
 rw [if_neg h3]
 by_cases h4:op=4
 ·rw [if_pos h4];exact MG _ _ _
 rw [if_neg h4]
 by_cases h5:op=5
 ·rw [if_pos h5];exact RH _ _
 rw [if_neg h5]
 by_cases h6:op=6
 ·rw [if_pos h6];exact RF _ _ _
 rw [if_neg h6]
 by_cases h7:op=7
 ·rw [if_pos h7];exact MH _ _ _ _ _ _
 rw [if_neg h7]
 by_cases h8:op=8
 ·rw [if_pos h8];exact RE _ _ _ _ _
 rw [if_neg h8]
 by_cases h9:op=9
 ·rw [if_pos h9];exact MF _ _ _ _ _
 rw [if_neg h9]
 by_cases C5:op=10
 ·rw [if_pos C5];exact Jc _ _ _ _
 rw [if_neg C5]
 by_cases FD:op=11
 ·rw [if_pos FD];exact RG _ _ _ _
 rw [if_neg FD];rfl
theorem RD (m:M) (n:Int) (c:oZ):(m.step n c).1.p=m.p:=by
 unfold M.step
 split
 ·rfl
 ·split
  ·rfl
  ·exact YL m n c
theorem vX {α σ:Type} {f:(σ→Option α)→σ→Option α} (I:Nat→σ→Prop) (Q:Option α→Prop) (h:∀m s,I m s→∀g,(∀m' s',m' < m→I m' s'→Q (g s'))→Q (f g s)) {m:Nat} {s:σ} (hs:I m s) (hm:m<lG):Q (Go.Bm.loop f s):=by
 rw [qj]
 have key:∀n m s,m<n→I m s→Q (iter f n s):=by
  intro n
  induction n with
  | zero=>intro m s hm _;omega
  | succ n ih=>intro m s hm hI;exact h m s hI (iter f n) (fun m' s' B1 H3=>ih m' s' (by omega) H3)
 exact key lG m s hm hs
abbrev Stp:Type:=Int×oZ
def oi (m:M) (V:Int):List Int×Bool:=if (au V).2≠0 then ([],false) else match m.find (au V).1 with
 | none=>([],false)
 | some o=>(o.aS,true)
theorem B_ {m:M} {k:Nat} (hi:MI k m) {r:iV} (h:m.p.1≤r.1):m.find r=none:=by
 have Sr:=hi.la
 unfold M.find M.bm
 rw [zA,zb (by omega)];rfl
section
variable {c0:T0} {c1:T1} {d0:T2} {d1:T3} {d2:T4} {d3:T5} {d4:T6} {d5:T7} {d6:T8} {d7:T9} {d8:dT} {md:Nat} {m:M} {k:Nat}
theorem Om (h:St c0 c1 d0 d1 d2 d3 d4 d5 d6 d7 d8 md k m) {V:Int} (hV:u64 V) :
  g.eZ md V c0 c1 d0 d1 d2 d3 d4 d5 d6 d7 d8=some (((oi m V).1,((oi m V).2,())),()):=by
 obtain ⟨⟨N,L,es,hm⟩,hi,hc⟩:=h
 have hU:=nZ hV
 have b5:=wN hm
 have oO:nth [] d5 N.mp=es:=bj hm.mp
 unfold oi
 by_cases h1:(au V).2=0
 rotate_left
 ·rw [if_pos h1]
  unfold g.eZ
  refine (CI hU).trans ?_
  repeat refine HS ?_
  rfl
 rw [if_neg (by simpa using h1)]
 have h0:0≤(au V).1.1:=(cp.1 (fK h1).1).1.1
 rcases hm.get hi (au V).1 h0 with ⟨g1,g2⟩ | ⟨p,x,j,g1,g2,g3,g4,g6⟩
 ·rw [g1]
  rw [←oO] at g2
  unfold g.eZ
  refine (CI hU).trans ?_
  repeat refine HS ?_
  refine Eq.trans (uj g2) ?_
  rfl
 ·rw [g1]
  obtain ⟨q1,q2⟩:=hm.ob _ _ _ g4
  have hs:x.2.2.aS.length≤6:=by
   have qO:(au V).1.1<m.p.1:=by
    rcases Int.lt_or_le (au V).1.1 m.p.1 with h | h
    ·exact h
    ·rw [B_ hi h] at g1;cases g1
   have:=(hi.tq ⟨h0,qO⟩).2.ob x.2.2 (List.mem_of_find?_eq_some g1)
   exact this.2.2.2.2.2.2.1
  have e8:nth ((0,(0,0)),(0,(none,false))) d6 x.1=(x.2.2.ref,(x.2.2.tag,(some x.2.1,x.2.2.done))):=bj q1
  rw [←oO] at g2
  have uO:g.iq (some x.2.1) d8=some ((x.2.2.aS,()),()):=by
   unfold g.iq
   refine (bc).trans ?_
   refine (CI q2).trans ?_
   unfold g.iK
   repeat refine HS ?_
   rfl
  unfold g.eZ
  refine (CI hU).trans ?_
  repeat refine HS ?_
  refine (sh g2).trans ?_
  repeat refine HS ?_
  rw [e8]
  repeat refine HS ?_
  rfl
end
section
variable {yd:Nat} {m:M} {b:YB} {d11:kZ} {d12:kD} {d13:jY} {d14:hZ} {d15:T4} {d16:gQ} {d17:kS} {d18:dT} {k:Nat}
theorem abR (N:Nat):∀(O:List RO) (K:Nat),(∀o∈O,0≤o.dY∧o.dY<(N:Int))→(∀s:Int,0≤s→s<N→(O.filter (o_ s)).length≤K)→O.length≤N*K:=by
 induction N with
 | zero=>
  intro O K h1 _
  cases O with
  | nil=>simp
  | cons o l=>have:=h1 o (zV ..);omega
 | succ N ih=>
  intro O K h1 h2
  have hk:∀(l:List RO),l.length=(l.filter (o_ (N:Int))).length+(l.filter fun o=>!o_ (N:Int) o).length:=fun l=>by
   induction l with
   | nil=>rfl
   | cons o l LM=>
    cases hh:o_ (N:Int) o with
    | true=>rw [List.filter_cons_of_pos hh,List.filter_cons_of_neg (by simp [hh]),zR,zR];omega
    | false=>rw [List.filter_cons_of_neg (by simp [hh]),List.filter_cons_of_pos (by simp [hh]),zR,zR];omega
  have h3:=hk O
  have h4:=h2 (N:Int) (by omega) (by omega)
  have h5:=ih (O.filter fun o=>!o_ (N:Int) o) K (fun o ho=>by
   obtain ⟨o1,o2⟩:=List.mem_filter.1 ho
   have:=h1 o o1
   have h6:¬o.dY=(N:Int):=fun e=>by rw [eH.2 e] at o2;cases o2
   omega) (fun s h0 hs=>by
   have:=h2 s h0 (by omega)
   rw [List.filter_filter]
   refine Nat.le_trans ?_ this
   exact (List.Sublist.length_le (by
    have:((fun a=>o_ s a && !o_ (N:Int) a):RO→Bool)=fun a=>(fun a=>!o_ (N:Int) a) a && o_ s a:=by funext a;exact Bool.and_comm _ _
    rw [this,←List.filter_filter];exact List.filter_sublist)))
  rw [Nat.succ_mul]
  omega
theorem YR.aed (h:YR yd m b d11 d12 d13 d14 d15 d16 d17 d18) (hi:MI k m):b.O.length≤8*k:=by
 have hp:=hi.u9
 have:=abR m.p.1.toNat b.O k (fun o ho=>by have:=h.ob.rg o ho;omega) (fun s h0 h1=>by
  have h2:=h.ob.ob s h0 (by omega)
  have h3:=(hi.tq (i:=s) (by omega)).2.ol
  rw [←h2,zH] at h3;exact h3)
 have h2:m.p.1.toNat*k≤8*k:=zW k (by omega)
 omega
theorem YJ (h:YR yd m b d11 d12 d13 d14 d15 d16 d17 d18) (hi:MI k m) {V:Int} (hV:u64 V) :
  ∃x,g.dM yd V d11 d12 d13 d14 d15 d16 d17 d18=some ((x,((oi m V).2,())),())∧((x=none∧(oi m V).1=[])∨∃j,x=some j∧aD d18 j=some (oi m V).1):=by
 have hb:=h.nx
 have hU:=kG hV
 have yh:=h.ol
 unfold oi
 by_cases h1:(au V).2=0
 rotate_left
 ·rw [if_pos h1]
  refine ⟨none,?_,.inl ⟨rfl,rfl⟩⟩
  unfold g.dM
  repeat refine HS ?_
  rfl
 rw [if_neg (by simpa using h1)]
 have h0:0≤(au V).1.1:=(cp.1 (fK h1).1).1.1
 by_cases h2:m.p.1≤(au V).1.1
 ·rw [B_ hi h2]
  refine ⟨none,?_,.inl ⟨rfl,rfl⟩⟩
  unfold g.dM
  simp only [hb]
  repeat refine HS ?_
  rfl
 have hF:=Ad h hi (r:=(au V).1) (by omega)
 cases hf:m.find (au V).1 with
 | none=>
  rw [wm h (by omega) hf] at hF
  refine ⟨none,?_,.inl ⟨rfl,rfl⟩⟩
  unfold g.dM
  simp only [hb]
  repeat refine HS ?_
  rfl
 | some o=>
  obtain ⟨i,q,q1,q2,q3,q4,q5,q6⟩:=ru h hi (r:=(au V).1) (by omega) hf
  rw [q6] at hF
  have LW:i<b.O.length:=(zB.1 q1).1
  have wh:(b.O.map ro).length=b.O.length:=zH ..
  obtain ⟨j,w1,w2⟩:∃j,b.o=some j∧aD d17 j=some (b.O.map ro):=by
   rcases h.ow with ⟨_,w2⟩ | w
   ·rw [w2] at q1;simp at q1
   ·exact w
  have Hh:(nth (0,(0,(0,(none,false)))) (b.O.map ro) (nN (i:Int))).2.2.2.1=some q.nm:=by rw [wU q1];rfl
  refine ⟨some q.nm,?_,.inr ⟨q.nm,rfl,by rw [h.sl q (zG q1),q5];rfl⟩⟩
  unfold g.dM
  simp only [hb,w1]
  repeat refine HS ?_
  rfl
theorem RO.right (h:YR yd m b d11 d12 d13 d14 d15 d16 d17 d18) (hi:MI k m) {q:RO} (hq:q∈b.O):eg (q.dY,jL m q.dY,q.pl)=true∧(∀v∈q.aS,u64 v)∧oR m q.dY=oR m q.dY:=by
 have hr:=h.ob.rg q hq
 have:=(hi.tq hr).2.ob (q.qL (jL m q.dY)) (by rw [←h.ob.ob _ hr.1 hr.2];exact List.mem_map.2 ⟨q,List.mem_filter.2 ⟨hq,eH.2 rfl⟩,rfl⟩)
 exact ⟨this.2.2.2.2.1,this.2.2.2.2.2.2.2,rfl⟩
theorem GA (h:YR yd m b d11 d12 d13 d14 d15 d16 d17 d18) (hi:MI k m) {i:Nat} {q:RO} (hq:b.O[i]?=some q) :
  g.dE yd (i:Int) d11 d12 d13 d14 d15 d16 d17 d18=some ((j9 (q.dY,jL m q.dY,q.pl),()),()):=by
 have hb:=h.nx
 have rp:=h.ER
 have qP:=h.sc.cr
 have yh:=h.ol
 have yj:=hi.si.len
 have sI:=hi.ls
 have hr:=h.ob.rg q (zG hq)
 have v9:=(RO.right h hi (zG hq)).1
 have Hg:=cp.1 v9
 have hm1:(m.sc.map (·.1)).length=m.sc.length:=zH ..
 have LW:i<b.O.length:=(zB.1 hq).1
 have wh:(b.O.map ro).length=b.O.length:=zH ..
 obtain ⟨j,w1,w2⟩:∃j,b.o=some j∧aD d17 j=some (b.O.map ro):=by
  rcases h.ow with ⟨_,w2⟩ | w
  ·rw [w2] at hq;simp at hq
  ·exact w
 have hn:=wU hq
 have he:=h.ep hi (s:=q.dY) hr
 have hP:=n4 (r:=(q.dY,jL m q.dY,q.pl)) (by simp only at Hg ⊢;omega)
 unfold iT at hP
 rw [if_pos v9] at hP
 unfold g.dE
 simp only [hb,w1]
 repeat refine HS ?_
 rw [hn]
 simp only [rp]
 have e1:(ro q).1=q.dY:=rfl
 have e2:(ro q).2.1=q.pl:=rfl
 rw [e1,e2]
 repeat refine HS ?_
 rw [he]
 repeat refine HS ?_
 rfl
theorem Ba (h:YR yd m b d11 d12 d13 d14 d15 d16 d17 d18) (hi:MI k m) (yk:CT m) (Sn:PI m) {V s:Int} (hV:u64 V) (hs:V=0∨Fj m s) (hu:Q7 m V s) :
  g.cd yd V s d11 d12 d13 d14 d15 d16 d17 d18=some ((true,()),()):=by
 have hb:=h.nx
 have rp:=h.ER
 have qP:=h.sc.cr
 have yh:=h.ol
 have yj:=hi.si.len
 have sI:=hi.ls
 have hm1:(m.sc.map (·.1)).length=m.sc.length:=zH ..
 have hU:=kG hV
 by_cases hz:V=0
 ·unfold g.cd
  repeat refine HS ?_
  rfl
 have hs:=hs.resolve_left hz
 rcases hu with hu | ⟨u1,u2,u3,u4⟩
 ·exact absurd hu hz
 have h0:0≤(au V).1.1:=(cp.1 (fK u1).1).1.1
 have hF:=Ad h hi (r:=(au V).1) (by omega)
 cases hf:m.find (au V).1 with
 | none=>exact absurd hf u3
 | some o=>
  obtain ⟨i,q,q1,q2,q3,q4,q5,q6⟩:=ru h hi (r:=(au V).1) (by omega) hf
  rw [q6] at hF
  unfold g.cd
  simp only [hb]
  by_cases hr:(au V).1.1=0
  ·repeat refine HS ?_
   rfl
  have u4:=u4.resolve_left hr
  repeat refine HS ?_
  refine vX (fun r (st:((Int×(Int×Unit))×(Unit×(Unit×(Unit×Unit)))))=>∃(i:Nat) (ck:Int),r+i=9∧C_ m (au V).1.1 r ck=true∧Fj m ck∧st=((ck,((i:Int),())),((),((),((),()))))) (fun x=>x=some ((true,()),())) ?_ (m:=9) ⟨0,s,rfl,u4,hs,rfl⟩ (by unfold lG;omega)
  rintro r st ⟨i,ck,hri,J3,hl,rfl⟩ G hG
  cases r with
  | zero=>cases J3
  | succ r=>
   have ha0:=hl.1
   have ha1:=hl.2.1
   unfold C_ at J3
   rw [if_neg (by omega)] at J3
   have LS:=mQ (l:=m.sc) (i:=ck) (by omega)
   unfold g.jr
   dsimp only
   simp only [hb]
   by_cases he:ck=(au V).1.1
   ·repeat refine HS ?_
    rfl
   ·rw [if_neg he] at J3
    rw [uz (by omega)]
    repeat refine HS ?_
    simp only [rp]
    repeat refine HS ?_
    rw [LS]
    refine hG r _ (by omega) ⟨i+1,par m ck,by omega,J3,?_,rfl⟩
    rcases zk hi yk Sn ck hl with h9 | h9
    ·cases r with
     | zero=>cases J3
     | succ r=>unfold C_ at J3;rw [if_pos h9] at J3;cases J3
    ·exact h9
theorem Mv (h:YR yd m b d11 d12 d13 d14 d15 d16 d17 d18) (hi:MI k m) (yk:CT m) (Sn:PI m) (huv:UV m) :
  g.fS yd d11 d12 d13 d14 d15 d16 d17 d18=some ((true,()),()):=by
 have hb:=h.nx
 have yh:=h.ol
 have C2:=hi.u9
 have Ur:∀s:Int,0≤s→s<m.p.1→g.cd yd (m.bm s).gate s d11 d12 d13 d14 d15 d16 d17 d18=some ((true,()),()):=fun s h0 h1=>by
  have hv:oR m s (m.bm s).gate:=.inl rfl
  exact Ba h hi yk Sn (hi.tq ⟨h0,h1⟩).2.ga (pa hi ⟨h0,h1⟩ hv) (huv s _ h0 h1 hv)
 have fN:∀q∈b.O,∀v∈q.aS,g.cd yd v q.dY d11 d12 d13 d14 d15 d16 d17 d18=some ((true,()),()):=fun q hq v hv=>by
  have hr:=h.ob.rg q hq
  have He:oR m q.dY v:=.inr ⟨q.qL (jL m q.dY),by rw [←h.ob.ob _ hr.1 hr.2];exact List.mem_map.2 ⟨q,List.mem_filter.2 ⟨hq,eH.2 rfl⟩,rfl⟩,hv⟩
  exact Ba h hi yk Sn ((RO.right h hi hq).2.1 v hv) (pa hi hr He) (huv q.dY v hr.1 hr.2 He)
 have Nw:loop (g.dx yd d11 d12 d13 d14 d15 d16 d17 d18) (nY 1)=some ((true,()),()):=by
  refine dJ (fun k=>nY ((k+1:Nat):Int)) (fun _=>some ((true,()),())) (m.p.1-1).toNat (by unfold lG;omega) (fun F=>?_) (fun k hk=>.inr ⟨rfl,fun F=>?_⟩)
  ·unfold g.dx nY
   dsimp only
   simp only [hb]
   repeat refine HS ?_
   rfl
  ·have e:nth 0 b.G (nN ((k+1:Nat):Int))=(m.bm ((k+1:Nat):Int)).gate:=h.ga _ (by omega) (by omega)
   have hg:=Ur ((k+1:Nat):Int) (by omega) (by omega)
   unfold g.dx nY
   dsimp only
   simp only [hb]
   rw [e,uz (by omega)]
   repeat refine HS ?_
   rfl
 unfold g.fS
 rcases h.ow with ⟨w1,w2⟩ | ⟨j,w1,w2⟩
 ·refine xF.loop (k:=0) (.stop 0 fun F=>?_) (by unfold lG;omega)
  unfold g.eP
  simp only [hb,w1]
  repeat refine HS ?_
  exact Nw
 ·have wh:(b.O.map ro).length=b.O.length:=zH ..
  refine dJ (fun i=>nY (i:Int)) (fun _=>some ((true,()),())) b.O.length (by unfold lG;omega) (fun F=>?_) (fun i LW=>.inr ⟨rfl,fun F=>?_⟩)
  ·unfold g.eP nY
   dsimp only
   simp only [hb,w1]
   repeat refine HS ?_
   exact Nw
  ·have hq:b.O[i]?=some b.O[i]:=zD LW
   have Np:=List.getElem_mem LW
   have h6:=h.Dg hi _ Np
   have fN:=fN _ Np
   have FA:=h.sl _ Np
   generalize b.O[i]=q at *
   have Hh:(nth (0,(0,(0,(none,false)))) (b.O.map ro) (nN (i:Int))).2.2.2.1=some q.nm:=by rw [wU hq];rfl
   have hns:(nth (0,(0,(0,(none,false)))) (b.O.map ro) (nN (i:Int))).1=q.dY:=by rw [wU hq];rfl
   unfold g.eP
   show _=F (nY _)
   have eh:(i:Int)<((b.O.map ro).length:Nat):=by omega
   simp only [hb,w1]
   show opt (some j) _ (fun p0=>bd (aD d17 p0) fun p1=>br (bz (i:Int) _) _ _)=_
   repeat refine HS ?_
   refine dJ (fun k=>nY (k:Int)) (fun _=>F (nY ((i+1:Nat):Int))) q.aS.length (by unfold lG;omega) (fun F'=>?_) (fun k hk=>.inr ⟨rfl,fun F'=>?_⟩)
   ·unfold g.eQ nY
    dsimp only
    simp only [hb,w1]
    rw [uz (k:=i) (by omega)]
    repeat refine HS ?_
    rfl
   ·have e:nth 0 q.aS (nN (k:Int))=q.aS[k]:=gE hk
    have hun:=fN _ (List.getElem_mem hk)
    unfold g.eQ nY
    dsimp only
    simp only [hb,w1]
    rw [uz (k:=k) (by omega)]
    repeat refine HS ?_
    rw [e,hns]
    repeat refine HS ?_
    rfl
end
end Go.Proofs.YtihiooaimdoapaaGreat
namespace Go.Bm
section
open Go.RowKit Go.ChangeShapes Go.WideShapes Go.Deep
def sB (W:World):Mem:=fun b o=>(W.cell? ⟨b,o,none⟩).filter (·.oneCell')
theorem JA {W:World} {b o:Nat} {x:Value} (h:W.cell? ⟨b,o,none⟩=some x) (h1:x.oneCell'=true):sB W b o=some x:=by simp [sB,h,h1]
theorem HH {W:World} {b o:Nat} {x:Value} (h:W.cell? ⟨b,o,none⟩=some x):∃cur ty fz,W.heap[b]?=some (.cells cur ty fz)∧cur[o]?=some x:=by
 unfold World.cell? at h
 split at h
 ·rename_i c ty fz hb
  simp at h
  exact ⟨c,ty,fz,hb,h⟩
 ·cases h
def inR (k:IntKind) (a:Int):Prop:=k.min≤a∧a≤k.max
def HV:(t:Ty)→t.T→Prop
 | .int k,a=>inR k a
 | .bool,_=>True
 | .unit,_=>True
 | .pair a b,x=>HV a x.1∧HV b x.2
 | .arr n t,l=>List.length (α:=t.T) l=n∧∀x:t.T,List.Mem (α:=t.T) x l→HV t x
 | .cN t,l=>List.length (α:=t.T) l≤maxLen∧∀x:t.T,List.Mem (α:=t.T) x l→HV t x
 | _,_=>False
def Lv (P:Program) (W:World) (t:TypeId) (u:Ty):Prop:=
 ∀(H:Type) (enc:TypeId×Value→H) (n:Nat) (cs:List Value) (x:DataW H×List MemPlace),DataW.trod enc P W 0 (fun _=>true) true n t cs=some x→∃a:u.T,ng (sB W) (fb u a) cs∧HV u a
theorem xX {α:Type} {Q:Nat→α→Prop}:∀n:Nat,(∀i,i<n→∃x,Q i x)→∃xs:List α,xs.length=n∧∀(i:Nat) (x:α),xs[i]?=some x→Q i x
 | 0,_=>⟨[],rfl,fun i x h=>by simp at h⟩
 | n+1,h=>by
  obtain ⟨xs,h1,h2⟩:=xX n (fun i hi=>h i (by omega))
  obtain ⟨x,hx⟩:=h n (by omega)
  refine ⟨xs++[x],by simp [h1],fun i y hy=>?_⟩
  by_cases hi:i<xs.length
  ·rw [zK hi] at hy;exact h2 i y hy
  ·rw [zJ (by omega)] at hy
   have:=(zB.1 hy).1
   have e:i-xs.length=0:=by simp at this;omega
   rw [e] at hy
   simp at hy
   subst hy
   rw [show i=n by omega];exact hx
theorem HF {W:World} {base n:Nat} {a:Addr} {cs:List Value} (h:W.cells? base a n=some cs) (k:Nat) (x:Value) (hk:cs[k]?=some x):W.cell? (a.add k)=some x:=by
 unfold World.cells? at h
 split at h
 ·have hlen:=mapM_some_length h
  have eh:=(zB.1 hk).1
  rw [List.length_range] at hlen
  rw [←hk]
  exact mapM_some_get h k k (by rw [List.getElem?_range (by omega)])
 ·cases h
theorem Bf {α:Type} {M:Mem} {f:α→List D}:∀ps:List (α×List Value),(∀q∈ps,ng M (f q.1) q.2)→ng M (ps.map fun q=>f q.1).flatten (ps.map (·.2)).flatten
 | [],_=>⟨rfl,by simp⟩
 | q::ps,h=>by
  rw [List.map_cons,List.map_cons,List.flatten_cons,List.flatten_cons]
  exact (h q (zV ..)).append (Bf ps (fun r hr=>h r (zT _ hr)))
theorem Be {α:Type} {M:Mem} {b sz:Nat}:∀(ps:List (α×List Value)) (off:Nat),(∀(i:Nat) (q:α×List Value),ps[i]?=some q→q.2.length=sz∧∀(k:Nat) (x:Value),q.2[k]?=some x→M b (off+i*sz+k)=some x) →
  ∀(j:Nat) (x:Value),(ps.map (·.2)).flatten[j]?=some x→M b (off+j)=some x
 | [],_,_,j,x,h=>by simp at h
 | q::ps,off,h,j,x,hj=>by
  obtain ⟨h1,h2⟩:=h 0 q rfl
  rw [List.map_cons,List.flatten_cons] at hj
  by_cases eh:j<q.2.length
  ·rw [zK eh] at hj
   simpa using h2 j x hj
  ·rw [zJ (by omega)] at hj
   have:=Be ps (off+sz) (fun i r hr=>by
    obtain ⟨k1,k2⟩:=h (i+1) r (by simpa using hr)
    refine ⟨k1,fun k x hk=>?_⟩
    have:=k2 k x hk
    rwa [show off+sz+i*sz+k=off+(i+1)*sz+k by rw [Nat.add_mul];omega]) _ x hj
   rwa [show off+sz+(j-q.2.length)=off+j by omega] at this
theorem ng.qA {M:Mem} {d:D} {v:Value} (h:VD M d v):ng M [d] [v]:=⟨rfl,fun j c x k1 k2=>by
 cases j with
 | zero=>simp at k1 k2;subst k1 k2;exact h
 | succ j=>simp at k1⟩
theorem ng.cut {M:Mem} {ds es:List D} {cs:List Value} (n:Nat) (h1:ng M ds (cs.take n)) (h2:ng M es (cs.drop n)):ng M (ds++es) cs:=by
 have:=h1.append h2
 rwa [zP] at this
theorem ng.ad4 {M:Mem} {ds:List D} {vs:List Value} (h:ng M ds vs):∀x∈vs,x.oneCell'=true:=fun x hx=>by
 obtain ⟨j,hj⟩:=List.getElem?_of_mem hx
 have hl:=(zB.1 hj).1
 exact (h.2 j _ x (zD (by rw [h.1];exact hl)) hj).one
section
variable {P:Program} {W:World}
theorem mm {t:TypeId} {k:IntKind} (ht:P.underlying t=some (.int k)):Lv P W t (.int k):=by
 intro H enc n cs x h
 obtain ⟨a,rfl,_,hw⟩:=DataW.trod_int ht h
 refine ⟨a,.qA (.v _ rfl),?_⟩
 have hw:(decide (k.min≤a) && decide (a≤k.max))=true:=hw
 rw [zC] at hw
 exact ⟨of_decide_eq_true hw.1,of_decide_eq_true hw.2⟩
theorem IU {t e:TypeId} {u:Ty} (ht:P.underlying t=some (.slice e)) (he:P.cellsOf e=u.size) (h0:0<u.size) (h:Lv P W e u):Lv P W t (.cN u):=by
 intro H enc n cs x hx
 rcases open_slice ht hx with ⟨rfl,_⟩ | ⟨a,len,cap,m,n',D',Pl,rfl,hb,hl,hm,hmm,_,AK⟩
 ·exact ⟨([]:List u.T),.qA (.xc u.size false none),Nat.zero_le _,fun x hx=>by cases hx⟩
 ·have B1:m=cap:=by simpa using hmm
  by_cases hc:cap=0
  ·subst hc
   have:len=0:=by omega
   subst this
   exact ⟨([]:List u.T),.qA (.xc u.size false _),Nat.zero_le _,fun x hx=>by cases hx⟩
  ·obtain ⟨b,off,sp⟩:=a
   have DV:sp=none:=by
    obtain ⟨kt,k1,_⟩:=AK 0 (by omega)
    obtain ⟨_,hlen,FC⟩:=World.cells?_some k1
    have g0:=FC 0 (by omega)
    obtain ⟨c0,L0⟩:∃c0,kt[0]?=some c0:=by
     cases kt with
     | nil=>simp at hlen;omega
     | cons c _=>exact ⟨c,rfl⟩
    rw [L0] at g0
    simpa [Addr.add] using World.cell?_spot g0
   subst DV
   obtain ⟨ps,h1,h2⟩:=xX (Q:=fun i (q:u.T×List Value)=>W.cells? 0 ((⟨b,off,none⟩:Addr).add (i*P.cellsOf e)) (P.cellsOf e)=some q.2∧ng (sB W) (fb u q.1) q.2∧HV u q.1) len (fun i hi=>by
    obtain ⟨kt,k1,k2⟩:=AK i (by omega)
    obtain ⟨x,k3,k4⟩:=h H enc n' kt _ k2
    exact ⟨(x,kt),k1,k3,k4⟩)
   have Hk:∀q∈ps,ng (sB W) (fb u q.1) q.2:=fun q hq=>by
    obtain ⟨i,hi⟩:=List.getElem?_of_mem hq
    exact (h2 i q hi).2.1
   refine ⟨ps.map (·.1),.qA ?_,?_,fun x sE=>?_⟩
   ·have hlen:((ps.map (·.1)).map (fb u)).length=len:=by simp [h1]
    have hv:=Bf ps Hk
    have AJ:((ps.map (·.1)).map (fb u)).flatten=(ps.map fun q=>fb u q.1).flatten:=by rw [List.map_map];rfl
    have:=VD.sl (M:=sB W) u.size false ((ps.map (·.1)).map (fb u)) (some (b,off)) cap (ps.map (·.2)).flatten (by
     intro e' he'
     obtain ⟨x,_,rfl⟩:=List.mem_map.1 he'
     exact gk u x) (by rw [hlen];exact hl) (fun h=>by cases h) (fun h=>by cases h) hm (by rw [AJ];exact hv.1) (fun p j x hp hj=>by
     cases hp
     refine Be (M:=sB W) (b:=b) (sz:=u.size) ps off (fun i q hq=>?_) j x hj
     obtain ⟨k1,k2,_⟩:=h2 i q hq
     refine ⟨by rw [←k2.1,gk],fun k x hk=>?_⟩
     refine JA ?_ (k2.ad4 x (zG hk))
     have FC:=HF k1 k x hk
     rw [he] at FC
     simpa [Addr.add_lit] using FC) (fun j c x e1 e2=>hv.2 j c x (by rw [←AJ];exact e1) e2)
    rw [hlen] at this
    exact this
   ·show (ps.map (·.1)).length≤maxLen
    simp [h1];omega
   ·have sE:x∈ps.map (·.1):=sE
    obtain ⟨q,hq,rfl⟩:=List.mem_map.1 sE
    obtain ⟨i,hi⟩:=List.getElem?_of_mem hq
    exact (h2 i q hi).2.2
inductive UC (P:Program) (W:World):List Field→Nat→Ty→Prop
 | one {fd:Field} {off:Nat} {a:Ty} (h:Lv P W fd.type a) (ho:fd.offset=off) (hs:P.cellsOf fd.type=a.size):UC P W [fd] off a
 | cons {fd:Field} {fs:List Field} {off:Nat} {a b:Ty} (h:Lv P W fd.type a) (ho:fd.offset=off) (hs:P.cellsOf fd.type=a.size) (k:UC P W fs (off+a.size) b):UC P W (fd::fs) off (.pair a b)
theorem UC.read {H:Type} {enc:TypeId×Value→H} {n:Nat} {cs:List Value} {fs:List Field} {off:Nat} {u:Ty} (h:UC P W fs off u):cs.length=off+u.size →
  (∀fd∈fs,∃x,DataW.trod enc P W 0 (fun _=>true) true n fd.type ((cs.drop fd.offset).take (P.cellsOf fd.type))=some x)→∃a:u.T,ng (sB W) (fb u a) (cs.drop off)∧HV u a:=by
 induction h with
 | one h ho hs=>
  intro hl hx
  obtain ⟨x,Ze⟩:=hx _ (zV ..)
  obtain ⟨a,a1,a2⟩:=h H enc n _ x Ze
  refine ⟨a,?_,a2⟩
  rw [ho,hs,za (by simp;omega)] at a1
  exact a1
 | cons h ho hs k ih=>
  rename_i fd fs off a b
  intro hl hx
  have hl:cs.length=off+(a.size+b.size):=hl
  obtain ⟨x,Ze⟩:=hx fd (zV ..)
  obtain ⟨y,a1,a2⟩:=h H enc n _ x Ze
  obtain ⟨z,b1,b2⟩:=ih (by omega) (fun fd' hm=>hx fd' (zT _ hm))
  refine ⟨(y,z),?_,a2,b2⟩
  rw [ho,hs] at a1
  refine ng.cut (ds:=fb a y) (es:=fb b z) a.size a1 ?_
  rw [List.drop_drop];exact b1
theorem sa {t:TypeId} {fs:Array Field} {u:Ty} (ht:P.underlying t=some (.struct fs)) (hl:P.cellsOf t=u.size) (h:UC P W fs.toList 0 u):Lv P W t u:=by
 intro H enc n cs x hx
 obtain ⟨xs,m,_,_,tU,hxl,hf⟩:=DataW.trod_struct ht hx
 obtain ⟨a,d1,d2⟩:=h.read (H:=H) (enc:=enc) (n:=m) (cs:=cs) (by rw [tU,hl,Nat.zero_add]) (fun fd hm=>by
  obtain ⟨i,hi⟩:=List.getElem?_of_mem hm
  have QI:fs[i]?=some fd:=by simpa using hi
  have h1:=hf i fd QI
  have eh:i<fs.size:=(Array.getElem?_eq_some_iff.1 QI).1
  exact ⟨xs[i]'(by omega), by rw [h1]; exact zD (by omega)⟩)
 rw [List.drop_zero] at d1
 exact ⟨a,d1,d2⟩
def NL (W:World):G:=⟨fun _=>none,sB W,fun _=>none⟩
theorem Inv.start {S:Hp} (hS:∀o,S.ob o=none):Inv (NL W) S W where
 cells:=fun o cs h=>by rw [hS] at h;cases h
 eL:=fun o x h=>by rw [hS] at h;cases h
 fresh:=fun _ _=>rfl
 lt:=fun o b s h=>by cases h
 inj:=fun o o' x x' b s s' h=>by rw [hS] at h;cases h
 mem:=fun b i x h=>by
  have h:(W.cell? ⟨b,i,none⟩).filter (·.oneCell')=some x:=h
  rw [Option.filter_eq_some_iff] at h
  exact HH h.1
 pC:=fun o b s i x h=>by rw [hS] at h;cases h
 lp:=fun b l h=>by cases h
theorem IT {t:TypeId} {u:Ty} {H:Type} {enc:TypeId×Value→H} {v:Value} {dd:DataW H} {p:List MemPlace} (hr:Lv P W t u) (hd:u.data=true) (hc:v.cells.toList=[v]) (h:DataW.Trod enc P W 0 (fun _=>true) true t v dd p) :
  ∃a:u.T,V (NL W) (df false u a) v∧HV u a:=by
 obtain ⟨fuel,hf⟩:=h
 rw [hc] at hf
 obtain ⟨a,h1,h2⟩:=hr H enc fuel _ _ hf
 have h3:=ng.cells (g:=NL W) u a _ hd h1
 refine ⟨a,?_,h2⟩
 show V (NL W) (match aJ u a with | [c]=>c | _=>.dN) v
 obtain ⟨hl,h4⟩:=h3
 match he:aJ u a with
 | [c]=>exact (h4 0 c v (by rw [he];rfl) rfl).1
 | []=>exact .dN _
 | _::_::_=>exact .dN _
theorem Mt {t:TypeId} {u:Ty} {H:Type} {enc:TypeId×Value→H} {vs:Array Value} {dd:DataW H} {p:List MemPlace} (hr:Lv P W t u) (hd:u.data=true) (h:DataW.Trod enc P W 0 (fun _=>true) true t (.agg vs) dd p) :
  ∃a:u.T,V (NL W) (df true u a) (.agg vs)∧HV u a:=by
 obtain ⟨fuel,hf⟩:=h
 obtain ⟨a,h1,h2⟩:=hr H enc fuel _ _ hf
 have h3:=ng.cells (g:=NL W) u a _ hd h1
 have h3:Vs (NL W) (aJ u a) vs.toList:=by simpa [Value.cells] using h3
 exact ⟨a,by have:=h3.agg;simpa [df] using this,h2⟩
def emK:(k:RK)→k.T
 | .box t=>([]:List t.T)
 | .row t=>([]:List (Option (List t.T)))
 | .map _ tk _ tv=>([]:List (List (tk.T×tv.T)))
def HB:(l:List (Nat×RK))→xa l
 | []=>()
 | p::l=>(emK p.2,HB l)
theorem IP:∀(k:RK) (j:Nat),fQ k (emK k) j=none
 | .box _,_=>rfl
 | .row _,_=>rfl
 | .map _ _ _ _,_=>rfl
theorem vr:∀(l:List (Nat×RK)) (r:Nat) (x:Rg),cl (fg l (HB l)) r=some x→∀j,fQ x.k x.c j=none
 | [],r,x,h,j=>by cases h
 | p::l,r,x,h,j=>by
  have h:(bif Nat.beq p.1 r then some (⟨p.1,p.2,emK p.2⟩:Rg) else cl (fg l (HB l)) r)=some x:=h
  cases hp:Nat.beq p.1 r with
  | true=>rw [hp] at h;cases h;exact IP p.2 j
  | false=>rw [hp] at h;exact vr l r x h j
theorem NK (rl wl:List (Nat×RK)) (o:Nat):(hp (h0 rl wl (HB rl) (HB wl))).ob o=none:=by
 show (if o<dO then iG .nil o else fR (fg wl (HB wl)++fg rl (HB rl)) o)=none
 split
 ·unfold iG;rw [Tr.get_nil]
 ·unfold fR
  rw [jP]
  cases h1:cl (fg wl (HB wl)) (oT o) with
  | some x=>exact vr wl _ x h1 _
  | none=>
   simp only
   cases h2:cl (fg rl (HB rl)) (oT o) with
   | some x=>exact vr rl _ x h2 _
   | none=>rfl
theorem JJ {f:FuncId} {sg:eO} {F:Plain sg} (h:cb P f sg F) (hrs:sg.rs=[(false,.bool)]) (x:mE sg.ps) {y:mE sg.rs} {d':xa sg.wg} (hF:F x (HB sg.rg) (HB sg.wg)=some (y,d')) (hy:xg sg.rs y = .v (.bool true)) {vs:List Value}
  (hl:(pV sg.ps x).length=vs.length) (hv:∀(i:Nat) (p:A) (v:Value),(pV sg.ps x)[i]?=some p→vs[i]?=some v→V (NL W) p v) :
  Calls P f vs.toArray W fun e W'=>e = .returned (.bool true)∧Go.World.Since W.heap.size W W':=by
 obtain ⟨t,bI,lk,hp⟩:=h.pc x _ _ y d' hF
 refine (hp (NL W) W vs (.start (NK _ _)) hl hv).mono ?_
 rintro e W' ⟨v,g',rfl,h1,_,h3⟩
 rw [hy] at h1
 cases h1
 exact ⟨rfl,h3.os,h3.tape,h3.output,h3.size,fun k hk=>h3.frame k hk (by rintro ⟨o,s,x,_,e⟩;cases e)⟩
end
end
end Go.Bm
namespace Go.Proofs.YtihiooaimdoapaaGreat
open Go.Bm Go.jJ
abbrev LwN:Type:=(((Option Nat)×(Int×Unit))×(T0×(T1×(T2×(T3×(T4×(T5×(T6×(T7×Unit)))))))))
abbrev LwD:Type:=(((Int×(Int×(List Int)))×(Int×Unit))×(T2×(T3×(T4×(T5×(T6×(T7×(T8×(T9×(dT×Unit))))))))))
abbrev LwY:Type:=(((Option Nat)×Unit)×(kZ×(kD×(jY×(hZ×(T4×(gQ×Unit)))))))
abbrev UE:Type:=((Int×Unit)×(Unit×(Unit×(Unit×(T2×(T3×(T4×(T5×(T6×(T7×(T8×(T9×(dT×(kZ×(hZ×(T4×(gQ×(kS×(dT×Unit)))))))))))))))))))
abbrev LwR:Type:=(Option ((Bool×Unit)×(T0×(T1×(T2×(T3×(T4×(T5×(T6×(T7×(T8×(T9×(dT×(kZ×(kD×(jY×(hZ×(T4×(gQ×(kS×(dT×Unit)))))))))))))))))))))
def Y6 (i:Int) (d0:T2) (d1:T3) (d2:T4) (d3:T5) (d4:T6) (d5:T7) (d6:T8) (d7:T9) (d8:dT) (e:kZ×(hZ×(T4×(gQ×(kS×(dT×Unit)))))):UE:=((i,()),((),((),((),(d0,(d1,(d2,(d3,(d4,(d5,(d6,(d7,(d8,e)))))))))))))
theorem Mg {m:M} {n:Int} (hn:0≤n∧n<m.th.length) (c:oZ):m.step n c=((if cC c=true then m.act n c else m.code 1).1,(if cC c=true then m.act n c else m.code 1).2,0):=by
 unfold M.step
 rw [if_neg (by rw [kz];omega)]
 cases h:cC c with
 | false=>rfl
 | true=>rfl
open Go.Bm
set_option maxRecDepth 1000000
set_option maxHeartbeats 0
def sg5:eO:=⟨[(true,(.pair (.int .i64) (.pair (.int .i64) (.pair (.int .i64) (.int .i64))))),(false,(.cN (.cN (.pair (.int .u8) (.pair (.int .i64) (.int .i64)))))),(false,(.cN (.pair (.int .i64) (.pair (.int .u8) (.pair (.int .u8) (.pair (.int .u8) (.pair (.int .u8) (.pair (.int .i64) (.pair (.int .i64) (.int .i64))))))))))],[(false,.bool)],[],[(0,R0),(1,R1),(2,R2),(3,R3),(4,R4),(5,R5),(6,R6),(7,R7),(8,R8),(9,R9),(10,H7),(11,C8),(12,wS),(13,uf),(14,ue),(15,uT),(16,qS),(17,CP),(18,AT)]⟩
def g.eY (v0:(((Int×U4)×Unit)×Unit)) (v1:Nat) (v2:U8) (v3:U2) (v4:U13) (v5:Nat) (v6:UB) (v7:U3→U1) (v8:U3) (k:(U6→U1)) (s:U6):U1:=(br (bz s.1.1 v0.1.1.1) (bd (g.iR v1 s.1.1 v2.2.1 v2.2.2.1 v3.2.1 v3.2.2.1 v3.2.2.2.1 v3.2.2.2.2.1 v3.2.2.2.2.2.1 v3.2.2.2.2.2.2.1 v3.2.2.2.2.2.2.2.1 v3.2.2.2.2.2.2.2.2.1 v3.2.2.2.2.2.2.2.2.2.1) (fun p0=>(gd (bl s.1.1) (gd (bn (nN s.1.1) 8) (br (aH (aj p0.1.1 (nth 0 (nth bE v4.2.1 v5).2.2.2.2.1 (nN s.1.1)))) (some ((false,()),(v2.2.1,(v2.2.2.1,(v3.2.1,(v3.2.2.1,(v3.2.2.2.1,(v3.2.2.2.2.1,(v3.2.2.2.2.2.1,(v3.2.2.2.2.2.2.1,(v3.2.2.2.2.2.2.2.1,(v3.2.2.2.2.2.2.2.2.1,(v3.2.2.2.2.2.2.2.2.2.1,(v4.2.1,(v6.2.2.1,(v6.2.2.2.1,v4.2.2)))))))))))))))) (k (((af .i64 s.1.1 1),()),((),((),((),())))))))))) (v7 (((af .i64 v8.1.1 1),()),((),((),((),(v3.2.1,(v3.2.2.1,(v3.2.2.2.1,(v3.2.2.2.2.1,(v3.2.2.2.2.2.1,(v3.2.2.2.2.2.2.1,(v3.2.2.2.2.2.2.2.1,(v3.2.2.2.2.2.2.2.2.1,(v3.2.2.2.2.2.2.2.2.2.1,v4.2)))))))))))))))
def g.gC (v0:(((List Int)×(Bool×Unit))×Unit)) (v1:U13) (v2:Nat) (v3:U5→U1) (k:(U6→U1)) (s:U6):U1:=(br (bz s.1.1 (zN (len v0.1.1))) (gd (bl s.1.1) (gd (bn (nN s.1.1) (len v0.1.1)) (bd (aD v1.2.2.2.2.2.2.1 v2) (fun p0=>(gd (bl s.1.1) (gd (bn (nN s.1.1) (len p0)) (bd (aD v1.2.2.2.2.2.2.1 v2) (fun p1=>(br (aH (aj (nth 0 v0.1.1 (nN s.1.1)) (nth 0 p1 (nN s.1.1)))) (v3 ((false,()),((),((),((),()))))) (k (((af .i64 s.1.1 1),()),((),((),((),())))))))))))))) (v3 ((true,()),((),((),((),()))))))
def g.jF (v0:(((List Int)×(Bool×Unit))×Unit)) (v1:U5→U1) (k:(U6→U1)) (s:U6):U1:=(br (bz s.1.1 (zN (len v0.1.1))) (gd (bl s.1.1) (gd (bn (nN s.1.1) (len v0.1.1)) none)) (v1 ((true,()),((),((),((),()))))))
def g.gB (v0:U13) (v1:Nat) (v2:UB) (v3:Nat) (v4:U8) (v5:U2) (v6:(((Int×U4)×Unit)×Unit)) (v7:U3→U1) (v8:U3) (k:(U6→U1)) (s:U6):U1:=(opt (nth bE v0.2.1 v1).2.2.2.1 (br (bz s.1.1 0) (bd (g.dE v1 s.1.1 v0.2.1 v2.2.2.1 v2.2.2.2.1 v0.2.2.1 v0.2.2.2.1 v0.2.2.2.2.1 v0.2.2.2.2.2.1 v0.2.2.2.2.2.2.1) (fun p0=>(bd (g.eZ v3 p0.1.1 v4.2.1 v4.2.2.1 v5.2.1 v5.2.2.1 v5.2.2.2.1 v5.2.2.2.2.1 v5.2.2.2.2.2.1 v5.2.2.2.2.2.2.1 v5.2.2.2.2.2.2.2.1 v5.2.2.2.2.2.2.2.2.1 v5.2.2.2.2.2.2.2.2.2.1) (fun p1=>(jn (fun (k2:U5→_)=>(opt (nth bE v0.2.1 v1).2.2.2.1 none (fun p3=>(bd (aD v0.2.2.2.2.2.1 p3) (fun p4=>(gd (bl s.1.1) (gd (bn (nN s.1.1) (len p4)) (bd (aD v0.2.2.2.2.2.1 p3) (fun p5=>(opt (nth (0,(0,(0,(none,false)))) p5 (nN s.1.1)).2.2.2.1 (br (aH (aj (zN (len p1.1.1)) 0)) (k2 ((false,()),((),((),((),()))))) (loop (g.jF p1 k2) ((0,()),((),((),((),())))))) (fun p6=>(bd (aD v0.2.2.2.2.2.2.1 p6) (fun p7=>(br (aH (aj (zN (len p1.1.1)) (zN (len p7)))) (k2 ((false,()),((),((),((),()))))) (loop (g.gC p1 v0 p6 k2) ((0,()),((),((),((),()))))))))))))))))))) (fun (s8:U5)=>(br (aH p1.1.2.1) (some ((false,()),(v4.2.1,(v4.2.2.1,(v5.2.1,(v5.2.2.1,(v5.2.2.2.1,(v5.2.2.2.2.1,(v5.2.2.2.2.2.1,(v5.2.2.2.2.2.2.1,(v5.2.2.2.2.2.2.2.1,(v5.2.2.2.2.2.2.2.2.1,(v5.2.2.2.2.2.2.2.2.2.1,(v0.2.1,(v2.2.2.1,(v2.2.2.2.1,v0.2.2)))))))))))))))) (br (aH s8.1.1) (some ((false,()),(v4.2.1,(v4.2.2.1,(v5.2.1,(v5.2.2.1,(v5.2.2.2.1,(v5.2.2.2.2.1,(v5.2.2.2.2.2.1,(v5.2.2.2.2.2.2.1,(v5.2.2.2.2.2.2.2.1,(v5.2.2.2.2.2.2.2.2.1,(v5.2.2.2.2.2.2.2.2.2.1,(v0.2.1,(v2.2.2.1,(v2.2.2.2.1,v0.2.2)))))))))))))))) (k (((af .i64 s.1.1 1),()),((),((),((),()))))))))))))) (loop (g.eY v6 v3 v4 v5 v0 v1 v2 v7 v8) ((0,()),((),((),((),())))))) (fun p9=>(bd (aD v0.2.2.2.2.2.1 p9) (fun gO=>(br (bz s.1.1 (zN (len gO))) (bd (g.dE v1 s.1.1 v0.2.1 v2.2.2.1 v2.2.2.2.1 v0.2.2.1 v0.2.2.2.1 v0.2.2.2.2.1 v0.2.2.2.2.2.1 v0.2.2.2.2.2.2.1) (fun dC=>(bd (g.eZ v3 dC.1.1 v4.2.1 v4.2.2.1 v5.2.1 v5.2.2.1 v5.2.2.2.1 v5.2.2.2.2.1 v5.2.2.2.2.2.1 v5.2.2.2.2.2.2.1 v5.2.2.2.2.2.2.2.1 v5.2.2.2.2.2.2.2.2.1 v5.2.2.2.2.2.2.2.2.2.1) (fun du=>(jn (fun (JQ:U5→_)=>(opt (nth bE v0.2.1 v1).2.2.2.1 none (fun iW=>(bd (aD v0.2.2.2.2.2.1 iW) (fun fM=>(gd (bl s.1.1) (gd (bn (nN s.1.1) (len fM)) (bd (aD v0.2.2.2.2.2.1 iW) (fun gZ=>(opt (nth (0,(0,(0,(none,false)))) gZ (nN s.1.1)).2.2.2.1 (br (aH (aj (zN (len du.1.1)) 0)) (JQ ((false,()),((),((),((),()))))) (loop (g.jF du JQ) ((0,()),((),((),((),())))))) (fun eK=>(bd (aD v0.2.2.2.2.2.2.1 eK) (fun dG=>(br (aH (aj (zN (len du.1.1)) (zN (len dG)))) (JQ ((false,()),((),((),((),()))))) (loop (g.gC du v0 eK JQ) ((0,()),((),((),((),()))))))))))))))))))) (fun (s19:U5)=>(br (aH du.1.2.1) (some ((false,()),(v4.2.1,(v4.2.2.1,(v5.2.1,(v5.2.2.1,(v5.2.2.2.1,(v5.2.2.2.2.1,(v5.2.2.2.2.2.1,(v5.2.2.2.2.2.2.1,(v5.2.2.2.2.2.2.2.1,(v5.2.2.2.2.2.2.2.2.1,(v5.2.2.2.2.2.2.2.2.2.1,(v0.2.1,(v2.2.2.1,(v2.2.2.2.1,v0.2.2)))))))))))))))) (br (aH s19.1.1) (some ((false,()),(v4.2.1,(v4.2.2.1,(v5.2.1,(v5.2.2.1,(v5.2.2.2.1,(v5.2.2.2.2.1,(v5.2.2.2.2.2.1,(v5.2.2.2.2.2.2.1,(v5.2.2.2.2.2.2.2.1,(v5.2.2.2.2.2.2.2.2.1,(v5.2.2.2.2.2.2.2.2.2.1,(v0.2.1,(v2.2.2.1,(v2.2.2.2.1,v0.2.2)))))))))))))))) (k (((af .i64 s.1.1 1),()),((),((),((),()))))))))))))) (loop (g.eY v6 v3 v4 v5 v0 v1 v2 v7 v8) ((0,()),((),((),((),()))))))))))
def g.gA (a2:(List (Int×tr))) (v0:U8) (v1:UB) (v2:(((Int×U4)×Unit)×Unit)) (v3:Nat) (v4:Nat) (k:(U3→U1)) (s:U3):U1:=(jn (fun (k0:(Unit×U0)→_)=>(br (bz s.1.1 (zN (len a2))) (br (bz s.1.1 60) (k0 ((),((),((),((),()))))) (some ((true,()),(v0.2.1,(v0.2.2.1,(s.2.2.2.2.1,(s.2.2.2.2.2.1,(s.2.2.2.2.2.2.1,(s.2.2.2.2.2.2.2.1,(s.2.2.2.2.2.2.2.2.1,(s.2.2.2.2.2.2.2.2.2.1,(s.2.2.2.2.2.2.2.2.2.2.1,(s.2.2.2.2.2.2.2.2.2.2.2.1,(s.2.2.2.2.2.2.2.2.2.2.2.2.1,(s.2.2.2.2.2.2.2.2.2.2.2.2.2.1,(v1.2.2.1,(v1.2.2.2.1,s.2.2.2.2.2.2.2.2.2.2.2.2.2.2))))))))))))))))) (some ((true,()),(v0.2.1,(v0.2.2.1,(s.2.2.2.2.1,(s.2.2.2.2.2.1,(s.2.2.2.2.2.2.1,(s.2.2.2.2.2.2.2.1,(s.2.2.2.2.2.2.2.2.1,(s.2.2.2.2.2.2.2.2.2.1,(s.2.2.2.2.2.2.2.2.2.2.1,(s.2.2.2.2.2.2.2.2.2.2.2.1,(s.2.2.2.2.2.2.2.2.2.2.2.2.1,(s.2.2.2.2.2.2.2.2.2.2.2.2.2.1,(v1.2.2.1,(v1.2.2.2.1,s.2.2.2.2.2.2.2.2.2.2.2.2.2.2)))))))))))))))))) (fun (s1:(Unit×U0))=>(gd (bl s.1.1) (gd (bn (nN s.1.1) (len a2)) (gd (LL v2.1.1.2.1) (gd (bl s.1.1) (gd (bn (nN s.1.1) (len a2)) (bd (g.di v3 (dU (bits .and .i64 (nth (0,(0,(0,(0,(0,(0,(0,0))))))) a2 (nN s.1.1)).1 1) v2.1.1.2.1) ((nth (0,(0,(0,(0,(0,(0,(0,0))))))) a2 (nN s.1.1)).2.1,((nth (0,(0,(0,(0,(0,(0,(0,0))))))) a2 (nN s.1.1)).2.2.1,((nth (0,(0,(0,(0,(0,(0,(0,0))))))) a2 (nN s.1.1)).2.2.2.1,((nth (0,(0,(0,(0,(0,(0,(0,0))))))) a2 (nN s.1.1)).2.2.2.2.1,((nth (0,(0,(0,(0,(0,(0,(0,0))))))) a2 (nN s.1.1)).2.2.2.2.2.1,((nth (0,(0,(0,(0,(0,(0,(0,0))))))) a2 (nN s.1.1)).2.2.2.2.2.2.1,(nth (0,(0,(0,(0,(0,(0,(0,0))))))) a2 (nN s.1.1)).2.2.2.2.2.2.2)))))) v0.2.1 v0.2.2.1 s.2.2.2.2.1 s.2.2.2.2.2.1 s.2.2.2.2.2.2.1 s.2.2.2.2.2.2.2.1 s.2.2.2.2.2.2.2.2.1 s.2.2.2.2.2.2.2.2.2.1 s.2.2.2.2.2.2.2.2.2.2.1 s.2.2.2.2.2.2.2.2.2.2.2.1 s.2.2.2.2.2.2.2.2.2.2.2.2.1) (fun p2=>(gd (bl s.1.1) (gd (bn (nN s.1.1) (len a2)) (bd (g.aM v4 (dU (bits .and .i64 (nth (0,(0,(0,(0,(0,(0,(0,0))))))) a2 (nN s.1.1)).1 1) v2.1.1.2.1) ((nth (0,(0,(0,(0,(0,(0,(0,0))))))) a2 (nN s.1.1)).2.1,((nth (0,(0,(0,(0,(0,(0,(0,0))))))) a2 (nN s.1.1)).2.2.1,((nth (0,(0,(0,(0,(0,(0,(0,0))))))) a2 (nN s.1.1)).2.2.2.1,((nth (0,(0,(0,(0,(0,(0,(0,0))))))) a2 (nN s.1.1)).2.2.2.2.1,((nth (0,(0,(0,(0,(0,(0,(0,0))))))) a2 (nN s.1.1)).2.2.2.2.2.1,((nth (0,(0,(0,(0,(0,(0,(0,0))))))) a2 (nN s.1.1)).2.2.2.2.2.2.1,(nth (0,(0,(0,(0,(0,(0,(0,0))))))) a2 (nN s.1.1)).2.2.2.2.2.2.2)))))) v1.2.2.1 v1.2.2.2.1 s.2.2.2.2.2.2.2.2.2.2.2.2.2.1 s.2.2.2.2.2.2.2.2.2.2.2.2.2.2.1 s.2.2.2.2.2.2.2.2.2.2.2.2.2.2.2.1 s.2.2.2.2.2.2.2.2.2.2.2.2.2.2.2.2.1 s.2.2.2.2.2.2.2.2.2.2.2.2.2.2.2.2.2.1 s.2.2.2.2.2.2.2.2.2.2.2.2.2.2.2.2.2.2.1) (fun p3=>(bd (g.fS v4 p3.2.1 v1.2.2.1 v1.2.2.2.1 p3.2.2.1 p3.2.2.2.1 p3.2.2.2.2.1 p3.2.2.2.2.2.1 p3.2.2.2.2.2.2.1) (fun p4=>(br (aH p4.1.1) (some ((false,()),(v0.2.1,(v0.2.2.1,(p2.2.1,(p2.2.2.1,(p2.2.2.2.1,(p2.2.2.2.2.1,(p2.2.2.2.2.2.1,(p2.2.2.2.2.2.2.1,(p2.2.2.2.2.2.2.2.1,(p2.2.2.2.2.2.2.2.2.1,(p2.2.2.2.2.2.2.2.2.2.1,(p3.2.1,(v1.2.2.1,(v1.2.2.2.1,p3.2.2)))))))))))))))) (loop (g.gB p3 v4 v1 v3 v0 p2 v2 k s) ((0,()),((),((),((),())))))))))))))))))))))
def g.mn (a2:(List (Int×tr))) (v0:U8) (v1:UB) (v2:(((Int×U4)×Unit)×Unit)) (v3:Nat) (k:(U3→U1)) (s:U3):U1:=(jn (fun (k0:(Unit×U0)→_)=>(br (bz s.1.1 (zN (len a2))) (br (bz s.1.1 60) (k0 ((),((),((),((),()))))) (some ((true,()),(v0.2.1,(v0.2.2.1,(s.2.2.2.2.1,(s.2.2.2.2.2.1,(s.2.2.2.2.2.2.1,(s.2.2.2.2.2.2.2.1,(s.2.2.2.2.2.2.2.2.1,(s.2.2.2.2.2.2.2.2.2.1,(s.2.2.2.2.2.2.2.2.2.2.1,(s.2.2.2.2.2.2.2.2.2.2.2.1,(s.2.2.2.2.2.2.2.2.2.2.2.2.1,(s.2.2.2.2.2.2.2.2.2.2.2.2.2.1,(v1.2.2.1,(v1.2.2.2.1,s.2.2.2.2.2.2.2.2.2.2.2.2.2.2))))))))))))))))) (some ((true,()),(v0.2.1,(v0.2.2.1,(s.2.2.2.2.1,(s.2.2.2.2.2.1,(s.2.2.2.2.2.2.1,(s.2.2.2.2.2.2.2.1,(s.2.2.2.2.2.2.2.2.1,(s.2.2.2.2.2.2.2.2.2.1,(s.2.2.2.2.2.2.2.2.2.2.1,(s.2.2.2.2.2.2.2.2.2.2.2.1,(s.2.2.2.2.2.2.2.2.2.2.2.2.1,(s.2.2.2.2.2.2.2.2.2.2.2.2.2.1,(v1.2.2.1,(v1.2.2.2.1,s.2.2.2.2.2.2.2.2.2.2.2.2.2.2)))))))))))))))))) (fun (s1:(Unit×U0))=>(gd (bl s.1.1) (gd (bn (nN s.1.1) (len a2)) (gd (LL v2.1.1.2.1) (gd (bl s.1.1) (gd (bn (nN s.1.1) (len a2)) (bd (g.di v3 (dU (bits .and .i64 (nth (0,(0,(0,(0,(0,(0,(0,0))))))) a2 (nN s.1.1)).1 1) v2.1.1.2.1) ((nth (0,(0,(0,(0,(0,(0,(0,0))))))) a2 (nN s.1.1)).2.1,((nth (0,(0,(0,(0,(0,(0,(0,0))))))) a2 (nN s.1.1)).2.2.1,((nth (0,(0,(0,(0,(0,(0,(0,0))))))) a2 (nN s.1.1)).2.2.2.1,((nth (0,(0,(0,(0,(0,(0,(0,0))))))) a2 (nN s.1.1)).2.2.2.2.1,((nth (0,(0,(0,(0,(0,(0,(0,0))))))) a2 (nN s.1.1)).2.2.2.2.2.1,((nth (0,(0,(0,(0,(0,(0,(0,0))))))) a2 (nN s.1.1)).2.2.2.2.2.2.1,(nth (0,(0,(0,(0,(0,(0,(0,0))))))) a2 (nN s.1.1)).2.2.2.2.2.2.2)))))) v0.2.1 v0.2.2.1 s.2.2.2.2.1 s.2.2.2.2.2.1 s.2.2.2.2.2.2.1 s.2.2.2.2.2.2.2.1 s.2.2.2.2.2.2.2.2.1 s.2.2.2.2.2.2.2.2.2.1 s.2.2.2.2.2.2.2.2.2.2.1 s.2.2.2.2.2.2.2.2.2.2.2.1 s.2.2.2.2.2.2.2.2.2.2.2.2.1) (fun p2=>(gd (bl s.1.1) (gd (bn (nN s.1.1) (len a2)) none)))))))))))
def g.jE (a2:(List (Int×tr))) (v0:U8) (v1:UB) (v2:(((Int×U4)×Unit)×Unit)) (k:(U3→U1)) (s:U3):U1:=(jn (fun (k0:(Unit×U0)→_)=>(br (bz s.1.1 (zN (len a2))) (br (bz s.1.1 60) (k0 ((),((),((),((),()))))) (some ((true,()),(v0.2.1,(v0.2.2.1,(s.2.2.2.2.1,(s.2.2.2.2.2.1,(s.2.2.2.2.2.2.1,(s.2.2.2.2.2.2.2.1,(s.2.2.2.2.2.2.2.2.1,(s.2.2.2.2.2.2.2.2.2.1,(s.2.2.2.2.2.2.2.2.2.2.1,(s.2.2.2.2.2.2.2.2.2.2.2.1,(s.2.2.2.2.2.2.2.2.2.2.2.2.1,(s.2.2.2.2.2.2.2.2.2.2.2.2.2.1,(v1.2.2.1,(v1.2.2.2.1,s.2.2.2.2.2.2.2.2.2.2.2.2.2.2))))))))))))))))) (some ((true,()),(v0.2.1,(v0.2.2.1,(s.2.2.2.2.1,(s.2.2.2.2.2.1,(s.2.2.2.2.2.2.1,(s.2.2.2.2.2.2.2.1,(s.2.2.2.2.2.2.2.2.1,(s.2.2.2.2.2.2.2.2.2.1,(s.2.2.2.2.2.2.2.2.2.2.1,(s.2.2.2.2.2.2.2.2.2.2.2.1,(s.2.2.2.2.2.2.2.2.2.2.2.2.1,(s.2.2.2.2.2.2.2.2.2.2.2.2.2.1,(v1.2.2.1,(v1.2.2.2.1,s.2.2.2.2.2.2.2.2.2.2.2.2.2.2)))))))))))))))))) (fun (s1:(Unit×U0))=>(gd (bl s.1.1) (gd (bn (nN s.1.1) (len a2)) (gd (LL v2.1.1.2.1) (gd (bl s.1.1) (gd (bn (nN s.1.1) (len a2)) none)))))))
def g.iw (a0:(Int×U4)) (a1:(List (List U4))) (a2:(List (Int×tr))) (d0:T0) (d1:T1) (d2:T2) (d3:T3) (d4:T4) (d5:T5) (d6:T6) (d7:T7) (d8:T8) (d9:T9) (d10:dT) (d11:kZ) (d12:kD) (d13:jY) (d14:hZ) (d15:T4) (d16:gQ) (d17:kS) (d18:dT):U1:=(bd (g.iP d0 d1 d2 d3 d4 d5 d6 d7 d8 d9 d10) (fun p0=>(bd (g.jS (a0.1,(a0.2.1,(a0.2.2.1,a0.2.2.2)))) (fun p1=>(bd (g.jR a1) (fun p2=>(bd (g.mf (p1.1.1.1,(p1.1.1.2.1,(p1.1.1.2.2.1,p1.1.1.2.2.2))) p2.1.1 p0.2.2.2.2.2.2.2.2.2.1 p0.2.2.2.2.2.2.2.2.2.2.1 p0.2.2.2.2.2.2.2.2.2.2.2.1 p0.2.1 p0.2.2.1 p0.2.2.2.1 p0.2.2.2.2.1 p0.2.2.2.2.2.1 p0.2.2.2.2.2.2.1 p0.2.2.2.2.2.2.2.1 p0.2.2.2.2.2.2.2.2.1) (fun p3=>(opt p3.1.1 (bd (g.iu (p1.1.1.1,(p1.1.1.2.1,(p1.1.1.2.2.1,p1.1.1.2.2.2))) p2.1.1 d17 d18 d11 d12 d13 d14 d15 d16) (fun p4=>(opt p4.1.1 (jn (fun (k5:(Unit×U0)→_)=>(br (aH p0.1.1) (some ((false,()),(p3.2.1,(p3.2.2.1,(p3.2.2.2.1,(p3.2.2.2.2.1,(p3.2.2.2.2.2.1,(p3.2.2.2.2.2.2.1,(p3.2.2.2.2.2.2.2.1,(p3.2.2.2.2.2.2.2.2.1,(p0.2.2.2.2.2.2.2.2.2.1,(p0.2.2.2.2.2.2.2.2.2.2.1,(p0.2.2.2.2.2.2.2.2.2.2.2.1,(p4.2.1,(p4.2.2.1,(p4.2.2.2.1,(p4.2.2.2.2.1,(p4.2.2.2.2.2.1,(p4.2.2.2.2.2.2.1,(d17,(d18,()))))))))))))))))))))) (some ((false,()),(p3.2.1,(p3.2.2.1,(p3.2.2.2.1,(p3.2.2.2.2.1,(p3.2.2.2.2.2.1,(p3.2.2.2.2.2.2.1,(p3.2.2.2.2.2.2.2.1,(p3.2.2.2.2.2.2.2.2.1,(p0.2.2.2.2.2.2.2.2.2.1,(p0.2.2.2.2.2.2.2.2.2.2.1,(p0.2.2.2.2.2.2.2.2.2.2.2.1,(p4.2.1,(p4.2.2.1,(p4.2.2.2.1,(p4.2.2.2.2.1,(p4.2.2.2.2.2.1,(p4.2.2.2.2.2.2.1,(d17,(d18,()))))))))))))))))))))))) (fun (s6:(Unit×U0))=>(loop (g.jE a2 p3 p4 p1) ((0,()),((),((),((),(p3.2.2.2.1,(p3.2.2.2.2.1,(p3.2.2.2.2.2.1,(p3.2.2.2.2.2.2.1,(p3.2.2.2.2.2.2.2.1,(p3.2.2.2.2.2.2.2.2.1,(p0.2.2.2.2.2.2.2.2.2.1,(p0.2.2.2.2.2.2.2.2.2.2.1,(p0.2.2.2.2.2.2.2.2.2.2.2.1,(p4.2.1,(p4.2.2.2.2.1,(p4.2.2.2.2.2.1,(p4.2.2.2.2.2.2.1,(d17,(d18,())))))))))))))))))))))) (fun dC=>(jn (fun (Nf:(Unit×U0)→_)=>(br (aH p0.1.1) (some ((false,()),(p3.2.1,(p3.2.2.1,(p3.2.2.2.1,(p3.2.2.2.2.1,(p3.2.2.2.2.2.1,(p3.2.2.2.2.2.2.1,(p3.2.2.2.2.2.2.2.1,(p3.2.2.2.2.2.2.2.2.1,(p0.2.2.2.2.2.2.2.2.2.1,(p0.2.2.2.2.2.2.2.2.2.2.1,(p0.2.2.2.2.2.2.2.2.2.2.2.1,(p4.2.1,(p4.2.2.1,(p4.2.2.2.1,(p4.2.2.2.2.1,(p4.2.2.2.2.2.1,(p4.2.2.2.2.2.2.1,(d17,(d18,()))))))))))))))))))))) (some ((false,()),(p3.2.1,(p3.2.2.1,(p3.2.2.2.1,(p3.2.2.2.2.1,(p3.2.2.2.2.2.1,(p3.2.2.2.2.2.2.1,(p3.2.2.2.2.2.2.2.1,(p3.2.2.2.2.2.2.2.2.1,(p0.2.2.2.2.2.2.2.2.2.1,(p0.2.2.2.2.2.2.2.2.2.2.1,(p0.2.2.2.2.2.2.2.2.2.2.2.1,(p4.2.1,(p4.2.2.1,(p4.2.2.2.1,(p4.2.2.2.2.1,(p4.2.2.2.2.2.1,(p4.2.2.2.2.2.2.1,(d17,(d18,()))))))))))))))))))))))) (fun (xe:(Unit×U0))=>(loop (g.jE a2 p3 p4 p1) ((0,()),((),((),((),(p3.2.2.2.1,(p3.2.2.2.2.1,(p3.2.2.2.2.2.1,(p3.2.2.2.2.2.2.1,(p3.2.2.2.2.2.2.2.1,(p3.2.2.2.2.2.2.2.2.1,(p0.2.2.2.2.2.2.2.2.2.1,(p0.2.2.2.2.2.2.2.2.2.2.1,(p0.2.2.2.2.2.2.2.2.2.2.2.1,(p4.2.1,(p4.2.2.2.2.1,(p4.2.2.2.2.2.1,(p4.2.2.2.2.2.2.1,(d17,(d18,())))))))))))))))))))))))))) (fun dG=>(bd (g.iu (p1.1.1.1,(p1.1.1.2.1,(p1.1.1.2.2.1,p1.1.1.2.2.2))) p2.1.1 d17 d18 d11 d12 d13 d14 d15 d16) (fun fL=>(opt fL.1.1 (jn (fun (k20:(Unit×U0)→_)=>(br (aH p0.1.1) (some ((false,()),(p3.2.1,(p3.2.2.1,(p3.2.2.2.1,(p3.2.2.2.2.1,(p3.2.2.2.2.2.1,(p3.2.2.2.2.2.2.1,(p3.2.2.2.2.2.2.2.1,(p3.2.2.2.2.2.2.2.2.1,(p0.2.2.2.2.2.2.2.2.2.1,(p0.2.2.2.2.2.2.2.2.2.2.1,(p0.2.2.2.2.2.2.2.2.2.2.2.1,(fL.2.1,(fL.2.2.1,(fL.2.2.2.1,(fL.2.2.2.2.1,(fL.2.2.2.2.2.1,(fL.2.2.2.2.2.2.1,(d17,(d18,()))))))))))))))))))))) (br (aH (aj p3.1.2.1 0)) (some ((false,()),(p3.2.1,(p3.2.2.1,(p3.2.2.2.1,(p3.2.2.2.2.1,(p3.2.2.2.2.2.1,(p3.2.2.2.2.2.2.1,(p3.2.2.2.2.2.2.2.1,(p3.2.2.2.2.2.2.2.2.1,(p0.2.2.2.2.2.2.2.2.2.1,(p0.2.2.2.2.2.2.2.2.2.2.1,(p0.2.2.2.2.2.2.2.2.2.2.2.1,(fL.2.1,(fL.2.2.1,(fL.2.2.2.1,(fL.2.2.2.2.1,(fL.2.2.2.2.2.1,(fL.2.2.2.2.2.2.1,(d17,(d18,()))))))))))))))))))))) (k20 ((),((),((),((),())))))))) (fun (AB:(Unit×U0))=>(loop (g.mn a2 p3 fL p1 dG) ((0,()),((),((),((),(p3.2.2.2.1,(p3.2.2.2.2.1,(p3.2.2.2.2.2.1,(p3.2.2.2.2.2.2.1,(p3.2.2.2.2.2.2.2.1,(p3.2.2.2.2.2.2.2.2.1,(p0.2.2.2.2.2.2.2.2.2.1,(p0.2.2.2.2.2.2.2.2.2.2.1,(p0.2.2.2.2.2.2.2.2.2.2.2.1,(fL.2.1,(fL.2.2.2.2.1,(fL.2.2.2.2.2.1,(fL.2.2.2.2.2.2.1,(d17,(d18,())))))))))))))))))))))) (fun nc=>(jn (fun (k28:(Unit×U0)→_)=>(br (aH p0.1.1) (some ((false,()),(p3.2.1,(p3.2.2.1,(p3.2.2.2.1,(p3.2.2.2.2.1,(p3.2.2.2.2.2.1,(p3.2.2.2.2.2.2.1,(p3.2.2.2.2.2.2.2.1,(p3.2.2.2.2.2.2.2.2.1,(p0.2.2.2.2.2.2.2.2.2.1,(p0.2.2.2.2.2.2.2.2.2.2.1,(p0.2.2.2.2.2.2.2.2.2.2.2.1,(fL.2.1,(fL.2.2.1,(fL.2.2.2.1,(fL.2.2.2.2.1,(fL.2.2.2.2.2.1,(fL.2.2.2.2.2.2.1,(d17,(d18,()))))))))))))))))))))) (br (aH (aj p3.1.2.1 0)) (some ((false,()),(p3.2.1,(p3.2.2.1,(p3.2.2.2.1,(p3.2.2.2.2.1,(p3.2.2.2.2.2.1,(p3.2.2.2.2.2.2.1,(p3.2.2.2.2.2.2.2.1,(p3.2.2.2.2.2.2.2.2.1,(p0.2.2.2.2.2.2.2.2.2.1,(p0.2.2.2.2.2.2.2.2.2.2.1,(p0.2.2.2.2.2.2.2.2.2.2.2.1,(fL.2.1,(fL.2.2.1,(fL.2.2.2.1,(fL.2.2.2.2.1,(fL.2.2.2.2.2.1,(fL.2.2.2.2.2.2.1,(d17,(d18,()))))))))))))))))))))) (k28 ((),((),((),((),())))))))) (fun (s29:(Unit×U0))=>(loop (g.gA a2 p3 fL p1 dG nc) ((0,()),((),((),((),(p3.2.2.2.1,(p3.2.2.2.2.1,(p3.2.2.2.2.2.1,(p3.2.2.2.2.2.2.1,(p3.2.2.2.2.2.2.2.1,(p3.2.2.2.2.2.2.2.2.1,(p0.2.2.2.2.2.2.2.2.2.1,(p0.2.2.2.2.2.2.2.2.2.2.1,(p0.2.2.2.2.2.2.2.2.2.2.2.1,(fL.2.1,(fL.2.2.2.2.1,(fL.2.2.2.2.2.1,(fL.2.2.2.2.2.2.1,(d17,(d18,()))))))))))))))))))))))))))))))))))))
def F5:Plain sg5:=fun x c d=>g.iw x.1 x.2.1 x.2.2.1 d.1 d.2.1 d.2.2.1 d.2.2.2.1 d.2.2.2.2.1 d.2.2.2.2.2.1 d.2.2.2.2.2.2.1 d.2.2.2.2.2.2.2.1 d.2.2.2.2.2.2.2.2.1 d.2.2.2.2.2.2.2.2.2.1 d.2.2.2.2.2.2.2.2.2.2.1 d.2.2.2.2.2.2.2.2.2.2.2.1 d.2.2.2.2.2.2.2.2.2.2.2.2.1 d.2.2.2.2.2.2.2.2.2.2.2.2.2.1 d.2.2.2.2.2.2.2.2.2.2.2.2.2.2.1 d.2.2.2.2.2.2.2.2.2.2.2.2.2.2.2.1 d.2.2.2.2.2.2.2.2.2.2.2.2.2.2.2.2.1 d.2.2.2.2.2.2.2.2.2.2.2.2.2.2.2.2.2.1 d.2.2.2.2.2.2.2.2.2.2.2.2.2.2.2.2.2.2.1
theorem ct5:cb Tryz.prog 5 sg5 F5:=cI (ay ahI (ay abr (ay abh (ay ahG (ay ahF (ay ahE (ay ahD (ay ahC (ay ahB (ay ahA (ay ahz (aP)))))))))))) fun x c d=>by kernel_rfl
open Go.Bm Go.jJ
section
variable {p:rM} {md yd k:Nat} {m:M} {b:YB} {v2:LwN} {v3:LwD} {v4:DoY} {v6:LwY}
theorem V5 (hS:St v2.2.1 v2.2.2.1 v3.2.1 v3.2.2.1 v3.2.2.2.1 v3.2.2.2.2.1 v3.2.2.2.2.2.1 v3.2.2.2.2.2.2.1 v3.2.2.2.2.2.2.2.1 v3.2.2.2.2.2.2.2.2.1 v3.2.2.2.2.2.2.2.2.2.1 md k m) (hY:YR yd m b v4.2.1 v6.2.2.1 v6.2.2.2.1 v4.2.2.1 v4.2.2.2.1 v4.2.2.2.2.1 v4.2.2.2.2.2.1 v4.2.2.2.2.2.2.1) (LU:m.p=p)
  (v7:UE→LwR) (v8:UE) (hv:qR (v7 (Y6 (af .i64 v8.1.1 1) v3.2.1 v3.2.2.1 v3.2.2.2.1 v3.2.2.2.2.1 v3.2.2.2.2.2.1 v3.2.2.2.2.2.2.1 v3.2.2.2.2.2.2.2.1 v3.2.2.2.2.2.2.2.2.1 v3.2.2.2.2.2.2.2.2.2.1 v4.2))) :
  qR (loop (g.eY ((p,()),()) md v2 v3 v4 yd v6 v7 v8) (nY 0)):=by
 have C2:=hS.mi.u9
 rw [LU] at C2
 have hb:=hY.nx
 refine vX (fun r (st:Sc1)=>∃s:Nat,r+s=p.1.toNat∧st=nY (s:Int)) qR ?_ (m:=p.1.toNat) ⟨0,by omega,rfl⟩ (by unfold lG;omega)
 rintro r st ⟨s,hr,rfl⟩ G hG
 unfold g.eY nY
 dsimp only
 simp only [hb]
 by_cases h1:s<p.1.toNat
 ·have hP:=Lw hS (s:=(s:Int)) (by rw [LU];omega)
  have hg:nth 0 b.G (nN (s:Int))=(m.bm (s:Int)).gate:=hY.ga _ (by omega) (by rw [LU];omega)
  rw [hg,uz (by omega)]
  repeat refine YS ?_
  exact hG (r-1) _ (by omega) ⟨s+1,by omega,rfl⟩
 ·repeat refine YS ?_
  exact hv
theorem V4 (hS:St v2.2.1 v2.2.2.1 v3.2.1 v3.2.2.1 v3.2.2.2.1 v3.2.2.2.2.1 v3.2.2.2.2.2.1 v3.2.2.2.2.2.2.1 v3.2.2.2.2.2.2.2.1 v3.2.2.2.2.2.2.2.2.1 v3.2.2.2.2.2.2.2.2.2.1 md k m) (hY:YR yd m b v4.2.1 v6.2.2.1 v6.2.2.2.1 v4.2.2.1 v4.2.2.2.1 v4.2.2.2.2.1 v4.2.2.2.2.2.1 v4.2.2.2.2.2.2.1) (LU:m.p=p)
  (v7:UE→LwR) (v8:UE) (hv:qR (v7 (Y6 (af .i64 v8.1.1 1) v3.2.1 v3.2.2.1 v3.2.2.2.1 v3.2.2.2.2.1 v3.2.2.2.2.2.1 v3.2.2.2.2.2.2.1 v3.2.2.2.2.2.2.2.1 v3.2.2.2.2.2.2.2.2.1 v3.2.2.2.2.2.2.2.2.2.1 v4.2))) :
  qR (loop (g.gB v4 yd v6 md v2 v3 ((p,()),()) v7 v8) (nY 0)):=by
 have C2:=hS.mi.u9
 have hb:=hY.nx
 have yh:=hY.ol
 have Nw:=V5 hS hY LU v7 v8 hv
 refine vX (fun r (st:Sc1)=>∃s:Nat,r+s=b.O.length∧st=nY (s:Int)) qR ?_ (m:=b.O.length) ⟨0,by omega,rfl⟩ (by unfold lG;omega)
 rintro r st ⟨i,hr,rfl⟩ G hG
 unfold g.gB nY
 dsimp only
 rcases hY.ow with ⟨w1,w2⟩ | ⟨j,w1,w2⟩
 ·simp only [hb,w1]
  have:b.O.length=0:=by rw [w2];rfl
  repeat refine YS ?_
  exact Nw
 ·simp only [hb,w1]
  have wh:(b.O.map ro).length=b.O.length:=zH ..
  by_cases h1:i<b.O.length
  ·have hq:b.O[i]?=some b.O[i]:=zD h1
   have Np:=List.getElem_mem h1
   have h6:=hY.Dg hS.mi _ Np
   have FA:=hY.sl _ Np
   have hH:=GA hY hS.mi hq
   have v9:=(RO.right hY hS.mi Np).1
   have hfd:=hY.ob.find hS.mi hq
   generalize b.O[i]=q at *
   have hnp:=wc v9
   have hSl:=Om hS (V:=j9 (q.dY,jL m q.dY,q.pl)) ⟨by omega,by omega⟩
   have hms:oi m (j9 (q.dY,jL m q.dY,q.pl))=(q.aS,true):=by
    unfold oi
    rw [xu v9,hfd];rfl
   rw [hms] at hSl
   have Hh:(nth (0,(0,(0,(none,false)))) (b.O.map ro) (nN (i:Int))).2.2.2.1=some q.nm:=by rw [wU hq];rfl
   rw [uz (by omega)]
   repeat refine YS ?_
   dsimp only
   refine vX (fun r (st:Sc1)=>∃s:Nat,r+s=q.aS.length∧st=nY (s:Int)) qR ?_ (m:=q.aS.length) ⟨0,by omega,rfl⟩ (by unfold lG;omega)
   rintro r2 st ⟨t,hr2,rfl⟩ G2 hG2
   unfold g.gC nY
   dsimp only
   by_cases h2:t<q.aS.length
   ·rw [uz (by omega)]
    repeat refine YS ?_
    exact hG2 (r2-1) _ (by omega) ⟨t+1,by omega,rfl⟩
   ·repeat refine YS ?_
    exact hG (r-1) _ (by omega) ⟨i+1,by omega,rfl⟩
  ·repeat refine YS ?_
   exact Nw
theorem V3 {l:List Stp} (hc:∀x∈l,wX x.2) (Sl:dL p=true) {d0:T2} {d1:T3} {d2:T4} {d3:T5} {d4:T6} {d5:T7} {d6:T8} {d7:T9} {d8:dT} {L4:kZ} {sU:hZ} {sT:T4} {AP:gQ} {xz:kS} {tn:dT}
  (hS:St v2.2.1 v2.2.2.1 d0 d1 d2 d3 d4 d5 d6 d7 d8 md 0 m) (hY:YR yd m b L4 v6.2.2.1 v6.2.2.2.1 sU sT AP xz tn) (hp:PI m) (hu:UV m) (LU:m.p=p) :
  qR (loop (g.gA l v2 v6 ((p,()),()) md yd) (Y6 0 d0 d1 d2 d3 d4 d5 d6 d7 d8 (L4,(sU,(sT,(AP,(xz,(tn,())))))))):=by
 have Sn:=da.1 Sl
 refine vX (fun r (st:UE)=>∃(i:Nat) (m:M) (b:YB) (d0:T2) (d1:T3) (d2:T4) (d3:T5) (d4:T6) (d5:T7) (d6:T8) (d7:T9) (d8:dT) (L4:kZ) (sU:hZ) (sT:T4) (AP:gQ) (xz:kS) (tn:dT),r+i=60∧St v2.2.1 v2.2.2.1 d0 d1 d2 d3 d4 d5 d6 d7 d8 md i m∧YR yd m b L4 v6.2.2.1 v6.2.2.2.1 sU sT AP xz tn∧PI m∧UV m∧m.p=p∧st=Y6 (i:Int) d0 d1 d2 d3 d4 d5 d6 d7 d8 (L4,(sU,(sT,(AP,(xz,(tn,()))))))) qR ?_ (m:=60)
  ⟨0,m,b,d0,d1,d2,d3,d4,d5,d6,d7,d8,L4,sU,sT,AP,xz,tn,rfl,hS,hY,hp,hu,LU,rfl⟩ (by unfold lG;omega)
 rintro r st ⟨i,m,b,d0,d1,d2,d3,d4,d5,d6,d7,d8,L4,sU,sT,AP,xz,tn,hri,hS,hY,hp,hu,LU,rfl⟩ G hG
 have eh:=hS.mi.lt
 rw [LU] at eh
 unfold g.gA Y6
 dsimp only
 (refine YS ?_)
 by_cases h1:i<l.length
 ·(refine YS ?_)
  by_cases h2:i<60
  ·have hx:nth (0,(0,(0,(0,(0,(0,(0,0))))))) l (nN (i:Int))=l[i]:=gE h1
   have Hm:=hc l[i] (List.getElem_mem h1)
   have et:dU (bits BinOp.and .i64 l[i].1 1) p.2.1=l[i].1%2%p.2.1:=by
    rw [lH 1 (by omega) (by decide),aT (by omega)];rfl
   have hn:0≤l[i].1%2%p.2.1∧l[i].1%2%p.2.1<m.th.length:=by
    have h3:=Int.emod_nonneg (l[i].1%2) (show p.2.1≠0 by omega)
    have h4:=Int.emod_lt_of_pos (l[i].1%2) (show 0<p.2.1 by omega)
    omega
   have ei:=uz (k:=i) (by omega)
   repeat refine YS ?_
   rw [hx,et]
   generalize l[i].1%2%p.2.1=n at *
   generalize l[i]=z at *
   obtain ⟨w,c⟩:=z
   dsimp only at Hm ⊢
   refine hS.yes (by omega) n Hm fun r0 r1 r2 r3 r4 r5 r6 r7 r8 h'=>?_
   have hl8:=hY.aed hS.mi
   obtain ⟨b',f11,f14,f15,f16,f17,f18,q1,q2⟩:=YK hY hS.mi hS.ct (by omega) hn Hm
   have qN:=Mg (m:=m) hn c
   have yg:=PI.step hS.mi hS.ct hp n c
   have u_:=UV.step hS.mi hS.ct hp hu n c
   have Zp:=(RD m n c).trans LU
   have e1:(m.step n c).1=(if cC c=true then m.act n c else m.code 1).1:=by rw [qN]
   rw [←e1] at q2
   have hSa:=Mv q2 h'.mi h'.ct yg u_
   repeat refine YS ?_
   refine V4 (v3:=((((m.step n c).2.1.1,((m.step n c).2.1.2.1,(m.step n c).2.1.2.2)),((m.step n c).2.2,())),(r0,(r1,(r2,(r3,(r4,(r5,(r6,(r7,(r8,())))))))))))
    (v4:=((((if cC c=true then m.act n c else m.code 1).2.1,((if cC c=true then m.act n c else m.code 1).2.2.1,(if cC c=true then m.act n c else m.code 1).2.2.2)),()),(f11,(f14,(f15,(f16,(f17,(f18,())))))))) h' q2 Zp G _ ?_
   refine hG (r-1) _ (by omega) ⟨i+1,_,b',r0,r1,r2,r3,r4,r5,r6,r7,r8,f11,f14,f15,f16,f17,f18,by omega,h',q2,yg,u_,Zp,?_⟩
   rw [←ei]
  ·(refine YS ?_)
   exact qR.mk
 ·(refine YS ?_)
  exact qR.mk
end
theorem tM (q:rM) (f:List (List h_)) (l:List Stp) (hq:HV (.pair (.int .i64) (.pair (.int .i64) (.pair (.int .i64) (.int .i64)))) q) (hf:HV (.cN (.cN (.pair (.int .u8) (.pair (.int .i64) (.int .i64))))) f)
  (hl:HV (.cN (.pair (.int .i64) (.pair (.int .u8) (.pair (.int .u8) (.pair (.int .u8) (.pair (.int .u8) (.pair (.int .i64) (.pair (.int .i64) (.int .i64))))))))) l):∃d,F5 (q,f,l,()) (HB _) (HB _)=some ((true,()),d):=by
 have tj:∀x∈f,∀o∈x,0≤o.1:=fun x hx o ho=>(((hf.2 x hx).2 o ho).1).1
 have Hm:∀x∈l,wX x.2:=fun x hx=>⟨((hl.2 x hx).2.2.1).1,((hl.2 x hx).2.2.2.1).1,((hl.2 x hx).2.2.2.2.1).1⟩
 show qR (g.iw q f l [] [] [] [] [] [] [] [] [] [] [] [] [] [] [] [] [] [] [])
 unfold g.iw
 obtain ⟨d,hd⟩:=Gk [] [] [] [] [] [] [] [] [] [] []
 refine wR hd ?_
 refine wR (Bq q) ?_
 refine wR (Bp tj) ?_
 obtain ⟨e0,e1,e2,e3,e4,e5,e6,e7,k1,h⟩:=St.new (p:=NV q) (ry q) (Eg f) d.2.2.2.2.2.2.2.2.1 d.2.2.2.2.2.2.2.2.2.1 d.2.2.2.2.2.2.2.2.2.2.1 d.1 d.2.1 d.2.2.1 d.2.2.2.1 d.2.2.2.2.1 d.2.2.2.2.2.1 d.2.2.2.2.2.2.1 d.2.2.2.2.2.2.2.1
 refine wR k1 ?_
 obtain ⟨b,y11,y12,y13,y14,y15,y16,n1,n2,n3⟩:=Ry (ry q) (Eh f) [] [] [] [] [] [] [] []
 repeat refine YS ?_
 exact V3 Hm (ry q) h n2 PI.new (UV.new _ _) rfl
open Go.Bm
open Go.ChangeShapes Go.WideShapes Go.ChangeAt Go.RowKit
theorem Tryz.own:ownKnob Tryz.prog.godebug=none:=by kernel_rfl
theorem Tryz.laidOut:laidOutB Tryz.prog=true:=by kernel_rfl
theorem vV (W:World):Lv Tryz.prog W 32 (.pair (.int .i64) (.pair (.int .i64) (.pair (.int .i64) (.int .i64)))):=(sa Tryz.underlying32 (by kernel_rfl) (.cons (mm Tryz.underlying3) rfl (by kernel_rfl) (.cons (mm Tryz.underlying3) rfl (by kernel_rfl) (.cons (mm Tryz.underlying3) rfl (by kernel_rfl) (.one (mm Tryz.underlying3) rfl (by kernel_rfl))))))
theorem vU (W:World):Lv Tryz.prog W 26 (.cN (.cN (.pair (.int .u8) (.pair (.int .i64) (.int .i64))))):=(IU Tryz.underlying26 (by kernel_rfl) (by decide) (IU Tryz.underlying25 (by kernel_rfl) (by decide) (sa Tryz.underlying24 (by kernel_rfl) (.cons (mm Tryz.underlying5) rfl (by kernel_rfl) (.cons (mm Tryz.underlying3) rfl (by kernel_rfl) (.one (mm Tryz.underlying3) rfl (by kernel_rfl)))))))
theorem vT (W:World):Lv Tryz.prog W 50 (.cN (.pair (.int .i64) (.pair (.int .u8) (.pair (.int .u8) (.pair (.int .u8) (.pair (.int .u8) (.pair (.int .i64) (.pair (.int .i64) (.int .i64))))))))):=(IU Tryz.underlying50 (by kernel_rfl) (by decide) (sa Tryz.underlying54 (by kernel_rfl) (.cons (mm Tryz.underlying3) rfl (by kernel_rfl) (.one (sa Tryz.underlying40 (by kernel_rfl) (.cons (mm Tryz.underlying5) rfl (by kernel_rfl) (.cons (mm Tryz.underlying5) rfl (by kernel_rfl) (.cons (mm Tryz.underlying5) rfl (by kernel_rfl) (.cons (mm Tryz.underlying5) rfl (by kernel_rfl) (.cons (mm Tryz.underlying3) rfl (by kernel_rfl) (.cons (mm Tryz.underlying3) rfl (by kernel_rfl) (.one (mm Tryz.underlying3) rfl (by kernel_rfl))))))))) rfl (by kernel_rfl)))))
set_option maxRecDepth 100000 in
theorem sy (os:Os) (started:os.Started) (H:Type) (enc:TypeId×Value→H) :
  ReturnsInHanded {} Tryz.checked os 5 .any (Rows.modelUnderSpec.pre6 enc Tryz.prog Tryz.f5 Rows.modelUnderRow.domain false) (Rows.modelUnderSpec.post enc Tryz.prog Tryz.f5 false true false false):=by
 refine returnsInHanded_of_change (C:=Tryz.checked) Tryz.own started (by kernel_rfl) Tryz.func5
  (ChangeSpec.witness6 (enc:=enc) (C:=Tryz.checked) false ⟨#[],#[.agg #[.int .i64 0,.int .i64 0,.int .i64 0,.int .i64 0],.slice none 0 0,.slice none 0 0],[]⟩ 8 (by kernel_rfl) (by kernel_rfl) (by kernel_rfl) (by kernel_rfl)) ?_
 intro W base args ds gs before QA hW anq _
 have uN:∀(j:Nat) t v,Tryz.f5.params[j]?=some t→args[j]?=some v→Value.okWide Tryz.prog W .any base t v:=QA
 have hW':=hW
 obtain ⟨p,q,hA0,hV,rfl,hfz,Ul⟩:=hW
 have hA:DataW.TrodAll enc Tryz.prog W 0 (fun _=>true) true Tryz.f5.params.toList args.toList ds p:=hA0
 rw [Tryz.params5] at hA uN
 obtain ⟨v0,v1,v2,d0,d1,d2,p0,p1,p2,rfl,rfl,rfl,h0,h1,h2⟩:=trodAll_three hA
 obtain ⟨rfl,rfl⟩:=trodVars_none hV
 clear hA0 QA
 simp only [List.append_nil] at hW'
 obtain ⟨w0,rfl,_⟩:=okWide_struct Tryz.underlying32 (uN 0 32 v0 rfl rfl)
 obtain ⟨x0,k0,o0⟩:=Mt (vV W) rfl h0
 have c1:v1.cells.toList=[v1]:=by obtain ⟨_,_,_,rfl⟩:=okWide_slice Tryz.underlying26 (uN 1 26 v1 rfl rfl);rfl
 obtain ⟨x1,k1,o1⟩:=IT (vU W) rfl c1 h1
 have c2:v2.cells.toList=[v2]:=by obtain ⟨_,_,_,rfl⟩:=okWide_slice Tryz.underlying50 (uN 2 50 v2 rfl rfl);rfl
 obtain ⟨x2,k2,o2⟩:=IT (vT W) rfl c2 h2
 have eh:∀x∈p0++(p1++p2),x.block<W.heap.size:=fun x hx=>hW'.lt x (by simpa using hx)
 obtain ⟨dd,hF⟩:=tM x0 x1 x2 o0 o1 o2
 refine (JJ ct5 rfl (x0,x1,x2,()) hF rfl (vs:=[.agg w0,v1,v2]) rfl (fun i d v e1 e2=>?_)).mono fun e W' ⟨he,hs⟩=>?_
 ·match i with
  | 0=>cases e1;cases e2;exact k0
  | 1=>cases e1;cases e2;exact k1
  | 2=>cases e1;cases e2;exact k2
  | i+3=>cases e1
 subst he
 have r0:DataW.Trod enc Tryz.prog W' 0 (fun b=>decide (b<W.heap.size)) true 32 (.agg w0) d0 p0:=
  WideElems.Trod_stays Tryz.laidOut (by kernel_rfl) (of_decide_eq_true (by kernel_rfl)) h0 (fun x hx=>hs.sameAt (eh x (by simp [hx]))) (fun x hx=>by simpa using eh x (by simp [hx]))
 have r1:DataW.Trod enc Tryz.prog W' 0 (fun b=>decide (b<W.heap.size)) true 26 (v1) d1 p1:=
  WideElems.Trod_stays Tryz.laidOut (by kernel_rfl) (of_decide_eq_true (by kernel_rfl)) h1 (fun x hx=>hs.sameAt (eh x (by simp [hx]))) (fun x hx=>by simpa using eh x (by simp [hx]))
 have r2:DataW.Trod enc Tryz.prog W' 0 (fun b=>decide (b<W.heap.size)) true 50 (v2) d2 p2:=
  WideElems.Trod_stays Tryz.laidOut (by kernel_rfl) (of_decide_eq_true (by kernel_rfl)) h2 (fun x hx=>hs.sameAt (eh x (by simp [hx]))) (fun x hx=>by simpa using eh x (by simp [hx]))
 refine ⟨_,rfl,_,_,_,[],p0++(p1++p2),[],hW',?_,?_,?_,hs.frame _,fun h=>by cases h⟩
 ·exact trodAll_mk1 (shut_bool Tryz.underlying4 true)
 ·exact trodAll_mk3 r0 r1 r2
 ·exact rfl
theorem modelUnder_holds:Rows.ModelUnderSaid:=
 OpenClaim.holds_of_wide 5 Tryz.f5 rfl rfl rfl rfl rfl rfl rfl ⟨rfl,rfl,rfl,rfl,rfl⟩ rfl rfl rfl rfl rfl (by kernel_rfl) Tryz.func5 (by kernel_rfl)
  (of_decide_eq_true (by kernel_rfl)) (by unfold Func.isWrapper;first | (rw [if_pos (by decide +kernel)];kernel_rfl) | (rw [if_neg (by decide +kernel)];exact ⟨rfl,rfl⟩))
  (fun os started H enc _=>sy os started H enc)
end Go.Proofs.YtihiooaimdoapaaGreat