/- Texts of one proof, put together: see each part. -/
import Derived.Deep.Slices
import Derived.WideShapes
import Derived.ChangeArms
import Derived.Deep.OwnRows
import Derived.WideKeyArgs
import Derived.OpenShut
import Derived.Carry
import Derived.Test.YtihiooaimdoapaaGreatVE
set_option maxHeartbeats 2000000
noncomputable section
set_option linter.unusedVariables false
set_option linter.unusedSimpArgs false
namespace Go.Proofs.YtihiooaimdoapaaGreat
open Go.Bm Go.jG
def No (p:rA):rA:=(1+p.1%8,(1+p.2.1%4,(8*(p.2.2.1%64),8*(p.2.2.2%128))))
theorem qZ (p:rA):dz (No p)=true:=by
 rw [cL];unfold No;simp only;omega
theorem A0 (p:rA):g.jP p=some ((No p,()),()):=by
 unfold g.jP
 rw [lY 3 (by omega) (by decide),lY 2 (by omega) (by decide),lY 6 (by omega) (by decide),lY 7 (by omega) (by decide)]
 rw [aH (by omega),aH (by omega),aZ (by omega),aZ (by omega)]
 rfl
def sH (o:iw):iw:=
 if o.1%5=0 then (o.1%5,(o.2.1%64,0)) else if o.1%5=1 then (o.1%5,(o.2.1%8%6,0)) else if o.1%5=2 then (o.1%5,(o.2.1%8%6,o.2.2%8%6))
 else if o.1%5=3 then (o.1%5,(o.2.1%8%6,o.2.2%8)) else (o.1%5,(0,0))
def m7 (l:List iw):List iw:=(l.take 8).map sH
def DP (f:List (List iw)):List (List iw):=(f.take 8).map m7
theorem BM (o:iw):pZ (sH o):=by
 have e0:o.1%5=0∨o.1%5=1∨o.1%5=2∨o.1%5=3∨o.1%5=4:=by omega
 unfold sH
 rcases e0 with h | h | h | h | h
 ·rw [if_pos h];refine .inl ⟨h,?_,?_,rfl⟩<;>dsimp only<;>omega
 ·rw [if_neg (by omega),if_pos h];refine .inr (.inl ⟨h,?_,?_,rfl⟩)<;>dsimp only<;>omega
 ·rw [if_neg (by omega),if_neg (by omega),if_pos h];refine .inr (.inr (.inl ⟨h,?_,?_,?_,?_⟩))<;>dsimp only<;>omega
 ·rw [if_neg (by omega),if_neg (by omega),if_neg (by omega),if_pos h];refine .inr (.inr (.inr (.inl ⟨h,?_,?_,?_,?_⟩)))<;>dsimp only<;>omega
 ·rw [if_neg (by omega),if_neg (by omega),if_neg (by omega),if_neg (by omega)];exact .inr (.inr (.inr (.inr ⟨h,rfl,rfl⟩)))
theorem DO (f:List (List iw)):lg (DP f):=by
 refine ⟨by unfold DP;simp;omega,fun l hl=>?_⟩
 obtain ⟨l',_,rfl⟩:=List.mem_map.1 hl
 refine ⟨by unfold m7;simp;omega,fun o ho=>?_⟩
 obtain ⟨o',_,rfl⟩:=List.mem_map.1 ho
 exact BM o'
theorem qA {α β:Type} (f:α→β) {l:List α} {k:Nat} (hk:k<l.length):(l.take (k+1)).map f=(l.take k).map f++[f l[k]]:=by
 rw [List.take_add_one,zD hk,List.map_append];rfl
abbrev ahL:Type:=((Int×Unit)×(((List (List iw))×Unit)×(Unit×(Unit×Unit))))
theorem Sb {f:List (List iw)} (sX:∀l∈f,∀o∈l,0≤o.1) {i:Nat} (hi:i<f.length) (hi8:i<8) {out:List (List iw)} (ho:out.length=i) (v1:ahL→Option (((List (List iw))×Unit)×Unit)) :
  loop (g.gX f (((i:Int),()),((out,()),((),((),())))) v1) ((0,()),(([],()),((),((),()))))=v1 ((((i+1:Nat):Int),()),(((out++[m7 f[i]]),()),((),((),())))):=by
 have Dy:nth [] f (nN (i:Int))=f[i]:=gA hi
 have ei:ae IntKind.i64 (i:Int) 1=((i+1:Nat):Int):=by rw [aH (by omega)];omega
 generalize hl:f[i]=l at *
 have sX:=sX l (by rw [←hl];exact List.getElem_mem hi)
 refine (dN (fun k=>((((k:Nat):Int),()),((((l.take k).map sH,()),((),((),())))))) (fun _=>v1 ((((i+1:Nat):Int),()),(((out++[m7 l]),()),((),((),()))))) (min l.length 8) (by unfold lD;omega) (fun K=>?_) (fun k hk=>.inr ⟨rfl,fun K=>?_⟩))
 ·have e8:(l.take (min l.length 8)).map sH=m7 l:=by
   unfold m7
   by_cases h:l.length≤8
   ·rw [Nat.min_eq_left h,List.take_length,za h]
   ·rw [Nat.min_eq_right (by omega)]
  rw [e8]
  unfold g.gX
  dsimp only
  rw [Dy]
  by_cases h:l.length≤8
  ·rw [Nat.min_eq_left h]
   repeat refine HS ?_
   rw [ei];rfl
  ·rw [Nat.min_eq_right (by omega)]
   repeat refine HS ?_
   rw [ei];rfl
 ·have h1:k<l.length:=by omega
  have h2:k<8:=by omega
  have e:∀d,nth d l (nN (k:Int))=l[k]:=fun d=>gA h1
  have h0:=sX l[k] (List.getElem_mem h1)
  have ek:ae IntKind.i64 (k:Int) 1=((k+1:Nat):Int):=by rw [aH (by omega)];omega
  have hlen:((l.take k).map sH).length=k:=by simp;omega
  rw [qA sH h1]
  generalize (l.take k).map sH=p at *
  unfold g.gX
  dsimp only
  rw [Dy,e]
  generalize l[k]=o at *
  have er:eg o.1 5=o.1%5:=aS h0
  have eA:bits BinOp.and IntKind.i64 o.2.1 63=o.2.1%64:=lY 6 (by omega) (by decide)
  have eB:bits BinOp.and IntKind.i64 o.2.1 7=o.2.1%8:=lY 3 (by omega) (by decide)
  have eC:bits BinOp.and IntKind.i64 o.2.2 7=o.2.2%8:=lY 3 (by omega) (by decide)
  have eD:eg (o.2.1%8) 6=o.2.1%8%6:=aS (by omega)
  have eE:eg (o.2.2%8) 6=o.2.2%8%6:=aS (by omega)
  rw [er,eA,eB,eC,eD,eE,ek]
  unfold sH
  by_cases c0:o.1%5=0
  ·rw [if_pos c0]
   repeat refine HS ?_
   rfl
  rw [if_neg c0]
  by_cases c1:o.1%5=1
  ·rw [if_pos c1]
   repeat refine HS ?_
   rfl
  rw [if_neg c1]
  by_cases c2:o.1%5=2
  ·rw [if_pos c2]
   repeat refine HS ?_
   rfl
  rw [if_neg c2]
  by_cases c3:o.1%5=3
  ·rw [if_pos c3]
   repeat refine HS ?_
   rfl
  rw [if_neg c3]
  repeat refine HS ?_
  rfl
theorem AZ {f:List (List iw)} (sX:∀l∈f,∀o∈l,0≤o.1):g.jO f=some ((DP f,()),()):=by
 unfold g.jO
 refine (dN (fun k=>((((k:Nat):Int),()),((((f.take k).map m7,()),((),((),())))))) (fun _=>some ((DP f,()),())) (min f.length 8) (by unfold lD;omega) (fun K=>?_) (fun k hk=>.inr ⟨rfl,fun K=>?_⟩))
 ·have e8:(f.take (min f.length 8)).map m7=DP f:=by
   unfold DP
   by_cases h:f.length≤8
   ·rw [Nat.min_eq_left h,List.take_length,za h]
   ·rw [Nat.min_eq_right (by omega)]
  rw [e8]
  unfold g.jZ
  dsimp only
  by_cases h:f.length≤8
  ·rw [Nat.min_eq_left h]
   by_cases h8:f.length=8
   ·repeat refine HS ?_
    rfl
   ·repeat refine HS ?_
    rfl
  ·rw [Nat.min_eq_right (by omega)]
   repeat refine HS ?_
   rfl
 ·have h1:k<f.length:=by omega
  have h2:k<8:=by omega
  have hlen:((f.take k).map m7).length=k:=by simp;omega
  rw [qA m7 h1]
  unfold g.jZ
  dsimp only
  repeat refine HS ?_
  exact Sb sX h1 h2 hlen K
section
variable {c0:T0} {c1:T1} {d0:T2} {d1:T3} {d2:T4} {d3:T5} {d4:T6} {d5:T7} {d6:T8} {d7:T9} {d8:dQ} {md:Nat} {m:M} {k:Nat}
theorem abz (h:St c0 c1 d0 d1 d2 d3 d4 d5 d6 d7 d8 md k m) {s:Int} (hs:0≤s∧s<m.p.1):g.kf md s c0 c1 d0 d1 d2 d3 d4 d5 d6 d7 d8=some (((ah m.sc s).1,(0,())),()):=by
 obtain ⟨⟨N,L,es,hr⟩,hi,hc⟩:=h
 have b2:=rp hr
 have zf:=hi.si.len
 have hC:=oT hr.sr s (by omega)
 have Dx:lz m.sc 0 s=true:=cg.2 ⟨hs.1,by rw [hi.ls];exact hs.2⟩
 unfold j9 at hC
 rw [if_pos Dx] at hC
 unfold g.kf
 repeat refine HS ?_
 rfl
theorem Yu (h:St c0 c1 d0 d1 d2 d3 d4 d5 d6 d7 d8 md k m) {s:Int} (hs:0≤s∧s<m.p.1):∃o,g.jA md s c0 c1 d0 d1 d2 d3 d4 d5 d6 d7 d8=some ((((m.bA s).used,((m.bA s).gate,o)),()),()):=by
 obtain ⟨⟨N,L,es,hr⟩,hi,hc⟩:=h
 have b3:=rq hr
 have BG:=hr.ar
 have Ls:=pM hr hi
 have hp:=hi.vI
 obtain ⟨na,xg,BD⟩:=yi hr hi hs
 have wM:aK IntKind.i64 (zN (len (L.map fun a=>(a.used,(a.gate,a.jo))))) 1=(L.length:Int)-1:=by
  rw [cz,bt,zH,aL (by omega)]
 have hw:within s 0 (aK IntKind.i64 (zN (len (L.map fun a=>(a.used,(a.gate,a.jo))))) 1)=true:=by
  rw [wM,bG];omega
 refine ⟨na.jo,?_⟩
 unfold g.jA
 repeat refine HS ?_
 rw [pL xg,BD]
 rfl
theorem SR (h:St c0 c1 d0 d1 d2 d3 d4 d5 d6 d7 d8 md k m) {s:Int} (hs:0≤s∧s<m.p.1):g.jU md s c0 c1 d0 d1 d2 d3 d4 d5 d6 d7 d8=some (((m.bA s).used,()),()):=by
 obtain ⟨o,ho⟩:=Yu h hs
 unfold g.jU
 rw [ho];rfl
theorem K4 (h:St c0 c1 d0 d1 d2 d3 d4 d5 d6 d7 d8 md k m) {s:Int} (hs:0≤s∧s<m.p.1):g.iH md s c0 c1 d0 d1 d2 d3 d4 d5 d6 d7 d8=some (((m.bA s).gate,()),()):=by
 obtain ⟨o,ho⟩:=Yu h hs
 unfold g.iH
 rw [ho];rfl
theorem Hm (h:St c0 c1 d0 d1 d2 d3 d4 d5 d6 d7 d8 md k m) {n:Int} (hn:0≤n∧n<m.th.length):g.gZ md n c0 c1 d0 d1 d2 d3 d4 d5 d6 d7 d8=some (((m.aA n).aF,()),()):=by
 obtain ⟨⟨N,L,es,hr⟩,hi,hc⟩:=h
 have b4:=D2 hr
 have uC:=hr.th
 have dP:=hi.lt
 have hp:=hi.vI
 have ht:=(hi.aA hn).2.2.len
 have hw:within n 0 (aK IntKind.i64 (zN (len (m.th.map fun t=>(t.cP,t.aF)))) 1)=true:=by
  rw [cz,bt,zH,aL (by omega),bG];omega
 have sB:=oD (l:=(m.aA n).aF) (by omega)
 have anm:g.gL (nth ([0,0,0,0],[]) (m.th.map fun t=>(t.cP,t.aF)) (nN n)).2=some (((m.aA n).aF,()),()):=by rw [mW hn];exact sB
 unfold g.gZ
 repeat refine HS ?_
 rfl
theorem GZ {l:List Int} (h:l.length=4):tM 0 4 l=l:=by
 match l,h with
 | [a,b,c,d],_=>rfl
theorem SU (h:St c0 c1 d0 d1 d2 d3 d4 d5 d6 d7 d8 md k m) {n:Int} (hn:0≤n∧n<m.th.length):g.jV md n c0 c1 d0 d1 d2 d3 d4 d5 d6 d7 d8=some (((m.aA n).cP,()),()):=by
 obtain ⟨⟨N,L,es,hr⟩,hi,hc⟩:=h
 have b4:=D2 hr
 have uC:=hr.th
 have dP:=hi.lt
 have hp:=hi.vI
 have ht:=(hi.aA hn).1
 have hw:within n 0 (aK IntKind.i64 (zN (len (m.th.map fun t=>(t.cP,t.aF)))) 1)=true:=by
  rw [cz,bt,zH,aL (by omega),bG];omega
 have xY:(tM 0 4 (nth ([0,0,0,0],[]) (m.th.map fun t=>(t.cP,t.aF)) (nN n)).1)=(m.aA n).cP:=by rw [mW hn];exact GZ ht
 unfold g.jV
 repeat refine HS ?_
 rw [xY]
 repeat refine HS ?_
 rfl
end
end Go.Proofs.YtihiooaimdoapaaGreat
namespace Go.jG
open Go.Bm
structure Kept (m m':M):Prop where
 th:m'.th=m.th
 sc:m'.sc=m.sc
 ga:∀s,(m'.bA s).gate=(m.bA s).gate
 us:∀s,(m'.bA s).used=(m.bA s).used
def Ref (m:M) (o:Out):Prop:=o.2.1≠0→Kept m o.1∧(o.2.1=25∨(o.2.2.1=0∧o.2.2.2=[]))
open Go.Bm
def SW (n:Int) (m m':M):Prop:=∀j:Nat,j≠n.toNat→m'.th[j]?=m.th[j]?
structure Calm (m m':M):Prop where
 sc:m'.sc=m.sc
 ar:m'.ar=m.ar
open Go.Bm
def qi (l:List Xt) (a:Int):Prop:=∃x∈l,x.1≤a∧a<x.1+x.2
def apart (l:List Xt):Prop:=l.Pairwise fun x y=>x.1+x.2<y.1
def ta (l:List Xt):Prop:=l.Pairwise fun x y=>x.1+x.2≤y.1
def clip:List Xt→Int→List Xt
 | [],_=>[]
 | x::l,e=>if x.1<e then (x.1,min x.2 (e-x.1))::clip l e else clip l e
def w8 (x:Xt):Prop:=x.1%8=0∧x.2%8=0∧8≤x.2
theorem apart.ta {l:List Xt} (h:apart l):ta l:=h.imp fun h=>by omega
theorem nJ:∀{l:List Xt} {e:Int},(∀y∈l,e≤y.1)→clip l e=[]
 | [],_,_=>rfl
 | x::l,e,h=>by
  unfold clip
  rw [if_neg (by have:=h x (zV ..);omega)]
  exact nJ fun y hy=>h y (zT _ hy)
theorem B7:∀{l:List Xt} {e:Int},(∀y∈l,y.1+y.2≤e∧8≤y.2)→clip l e=l
 | [],_,_=>rfl
 | x::l,e,h=>by
  have:=h x (zV ..)
  unfold clip
  rw [if_pos (by omega),B7 fun y hy=>h y (zT _ hy),Int.min_eq_left (by omega)]
theorem nI {x:Xt} {l:List Xt} {a:Int}:qi (x::l) a↔(x.1≤a∧a<x.1+x.2)∨qi l a:=by
 unfold qi;simp only [List.mem_cons,exists_eq_or_imp]
theorem Fw:∀{l:List Xt} {e:Int},(∀y∈l,w8 y)→e%8=0→¬qi l e→clip l (e+8)=clip l e
 | [],_,_,_,_=>rfl
 | x::l,e,h,he,hc=>by
  rw [nI] at hc
  have hx:=h x (zV ..)
  unfold w8 at hx
  have ih:=Fw (fun y hy=>h y (zT _ hy)) he fun h=>hc (.inr h)
  unfold clip
  rw [ih]
  by_cases h1:x.1<e
  ·rw [if_pos h1,if_pos (by omega)]
   have:x.1+x.2≤e:=by have:¬(x.1≤e∧e<x.1+x.2):=fun h=>hc (.inl h);omega
   rw [Int.min_eq_left (by omega),Int.min_eq_left (by omega)]
  ·rw [if_neg h1,if_neg]
   have:¬(x.1≤e∧e<x.1+x.2):=fun h=>hc (.inl h)
   omega
theorem apart.tl {x:Xt} {l:List Xt} (h:apart (x::l)):apart l:=(List.pairwise_cons.1 h).2
theorem apart.hd {x:Xt} {l:List Xt} (h:apart (x::l)):∀y∈l,x.1+x.2<y.1:=(List.pairwise_cons.1 h).1
theorem B5:∀{l:List Xt} {e:Int},apart l→(∀y∈l,w8 y)→e%8=0→qi l e→¬qi l (e-8)→clip l (e+8)=clip l e++[(e,8)]
 | [],_,_,_,_,hc,_=>by obtain ⟨_,h,_⟩:=hc;cases h
 | x::l,e,ha,h,he,hc,hn=>by
  rw [nI] at hc hn
  have hx:=h x (zV ..)
  unfold w8 at hx
  have hd:=ha.hd
  rcases hc with hc | hc
  ·have h1:x.1=e:=by
    have:¬(x.1≤e-8∧e-8<x.1+x.2):=fun h=>hn (.inl h)
    omega
   have hl:∀y∈l,e+8≤y.1:=fun y hy=>by have:=hd y hy;omega
   unfold clip
   rw [if_pos (by omega),if_neg (by omega),nJ hl,nJ (fun y hy=>by have:=hl y hy;omega),h1,Int.min_eq_right (by omega)]
   show [(e,e+8-e)]=[(e,8)]
   rw [show e+8-e=8 by omega]
  ·have ih:=B5 ha.tl (fun y hy=>h y (zT _ hy)) he hc fun h=>hn (.inr h)
   obtain ⟨y,hy,h2⟩:=hc
   have:=hd y hy
   unfold clip
   rw [ih,if_pos (by omega),if_pos (by omega),Int.min_eq_left (by omega),Int.min_eq_left (by omega)]
   rfl
theorem B4:∀{l:List Xt} {e:Int},apart l→(∀y∈l,w8 y)→e%8=0→qi l e→qi l (e-8)→∃A a s,clip l e=A++[(a,s)]∧clip l (e+8)=A++[(a,s+8)]∧0<s∧a+s=e
 | [],_,_,_,_,hc,_=>by obtain ⟨_,h,_⟩:=hc;cases h
 | x::l,e,ha,h,he,hc,hn=>by
  rw [nI] at hc hn
  have hx:=h x (zV ..)
  unfold w8 at hx
  have hd:=ha.hd
  rcases hc with hc | hc
  ·have hl:∀y∈l,e+8≤y.1:=fun y hy=>by
    have:=hd y hy;have:=h y (zT _ hy);unfold w8 at this;omega
   have h1:x.1≤e-8:=by
    rcases hn with hn | ⟨y,hy,hn⟩
    ·omega
    ·have:=hl y hy;omega
   refine ⟨[],x.1,e-x.1,?_,?_,by omega,by omega⟩
   ·unfold clip
    rw [if_pos (by omega),nJ (fun y hy=>by have:=hl y hy;omega),Int.min_eq_right (by omega)]
    rfl
   ·unfold clip
    rw [if_pos (by omega),nJ hl,Int.min_eq_right (by omega),show e+8-x.1=e-x.1+8 by omega]
    rfl
  ·have MZ:qi l (e-8):=by
    rcases hn with hn | hn
    ·obtain ⟨y,hy,h2⟩:=hc
     have:=hd y hy
     have:=h y (zT _ hy);unfold w8 at this;exact ⟨y,hy,by omega⟩
    ·exact hn
   obtain ⟨A,a,s,h3,h4,h5,h6⟩:=B4 ha.tl (fun y hy=>h y (zT _ hy)) he hc MZ
   obtain ⟨y,hy,h2⟩:=hc
   have:=hd y hy
   refine ⟨x::A,a,s,?_,?_,h5,h6⟩
   ·unfold clip
    rw [h3,if_pos (by omega),Int.min_eq_left (by omega)]
    rfl
   ·unfold clip
    rw [h4,if_pos (by omega),Int.min_eq_left (by omega)]
    rfl
theorem apart.sub {l l':List Xt} (h:apart l) (hs:l'.Sublist l):apart l':=List.Pairwise.sublist hs h
theorem Cc {l l':List Xt} {n a:Int} (h:apart l) (hn:0<n) (hc:jF l n=some (a,l')):apart l':=by
 unfold jF at hc
 cases hb:jh l n with
 | none=>rw [hb] at hc;cases hc
 | some i=>
  rw [hb] at hc
  simp only [zI,zU] at hc
  obtain ⟨rfl,rfl⟩:=hc
  obtain ⟨hi,hg⟩:=mr hb
  split
  ·exact h.sub (List.eraseIdx_sublist ..)
  ·unfold apart at h ⊢
   rw [zA,zD hi] at hg ⊢
   simp only [Option.getD_some] at hg ⊢
   rw [List.pairwise_iff_getElem] at h ⊢
   intro j k hj hk hjk
   rw [zM] at hj hk
   have h0:=h j k hj hk hjk
   rw [List.getElem_set,List.getElem_set]
   split
   ·rename_i e;subst e
    rw [if_neg (by omega)]
    show l[i].1+n+(l[i].2-n)<_
    omega
   ·split
    ·rename_i e;subst e
     show _<l[i].1+n
     omega
    ·exact h0
theorem iJ {l l':List Xt} {a:Int}:qi (l++l') a↔qi l a∨qi l' a:=by
 unfold qi
 constructor
 ·rintro ⟨x,hx,h⟩
  rcases zX.1 hx with hx | hx
  ·exact .inl ⟨x,hx,h⟩
  ·exact .inr ⟨x,hx,h⟩
 ·rintro (⟨x,hx,h⟩ | ⟨x,hx,h⟩)
  ·exact ⟨x,zQ _ hx,h⟩
  ·exact ⟨x,zS _ hx,h⟩
theorem qg {x:Xt} {a:Int}:qi [x] a↔x.1≤a∧a<x.1+x.2:=by unfold qi;simp
theorem apart.out {A B:List Xt} {x:Xt} (h:apart (A++x::B)) (a:Int) (hx:x.1≤a∧a<x.1+x.2):¬qi A a∧¬qi B a:=by
 unfold apart at h
 rw [List.pairwise_append,List.pairwise_cons] at h
 obtain ⟨h1,⟨h2,h3⟩,h4⟩:=h
 constructor
 ·rintro ⟨y,hy,h5⟩
  have:=h4 y hy x (zV ..)
  omega
 ·rintro ⟨y,hy,h5⟩
  have:=h2 y hy
  omega
theorem Hg {l l':List Xt} {n a:Int} (h:apart l) (hn:0<n) (hc:jF l n=some (a,l')) (b:Int):qi l' b↔qi l b∧¬(a≤b∧b<a+n):=by
 unfold jF at hc
 cases hb:jh l n with
 | none=>rw [hb] at hc;cases hc
 | some i=>
  rw [hb] at hc
  simp only [zI,zU] at hc
  obtain ⟨rfl,rfl⟩:=hc
  obtain ⟨hi,hg⟩:=mr hb
  rw [zA,zD hi] at hg ⊢
  simp only [Option.getD_some] at hg ⊢
  have hl:l=l.take i++l[i]::l.drop (i+1):=by rw [←List.drop_eq_getElem_cons hi,zP]
  have hs:∀x,l.set i x=l.take i++x::l.drop (i+1):=fun x=>by rw [List.set_eq_take_append_cons_drop,if_pos hi]
  have he:l.eraseIdx i=l.take i++l.drop (i+1):=List.eraseIdx_eq_take_drop_succ ..
  generalize l[i]=x at *
  generalize l.take i=A at *
  generalize l.drop (i+1)=B at *
  rw [hl] at h
  have sw:=h.out b
  rw [hl,iJ,nI]
  split
  ·rename_i e
   rw [←hl,he,iJ]
   constructor
   ·intro h1
    refine ⟨h1.elim .inl fun h=>.inr (.inr h),fun h2=>?_⟩
    have:=sw (by omega)
    exact h1.elim this.1 this.2
   ·rintro ⟨h1 | h1 | h1,h2⟩
    ·exact .inl h1
    ·omega
    ·exact .inr h1
  ·rename_i e
   rw [←hl,hs,iJ,nI]
   constructor
   ·intro h1
    refine ⟨?_,fun h2=>?_⟩
    ·rcases h1 with h1 | h1 | h1
     ·exact .inl h1
     ·simp only at h1;exact .inr (.inl (by omega))
     ·exact .inr (.inr h1)
    ·have:=sw (by omega)
     rcases h1 with h1 | h1 | h1
     ·exact this.1 h1
     ·simp only at h1;omega
     ·exact this.2 h1
   ·rintro ⟨h1 | h1 | h1,h2⟩
    ·exact .inl h1
    ·exact .inr (.inl (by simp only;omega))
    ·exact .inr (.inr h1)
theorem GI {acc:List Xt} {x:Xt} (ha:∀y∈acc,0≤y.2) (hx:0≤x.2) (b:Int):qi (jB acc x) b↔qi acc b∨(x.1≤b∧b<x.1+x.2):=by
 unfold jB
 rcases List.eq_nil_or_concat acc with rfl | ⟨A,y,rfl⟩
 ·simp only [List.getLast?_nil]
  rw [qg]
  constructor
  ·exact .inr
  ·rintro (⟨_,h,_⟩ | h)
   ·cases h
   ·exact h
 ·rw [List.concat_eq_append] at *
  have hy:=ha y (by simp)
  simp only [List.getLast?_append,List.getLast?_singleton,Option.some_or,List.dropLast_concat]
  split
  ·rename_i h
   rw [iJ,iJ,qg,qg]
   simp only
   constructor
   ·rintro (h1 | h1)
    ·exact .inl (.inl h1)
    ·by_cases h2:b<y.1+y.2
     ·exact .inl (.inr ⟨h1.1,h2⟩)
     ·exact .inr (by omega)
   ·rintro ((h1 | h1) | h1)
    ·exact .inl h1
    ·exact .inr (by omega)
    ·exact .inr (by omega)
  ·rw [iJ,qg]
theorem xU {acc:List Xt} {x:Xt} (ha:∀y∈acc,0≤y.2) (hx:0≤x.2):∀y∈jB acc x,0≤y.2:=by
 intro y hy
 unfold jB at hy
 split at hy
 ·rename_i z hz
  have hz':=ha z (List.mem_of_getLast? hz)
  split at hy
  ·rcases zX.1 hy with hy | hy
   ·exact ha y (List.dropLast_subset _ hy)
   ·rcases zF.1 hy with rfl
    simp only;omega
  ·rcases zX.1 hy with hy | hy
   ·exact ha y hy
   ·rcases zF.1 hy with rfl;exact hx
 ·rcases zF.1 hy with rfl;exact hx
theorem vM:∀(l acc:List Xt),(∀y∈acc,0≤y.2)→(∀y∈l,0≤y.2)→∀b,qi (gB acc l) b↔qi acc b∨qi l b
 | [],acc,_,_,b=>by
  show qi acc b↔_
  exact ⟨.inl,fun h=>h.elim id (by rintro ⟨_,h,_⟩;cases h)⟩
 | x::l,acc,ha,hl,b=>by
  have hx:=hl x (zV ..)
  show qi (gB (jB acc x) l) b↔_
  rw [vM l _ (xU ha hx) (fun y hy=>hl y (zT _ hy)),GI ha hx,nI,or_assoc]
theorem sk:∀(l acc:List Xt),(∀y∈l,0≤y.2)→(∀y∈acc,0≤y.2)→apart acc→ta l→(∀y∈acc,∀x∈l,y.1+y.2≤x.1)→apart (gB acc l)
 | [],acc,_,_,h,_,_=>h
 | x::l,acc,hp,hq,h,hw,hc=>by
  show apart (gB (jB acc x) l)
  have hx:∀y∈l,x.1+x.2≤y.1:=(List.pairwise_cons.1 hw).1
  have Lk:=hp x (zV ..)
  have hxc:∀y∈acc,y.1+y.2≤x.1:=fun y hy=>hc y hy x (zV ..)
  refine sk l _ (fun y hy=>hp y (zT _ hy)) (xU hq Lk) ?_ (List.pairwise_cons.1 hw).2 ?_
  ·unfold jB
   rcases List.eq_nil_or_concat acc with rfl | ⟨A,y,rfl⟩
   ·simp only [List.getLast?_nil]
    exact List.pairwise_singleton _ _
   ·rw [List.concat_eq_append] at *
    simp only [List.getLast?_append,List.getLast?_singleton,Option.some_or,List.dropLast_concat]
    unfold apart at h ⊢
    have h':=h
    rw [List.pairwise_append] at h
    obtain ⟨h1,_,h3⟩:=h
    have h3:=fun a ha=>h3 a ha y (List.mem_singleton_self _)
    split
    ·rename_i e
     rw [List.pairwise_append]
     refine ⟨h1,List.pairwise_singleton _ _,fun a ha b hb=>?_⟩
     rcases zF.1 hb with rfl
     exact h3 a ha
    ·rename_i e
     rw [List.pairwise_append]
     refine ⟨h',List.pairwise_singleton _ _,fun a ha b hb=>?_⟩
     rcases zF.1 hb with rfl
     have h5:=hxc y (by simp)
     rcases zX.1 ha with ha | ha
     ·have:=h3 a ha
      have:=hq y (by simp)
      omega
     ·rcases zF.1 ha with rfl
      omega
  ·intro y hy z hz
   unfold jB at hy
   have hxz:=hx z hz
   split at hy
   ·rename_i q hq
    split at hy
    ·rcases zX.1 hy with hy | hy
     ·exact hc y (List.dropLast_subset _ hy) z (zT _ hz)
     ·rcases zF.1 hy with rfl
      simp only;omega
    ·rcases zX.1 hy with hy | hy
     ·exact hc y hy z (zT _ hz)
     ·rcases zF.1 hy with rfl;exact hxz
   ·rcases zF.1 hy with rfl;exact hxz
theorem uk:∀(l:List Xt) (a:Int),∀x∈l.take (behind l a),x.1+x.2≤a
 | [],_,x,h=>by cases h
 | y::l,a,x,h=>by
  unfold behind at h
  split at h
  ·cases h
  ·rename_i hy
   rw [List.take_succ_cons] at h
   rcases List.mem_cons.1 h with rfl | h
   ·omega
   ·exact uk l a x h
theorem vX {fr en:Int} {l l':List Xt} {a n:Int} (h:tK fr en l a n=some l'):1≤n∧l'=gB [] (l.take (behind l a)++[(a,n)]++l.drop (behind l a))∧(behind l a<l.length→a+n≤(l.getD (behind l a) (0,0)).1):=by
 unfold tK at h
 split at h
 ·cases h
 ·rename_i c1
  split at h
  ·cases h
  ·rename_i c2
   refine ⟨by omega,by injection h with h;exact h.symm,fun hb=>?_⟩
   have:¬((l.getD (behind l a) (0,0)).1<a+n):=fun h=>c2 ⟨hb,h⟩
   omega
theorem GS {l:List Xt} {a n:Int} (ha:apart l) (hp:∀y∈l,0≤y.2) (hn:1≤n) (hb:behind l a<l.length→a+n≤(l.getD (behind l a) (0,0)).1):ta (l.take (behind l a)++[(a,n)]++l.drop (behind l a)):=by
 have h1:=uk l a
 have hl:l.take (behind l a)++l.drop (behind l a)=l:=zP ..
 have h2:∀x∈l.drop (behind l a),a+n≤x.1:=by
  intro x hx
  by_cases dP:behind l a<l.length
  ·have:=hb dP
   rw [zA,zD dP,Option.getD_some] at this
   rw [List.drop_eq_getElem_cons dP] at hx
   rcases List.mem_cons.1 hx with rfl | hx
   ·exact this
   ·have h3:apart (l[behind l a]::l.drop (behind l a+1)):=by
     rw [←List.drop_eq_getElem_cons dP];exact ha.sub (List.drop_sublist ..)
    have:=h3.hd x hx
    have:=hp _ (List.getElem_mem dP)
    omega
  ·rw [List.drop_of_length_le (by omega)] at hx;cases hx
 have hw:ta (l.take (behind l a)++l.drop (behind l a)):=by rw [hl];exact ha.ta
 unfold ta at hw ⊢
 rw [List.append_assoc,List.pairwise_append]
 rw [List.pairwise_append] at hw
 refine ⟨hw.1,?_,?_⟩
 ·show List.Pairwise _ ((a,n)::l.drop (behind l a))
  rw [List.pairwise_cons]
  exact ⟨h2,hw.2.1⟩
 ·intro x hx y hy
  rcases List.mem_cons.1 hy with rfl | hy
  ·exact h1 x hx
  ·exact hw.2.2 x hx y hy
theorem DF {fr en:Int} {l l':List Xt} {a n:Int} (ha:apart l) (hp:∀y∈l,0≤y.2) (h:tK fr en l a n=some l'):apart l':=by
 obtain ⟨h1,rfl,h3⟩:=vX h
 refine sk _ _ ?_ (fun y hy=>by cases hy) List.Pairwise.nil (GS ha hp h1 h3) (fun y hy=>by cases hy)
 intro y hy
 simp only [zX,zF] at hy
 rcases hy with (hy | rfl) | hy
 ·exact hp y (List.mem_of_mem_take hy)
 ·show 0≤n;omega
 ·exact hp y (List.mem_of_mem_drop hy)
theorem J4 {fr en:Int} {l l':List Xt} {a n:Int} (hp:∀y∈l,0≤y.2) (h:tK fr en l a n=some l') (b:Int):qi l' b↔qi l b∨(a≤b∧b<a+n):=by
 obtain ⟨h1,rfl,h3⟩:=vX h
 rw [vM _ _ (fun y hy=>by cases hy)]
 ·have hl:qi l b↔qi (l.take (behind l a)) b∨qi (l.drop (behind l a)) b:=by rw [←iJ,zP]
  rw [iJ,iJ,qg,hl]
  constructor
  ·rintro (⟨_,h,_⟩ | (h | h) | h)
   ·cases h
   ·exact .inl (.inl h)
   ·exact .inr h
   ·exact .inl (.inr h)
  ·rintro ((h | h) | h)
   ·exact .inr (.inl (.inl h))
   ·exact .inr (.inr h)
   ·exact .inr (.inl (.inr h))
 ·intro y hy
  simp only [zX,zF] at hy
  rcases hy with (hy | rfl) | hy
  ·exact hp y (List.mem_of_mem_take hy)
  ·show 0≤n;omega
  ·exact hp y (List.mem_of_mem_drop hy)
structure GB (fr en:Int) (bits:List Bool) (fl:List Xt):Prop where
 len:(bits.length:Int)*8=en-fr
 ap:apart fl
 wd:∀i:Nat,i<bits.length→(bits.getD i false=true↔qi fl (fr+8*i))
def mX (bits:List Bool) (k:Nat) (v:Bool):Nat→List Bool
 | 0=>bits
 | n+1=>(mX bits k v n).set (k+n) v
theorem oR (bits:List Bool) (k:Nat) (v:Bool):∀n,(mX bits k v n).length=bits.length
 | 0=>rfl
 | n+1=>by unfold mX;rw [zM];exact oR bits k v n
theorem xC (bits:List Bool) (k:Nat) (v:Bool):∀(n i:Nat),i<bits.length→(mX bits k v n).getD i false=if k≤i∧i<k+n then v else bits.getD i false
 | 0,i,h=>by rw [if_neg (by omega)];rfl
 | n+1,i,h=>by
  have ih:=xC bits k v n i h
  unfold mX
  rw [zA,List.getElem?_set,oR]
  by_cases e:k+n=i
  ·rw [if_pos e,if_pos (by omega),if_pos (by omega)];rfl
  ·rw [if_neg e,←zA,ih]
   by_cases h2:k≤i∧i<k+n
   ·rw [if_pos h2,if_pos (by omega)]
   ·rw [if_neg h2,if_neg (by omega)]
theorem GB.set {fr en:Int} {bits:List Bool} {fl tL:List Xt} (h:GB fr en bits fl) (ha:apart tL) {k n:Nat} {v:Bool} (hc:∀i:Nat,i<bits.length→(qi tL (fr+8*i)↔if k≤i∧i<k+n then v=true else qi fl (fr+8*i))):GB fr en (mX bits k v n) tL:=by
 refine ⟨by rw [oR];exact h.len,ha,fun i hi=>?_⟩
 rw [oR] at hi
 rw [xC _ _ _ _ _ hi,hc i hi]
 split
 ·exact Iff.rfl
 ·exact h.wd i hi
theorem Cb {fr en:Int} {l l':List Xt} {a n:Int} (hf:∀x∈l,lQ fr en x) (hc:jF l n=some (a,l')):fr≤a∧a+n≤en∧a%8=0:=by
 unfold jF at hc
 cases hb:jh l n with
 | none=>rw [hb] at hc;cases hc
 | some i=>
  rw [hb] at hc
  simp only [zI,zU] at hc
  obtain ⟨rfl,_⟩:=hc
  obtain ⟨hi,hg⟩:=mr hb
  rw [zA,zD hi] at hg ⊢
  simp only [Option.getD_some] at hg ⊢
  have:=hf _ (List.getElem_mem hi)
  unfold lQ at this
  omega
theorem GB.jF {fr en:Int} {bits:List Bool} {l l':List Xt} (h:GB fr en bits l) (h0:fr%8=0) (hf:∀x∈l,lQ fr en x) {a n:Int} (hn:0<n∧n%8=0) (hc:jF l n=some (a,l')):GB fr en (mX bits ((a-fr) / 8).toNat false (n / 8).toNat) l':=by
 have h1:=Cb hf hc
 refine h.set (Cc h.ap hn.1 hc) fun i hi=>?_
 rw [Hg h.ap hn.1 hc]
 split
 ·simp only [Bool.false_eq_true,iff_false]
  rintro ⟨_,h3⟩
  exact h3 (by omega)
 ·exact ⟨fun h=>h.1,fun h=>⟨h,by omega⟩⟩
theorem GB.tK {fr en:Int} {bits:List Bool} {l l':List Xt} (h:GB fr en bits l) (h0:fr%8=0) (hf:∀x∈l,lQ fr en x) {a n:Int} (hx:lQ fr en (a,n)) (hc:tK fr en l a n=some l'):GB fr en (mX bits ((a-fr) / 8).toNat true (n / 8).toNat) l':=by
 have hp:∀y∈l,0≤y.2:=fun y hy=>by have:=hf y hy;unfold lQ at this;omega
 unfold lQ at hx
 simp only at hx
 refine h.set (DF h.ap hp hc) fun i hi=>?_
 rw [J4 hp hc]
 split
 ·simp only [iff_true]
  exact .inr (by omega)
 ·exact ⟨fun h=>h.elim id fun h=>by omega,.inl⟩
theorem GB.busy {fr en:Int} {bits:List Bool} {l:List Xt} (h:GB fr en bits l) (h0:fr%8=0) (hf:∀x∈l,lQ fr en x) {x:Xt} (hx:lQ fr en x) (hd:∀y∈l,dj x y) {i:Nat} (hi:(x.1-fr) / 8≤i∧(i:Int)<(x.1-fr) / 8+x.2 / 8):bits.getD i false=false:=by
 cases hb:bits.getD i false with
 | false=>rfl
 | true=>
  unfold lQ at hx
  have hl:=h.len
  obtain ⟨y,hy,h2⟩:=(h.wd i (by omega)).1 hb
  have:=hd y hy
  unfold dj at this
  omega
theorem GB.w8 {fr en:Int} {l:List Xt} (hf:∀x∈l,lQ fr en x):∀x∈l,w8 x:=fun x hx=>by
 have:=hf x hx;unfold lQ at this;unfold Go.jG.w8;omega
theorem GB.no {fr en:Int} {bits:List Bool} {l:List Xt} (h:GB fr en bits l) (h0:fr%8=0) (hf:∀x∈l,lQ fr en x) {i:Nat} (hi:i<bits.length) (hb:bits.getD i false=false):clip l (fr+8*((i+1:Nat):Int))=clip l (fr+8*i):=by
 rw [show fr+8*((i+1:Nat):Int)=fr+8*i+8 by omega]
 refine Fw (GB.w8 hf) (by omega) fun hc=>?_
 rw [(h.wd i hi).2 hc] at hb;cases hb
theorem GB.new {fr en:Int} {bits:List Bool} {l:List Xt} (h:GB fr en bits l) (h0:fr%8=0) (hf:∀x∈l,lQ fr en x) {i:Nat} (hi:i<bits.length) (hb:bits.getD i false=true) (hp:i=0∨bits.getD (i-1) false=false):clip l (fr+8*((i+1:Nat):Int))=clip l (fr+8*i)++[(fr+8*i,8)]:=by
 rw [show fr+8*((i+1:Nat):Int)=fr+8*i+8 by omega]
 refine B5 h.ap (GB.w8 hf) (by omega) ((h.wd i hi).1 hb) fun hc=>?_
 rcases hp with rfl | hp
 ·obtain ⟨x,hx,hc⟩:=hc
  have:=hf x hx;unfold lQ at this;omega
 ·by_cases e:i=0
  ·subst e;rw [Nat.zero_sub] at hp;rw [hb] at hp;cases hp
  ·rw [(h.wd (i-1) (by omega)).2 (by rw [show fr+8*((i-1:Nat):Int)=fr+8*i-8 by omega];exact hc)] at hp;cases hp
theorem GB.old {fr en:Int} {bits:List Bool} {l:List Xt} (h:GB fr en bits l) (h0:fr%8=0) (hf:∀x∈l,lQ fr en x) {i:Nat} (hi:i<bits.length) (hb:bits.getD i false=true) (h1:0<i) (hp:bits.getD (i-1) false=true):∃A a s,clip l (fr+8*i)=A++[(a,s)]∧clip l (fr+8*((i+1:Nat):Int))=A++[(a,s+8)]∧0<s∧a+s=fr+8*i:=by
 rw [show fr+8*((i+1:Nat):Int)=fr+8*i+8 by omega]
 exact B4 h.ap (GB.w8 hf) (by omega) ((h.wd i hi).1 hb) (by
  have:=(h.wd (i-1) (by omega)).1 hp
  rw [show fr+8*((i-1:Nat):Int)=fr+8*i-8 by omega] at this;exact this)
theorem GB.zero {fr en:Int} {l:List Xt} (hf:∀x∈l,lQ fr en x):clip l (fr+8*((0:Nat):Int))=[]:=nJ fun y hy=>by have:=hf y hy;unfold lQ at this;omega
theorem GB.ends {fr en:Int} {bits:List Bool} {l:List Xt} (h:GB fr en bits l) (hf:∀x∈l,lQ fr en x):clip l (fr+8*(bits.length:Int))=l:=B7 fun y hy=>by have h1:=h.len;have:=hf y hy;unfold lQ at this;omega
theorem B6:∀(l:List Xt) (e:Int),(clip l e).length≤l.length
 | [],_=>Nat.le_refl _
 | x::l,e=>by
  have:=B6 l e
  unfold clip
  split<;>simp<;>omega
open Go.Bm
structure RO where
 gp:Int
 pl:Int
 tag:Int
 nm:Nat
 bg:List Int
 done:Bool
def RO.ua (e:Int) (o:RO):ku:=⟨(o.gp,e,o.pl),o.tag,o.bg,o.done⟩
def kS (m:M) (s:Int):Int:=(ah m.sc s).1.2.2.2
def oc (s:Int) (o:RO):Bool:=decide (o.gp=s)
structure OR (m:M) (O:List RO):Prop where
 rg:∀o∈O,0≤o.gp∧o.gp<m.p.1
 ob:∀s,0≤s→s<m.p.1→(O.filter (oc s)).map (RO.ua (kS m s))=(m.bA s).a5
theorem fh {s:Int} {o:RO}:oc s o=true↔o.gp=s:=by simp [oc]
theorem OR.uq {m:M} {O:List RO} {k:Nat} (hm:MI k m) (h:OR m O) {i j:Nat} {o q:RO} (hi:O[i]?=some o) (hj:O[j]?=some q) (hs:o.gp=q.gp) (hp:o.pl=q.pl):i=j:=by
 have hr:=h.rg o (zG hi)
 have h2:=(hm.wO hr).2.od
 rw [←h.ob _ hr.1 hr.2,List.pairwise_map,List.pairwise_filter,List.pairwise_iff_getElem] at h2
 obtain ⟨i1,i2⟩:=zB.1 hi
 obtain ⟨j1,j2⟩:=zB.1 hj
 rcases Nat.lt_trichotomy i j with h3 | h3 | h3
 ·have:=h2 i j i1 j1 h3 (by rw [i2];exact fh.2 rfl) (by rw [j2];exact fh.2 hs.symm)
  rw [i2,j2] at this
  have this:o.pl<q.pl:=this
  omega
 ·exact h3
 ·have:=h2 j i j1 i1 h3 (by rw [j2];exact fh.2 hs.symm) (by rw [i2];exact fh.2 rfl)
  rw [i2,j2] at this
  have this:q.pl<o.pl:=this
  omega
theorem M.Kc {m:M} {O:List RO} (h:OR m O) {r:jl} (hr:0≤r.1∧r.1<m.p.1):m.find r=(O.find? fun o=>oc r.1 o && decide ((o.ua (kS m r.1)).ref=r)).map (RO.ua (kS m r.1)):=by
 unfold M.find
 rw [←h.ob _ hr.1 hr.2,List.find?_map,List.find?_filter]
 congr 2
 funext a
 simp
theorem OR.of {m m':M} {O:List RO} (h:OR m O) (hp:m'.p=m.p) (ha:∀s,0≤s→s<m.p.1→(m'.bA s).a5=(m.bA s).a5) (he:∀s,0≤s→s<m.p.1→(m.bA s).a5=[]∨kS m' s=kS m s):OR m' O:=by
 refine ⟨fun o ho=>by rw [hp];exact h.rg o ho,fun s h0 h1=>?_⟩
 rw [hp] at h1
 have h2:=h.ob s h0 h1
 rw [ha s h0 h1]
 rcases he s h0 h1 with h3 | h3
 ·rw [h3] at h2 ⊢
  rw [List.map_eq_nil_iff] at h2
  rw [h2];rfl
 ·rw [h3];exact h2
theorem Df {O:List RO} {i:Nat} {o o':RO} (ho:O[i]?=some o) (hu:∀j q,O[j]?=some q→q.gp=o.gp→q.pl=o.pl→j=i):O.set i o'=O.map fun q=>if q.gp=o.gp∧q.pl=o.pl then o' else q:=by
 refine List.ext_getElem? fun j=>?_
 rw [List.getElem?_set,zL]
 obtain ⟨i1,i2⟩:=zB.1 ho
 by_cases e:i=j
 ·subst e
  rw [if_pos rfl,if_pos i1,ho,Option.map_some,if_pos ⟨rfl,rfl⟩]
 ·rw [if_neg e]
  cases hj:O[j]? with
  | none=>rfl
  | some q=>
   rw [Option.map_some,if_neg]
   rintro ⟨h1,h2⟩
   exact e (hu j q hj h1 h2).symm
theorem DU {O:List RO} {i:Nat} {o o':RO} (ho:O[i]?=some o) (hs:o'.gp=o.gp) (hp:o'.pl=o.pl) (hu:∀j q,O[j]?=some q→q.gp=o.gp→q.pl=o.pl→j=i) (s:Int):(O.set i o').filter (oc s)=(O.filter (oc s)).map fun q=>if q.gp=o.gp∧q.pl=o.pl then o' else q:=by
 rw [Df ho hu,List.filter_map]
 congr 1
 refine List.filter_congr fun q hq=>?_
 show oc s (if q.gp=o.gp∧q.pl=o.pl then o' else q)=oc s q
 split
 ·rename_i h;unfold oc;rw [hs,h.1]
 ·rfl
theorem FP {m:M} (r:jl) (g:ku→ku) (s:Int):((m.setObj r g).bA s).a5=(m.bA s).a5.map fun o=>if o.ref=r then g o else o:=by
 unfold M.setObj M.bA
 simp only
 rw [zA,zA,zL]
 cases m.ar[s.toNat]? with
 | none=>rfl
 | some a=>rfl
theorem OR.setObj {m:M} {O:List RO} {k:Nat} (hm:MI k m) (h:OR m O) {i:Nat} {o o':RO} (ho:O[i]?=some o) (hs:o'.gp=o.gp) (hp:o'.pl=o.pl) {g:ku→ku} (hg:g (o.ua (kS m o.gp))=o'.ua (kS m o.gp)):OR (m.setObj (o.gp,kS m o.gp,o.pl) g) (O.set i o'):=by
 have hu:∀j q,O[j]?=some q→q.gp=o.gp→q.pl=o.pl→j=i:=fun j q hq h1 h2=>h.uq hm hq ho h1 h2
 refine ⟨fun q hq=>?_,fun s h0 h1=>?_⟩
 ·rcases List.mem_or_eq_of_mem_set hq with h1 | rfl
  ·exact h.rg q h1
  ·rw [hs];exact h.rg o (zG ho)
 ·have h1:s<m.p.1:=h1
  rw [FP,←h.ob s h0 h1,DU ho hs hp hu,List.map_map,List.map_map]
  refine List.map_congr_left fun q hq=>?_
  obtain ⟨q1,q2⟩:=List.mem_filter.1 hq
  have q2:q.gp=s:=fh.1 q2
  have he:kS (m.setObj (o.gp,kS m o.gp,o.pl) g) s=kS m s:=rfl
  show RO.ua _ (if q.gp=o.gp∧q.pl=o.pl then o' else q)=if (q.ua (kS m s)).ref=_ then g (q.ua (kS m s)) else q.ua (kS m s)
  rw [he]
  by_cases h3:q.gp=o.gp∧q.pl=o.pl
  ·obtain ⟨j,hj⟩:=List.getElem?_of_mem q1
   obtain rfl:=hu j q hj h3.1 h3.2
   rw [ho] at hj
   cases hj
   rw [if_pos h3,if_pos (by rw [←q2];rfl),←q2,hg]
  ·rw [if_neg h3,if_neg]
   intro h4
   have h4:(q.gp,kS m s,q.pl)=(o.gp,kS m o.gp,o.pl):=h4
   injection h4 with h5 h6
   injection h6 with h6 h7
   exact h3 ⟨h5,h7⟩
theorem kL {m:M} {k:Nat} (hm:MI k m) {i s:Int} (hi:0≤i∧i<m.p.1) (hs:0≤s) (a:mz):(m.dm i a).bA s=if s=i then a else m.bA s:=by
 have:=hm.la
 unfold M.dm M.bA
 simp only
 rw [zA,zA,List.getElem?_set]
 by_cases e:s=i
 ·subst e;rw [if_pos rfl,if_pos (by omega),if_pos rfl];rfl
 ·rw [if_neg (by omega),if_neg e]
theorem OR.alloc {m:M} {O:List RO} {k:Nat} (hm:MI k m) (h:OR m O) {s:Int} (hs:0≤s∧s<m.p.1) {a:mz} {q:RO} (hq:q.gp=s) (ha:a.a5=(m.bA s).a5++[q.ua (kS m s)]):OR (m.dm s a) (O++[q]):=by
 refine ⟨fun o ho=>?_,fun t h0 h1=>?_⟩
 ·rcases zX.1 ho with ho | ho
  ·exact h.rg o ho
  ·rcases zF.1 ho with rfl;rw [hq];exact hs
 ·have h1:t<m.p.1:=h1
  have h2:=h.ob t h0 h1
  have he:kS (m.dm s a) t=kS m t:=rfl
  rw [kL hm hs h0,he,List.filter_append,List.map_append,h2]
  by_cases e:t=s
  ·subst e
   rw [if_pos rfl,ha,List.filter_cons_of_pos (by exact fh.2 hq)];rfl
  ·rw [if_neg e,List.filter_cons_of_neg (by rw [fh,hq];exact fun h=>e h.symm)]
   simp
def kK (f:List (List iw)) (s:Int) (o:RO):RO:=if o.gp≠s∨o.done=true∨dW f o.tag=[] then o else { o with bg:=(fJ (dW f o.tag) o.bg).1,done:=true }
def fV (f:List (List iw)) (s:Int):List RO→List Int×Int×Bool
 | []=>([],0,false)
 | o::l=>if o.gp≠s∨o.done=true∨dW f o.tag=[] then fV f s l
  else ((fV f s l).1++(fJ (dW f o.tag) o.bg).2.1,(fV f s l).2.1+1,(fV f s l).2.2 || (fJ (dW f o.tag) o.bg).2.2.1)
theorem uU (f:List (List iw)) (s:Int) (o:RO):(kK f s o).gp=o.gp:=by unfold kK;split<;>rfl
theorem BQ (f:List (List iw)) (s e:Int):∀l:List RO,bQ f ((l.filter (oc s)).map (RO.ua e))=(((l.map (kK f s)).filter (oc s)).map (RO.ua e),fV f s l)
 | []=>rfl
 | o::l=>by
  have ih:=BQ f s e l
  by_cases h:o.gp=s
  ·have h1:oc s (kK f s o)=true:=by rw [fh,uU];exact h
   rw [List.filter_cons_of_pos (fh.2 h),List.map_cons,List.map_cons,List.filter_cons_of_pos h1,List.map_cons,bQ,ih,fV]
   unfold eP kK
   have e1:(o.ua e).done=o.done:=rfl
   have e2:(o.ua e).tag=o.tag:=rfl
   have e3:(o.ua e).bg=o.bg:=rfl
   rw [e1,e2,e3]
   by_cases h2:o.done=true∨dW f o.tag=[]
   ·rw [if_pos h2,if_pos (.inr h2),if_pos (.inr h2)]
    simp
   ·rw [if_neg h2,if_neg (by rintro (h3 | h3)<;>contradiction),if_neg (by rintro (h3 | h3)<;>contradiction)]
    rfl
  ·have h1:kK f s o=o:=by unfold kK;rw [if_pos (.inl h)]
   rw [List.filter_cons_of_neg (by rw [fh];exact h),List.map_cons,h1,List.filter_cons_of_neg (by rw [fh];exact h),ih,fV,if_pos (.inl h)]
theorem DV (f:List (List iw)) {s t:Int} (h:t≠s) (l:List RO):(l.map (kK f s)).filter (oc t)=l.filter (oc t):=by
 induction l with
 | nil=>rfl
 | cons o l ih=>
  by_cases h2:o.gp=t
  ·have h1:kK f s o=o:=by unfold kK;rw [if_pos (.inl (by rw [h2];exact h))]
   rw [List.map_cons,h1,List.filter_cons_of_pos (fh.2 h2),List.filter_cons_of_pos (fh.2 h2),ih]
  ·rw [List.map_cons,List.filter_cons_of_neg (by rw [fh,uU];exact h2),List.filter_cons_of_neg (by rw [fh];exact h2),ih]
theorem OR.fin {m:M} {O:List RO} {k:Nat} (hm:MI k m) (h:OR m O) {s:Int} (hs:0≤s∧s<m.p.1) :
  (bQ m.f (m.bA s).a5).2=fV m.f s O∧OR (m.dm s { m.bA s with a5:=(bQ m.f (m.bA s).a5).1 }) (O.map (kK m.f s)):=by
 have e:=BQ m.f s (kS m s) O
 rw [h.ob s hs.1 hs.2] at e
 refine ⟨by rw [e],fun o ho=>?_,fun t h0 h1=>?_⟩
 ·obtain ⟨q,hq,rfl⟩:=List.mem_map.1 ho
  rw [uU];exact h.rg q hq
 ·have h1:t<m.p.1:=h1
  have he:∀a,kS (m.dm s a) t=kS m t:=fun a=>rfl
  rw [kL hm hs h0,he]
  by_cases e2:t=s
  ·subst e2;rw [if_pos rfl,e]
  ·rw [if_neg e2,DV _ e2];exact h.ob t h0 h1
theorem OR.gone {m m':M} {O:List RO} {k:Nat} (hm:MI k m) (h:OR m O) {s:Int} (hp:m'.p=m.p) (ha:∀t,0≤t→t<m.p.1→(m'.bA t).a5=if t=s then [] else (m.bA t).a5) (he:∀t,0≤t→t<m.p.1→t≠s→kS m' t=kS m t):OR m' (O.filter fun o=>!oc s o):=by
 refine ⟨fun o ho=>?_,fun t h0 h1=>?_⟩
 ·rw [hp];exact h.rg o (List.mem_filter.1 ho).1
 ·rw [hp] at h1
  rw [ha t h0 h1,List.filter_filter]
  by_cases e:t=s
  ·subst e
   rw [if_pos rfl,List.filter_eq_nil_iff.2 (fun o _=>by simp)];rfl
  ·rw [if_neg e,he t h0 h1 e,←h.ob t h0 h1]
   congr 1
   refine List.filter_congr fun o _=>?_
   by_cases h2:o.gp=t
   ·have:oc s o=false:=by unfold oc;rw [h2];simp [e]
    rw [this];simp
   ·have:oc t o=false:=by unfold oc;simp [h2]
    rw [this];simp
end Go.jG
namespace Go.Proofs.YtihiooaimdoapaaGreat
open Go.Bm Go.jG
abbrev TW:Type:=((Int×Unit)×(Unit×(Unit×(Unit×Unit))))
def oF (i:Int):TW:=((i,()),((),((),((),()))))
theorem uE {k:Nat} (h:k<1000000):ae .i64 (k:Int) 1=((k+1:Nat):Int):=by rw [aH (by omega)];omega
theorem tm {l:List cW} (hl:l.length≤100):g.dF l=some ((dE l,()),()):=by
 unfold g.dF
 cases hL:l.length with
 | zero=>
  have:l=[]:=zZ hL
  subst this
  rfl
 | succ n=>
  have e1:aK .i64 (zN (len l)) 1=(n:Int):=by rw [cz,bt,hL,aL (by omega)];omega
  rw [e1]
  have hn:n<l.length:=by omega
  have e2:nth (0,false) l (nN (n:Int))=l[n]:=gA hn
  repeat refine HS ?_
  rw [e2]
  have:l.getLast?=some l[n]:=by
   rw [List.getLast?_eq_getElem?]
   have e3:l.length-1=n:=by omega
   exact (congrArg (fun i=>l[i]?) e3).trans (zD hn)
  unfold dE
  rw [this]
theorem mc {l:List cW} (s:Int) (hl:l.length≤100):g.fY l s=some ((reach l s,()),()):=by
 refine (dN (fun k=>oF (k:Int)) (fun k=>some ((decide (s=0) || (kb (l.drop k) s).isSome,()),())) l.length (by unfold lD;omega) (fun K=>?_) (fun k hk=>?_)).trans ?_
 ·unfold g.gu oF
  dsimp only
  rw [List.drop_of_length_le (by omega)]
  repeat refine HS ?_
  unfold kb aj
  simp
 ·rw [rf l s k hk]
  have e2:nth (0,false) l (nN (k:Int))=l[k]:=gA hk
  by_cases he:l[k]=(s,true)
  ·refine .inl fun K=>?_
   unfold g.gu oF
   dsimp only
   rw [e2,he]
   repeat refine HS ?_
   simp
  ·refine .inr ⟨by rw [if_neg he,Option.isSome_map],fun K=>?_⟩
   unfold g.gu oF
   dsimp only
   rw [e2,uE (by omega)]
   cases h2:l[k].2 with
   | false=>
    repeat refine HS ?_
    rfl
   | true=>
    have h3:¬l[k].1=s:=fun h=>he (by rw [←h,←h2])
    repeat refine HS ?_
    rfl
 ·rfl
theorem AW {l:List cW} (s:Int) (hl:l.length≤100):g.j5 l s=some ((parent l s,()),()):=by
 refine (dN (fun k=>oF (k:Int)) (fun k=>some (((match kb (l.drop k) s with | some i=>dE (l.take (k+i)) | none=>-1),()),())) l.length (by unfold lD;omega) (fun K=>?_) (fun k hk=>?_)).trans ?_
 ·unfold g.fR oF
  dsimp only
  rw [List.drop_of_length_le (by omega)]
  repeat refine HS ?_
  rfl
 ·rw [rf l s k hk]
  have e2:nth (0,false) l (nN (k:Int))=l[k]:=gA hk
  by_cases he:l[k]=(s,true)
  ·refine .inl fun K=>?_
   have e3:g.dF (tk (aG (nN (k:Int)) 0) (dr 0 l))=some ((dE (l.take k),()),()):=tm (l:=l.take k) (by simp;omega)
   unfold g.fR oF
   dsimp only
   rw [e2,he]
   repeat refine HS ?_
   rw [if_pos rfl]
   rfl
  ·refine .inr ⟨?_,fun K=>?_⟩
   ·rw [if_neg he]
    cases kb (l.drop (k+1)) s with
    | none=>rfl
    | some i=>simp only [Option.map_some];rw [show k+(i+1)=k+1+i by omega]
   ·unfold g.fR oF
    dsimp only
    rw [e2,uE (by omega)]
    cases h2:l[k].2 with
    | false=>
     repeat refine HS ?_
     rfl
    | true=>
     have h3:¬l[k].1=s:=fun h=>he (by rw [←h,←h2])
     repeat refine HS ?_
     rfl
 ·unfold parent
  simp only [List.drop_zero,Nat.zero_add]
  cases kb l s<;>rfl
theorem KY (l:List cW) (s:Int) (n:Nat) (b:Int):nf l s (n+1) b=if b=s then true else nf l s n (parent l b):=rfl
def Tz (l:List cW) (b:Int):Nat→Int
 | 0=>b
 | n+1=>parent l (Tz l b n)
theorem C1 {l:List cW} (s b:Int) (hl:l.length≤100):g.iB l s b=some ((pO l s b,()),()):=by
 unfold g.iB pO
 by_cases h:s=0
 ·repeat refine HS ?_
  simp [h]
 by_cases hb:s=b
 ·repeat refine HS ?_
  rw [hb]
  unfold nf
  simp
 repeat refine HS ?_
 refine (dN (fun k=>((Tz l b k,((k:Int),())),((),((),((),()))))) (fun k=>some ((nf l s (8-k) (parent l (Tz l b k)),()),())) 8 (by unfold lD;omega) (fun K=>?_) (fun k hk=>?_)).trans ?_
 ·unfold g.gw
  dsimp only
  repeat refine HS ?_
  rfl
 ·have hp:=AW (Tz l b k) hl
  rw [show 8-k=(8-(k+1))+1 by omega,KY]
  by_cases h3:parent l (Tz l b k)=s
  ·refine .inl fun K=>?_
   unfold g.gw
   dsimp only
   repeat refine HS ?_
   rw [if_pos h3]
  ·refine .inr ⟨by rw [if_neg h3];rfl,fun K=>?_⟩
   unfold g.gw
   dsimp only
   rw [uE (by omega)]
   repeat refine HS ?_
   rfl
 ·rw [show nf l s 9 b=if b=s then true else nf l s 8 (parent l b) from rfl,if_neg (fun h=>hb h.symm)]
  simp [h,Tz]
theorem xH {l:List cW} (e:cW) (hl:l.length≤100):g.i_ l e=some (((push l e).1,((push l e).2,())),()):=by
 unfold g.i_ push
 by_cases h:6≤l.length
 ·rw [if_pos h]
  repeat refine HS ?_
  rfl
 ·rw [if_neg h]
  repeat refine HS ?_
  rfl
theorem C0:g.dU []=some (([],((0,false),(23,()))),()):=by
 unfold g.dU
 repeat refine HS ?_
 rfl
theorem AV {l:List cW} {x:cW} (hl:l.length≤100) (hx:l.getLast?=some x):g.dU l=some ((l.dropLast,(x,(0,()))),()):=by
 have h0:l.length≠0:=fun h=>by rw [zZ h] at hx;cases hx
 obtain ⟨n,hn⟩:∃n,l.length=n+1:=⟨l.length-1,by omega⟩
 have e1:aK .i64 (zN (len l)) 1=(n:Int):=by rw [cz,bt,hn,aL (by omega)];omega
 have e2:nth (0,false) l (nN (n:Int))=x:=by
  rw [List.getLast?_eq_getElem?,show l.length-1=n by omega] at hx
  exact bj hx
 have e3:cat [] (tk (aG (nN (n:Int)) 0) (dr 0 l))=l.dropLast:=by
  show l.take n=_
  rw [List.dropLast_eq_take,show l.length-1=n by omega]
 have e4:((0+(l.take n).length:Nat):Int)≤((16777216:Nat):Int):=by simp;omega
 unfold g.dU
 rw [e1,e2,e3]
 repeat refine HS ?_
 rfl
theorem JA {a b:Int} (h:0≤a) (hb:0<b) (h2:a≤18446744073709551615):iI .u64 a b=a / b:=by
 have e1:a.tdiv b=a / b:=Int.tdiv_eq_ediv_of_nonneg h
 have e2:a / b≤a:=Int.ediv_le_self b h
 have e3:0≤a / b:=Int.ediv_nonneg h (by omega)
 unfold iI
 rw [e1]
 exact bS ⟨e3,by omega⟩
theorem rQ {r:jl} (h0 : -100000000≤r.1∧r.1≤100000000∧-1000000000≤r.2.1∧r.2.1≤1000000000000∧-1000000000≤r.2.2∧r.2.2≤1000000000000):g.fw r=some (((jf r).1,((jf r).2,())),()):=by
 unfold g.fw jf
 by_cases hr:fj r=true
 ·have hq:=cS.1 hr
  rw [if_pos hr]
  have e4:kQ .u64 (ae .i64 (ae .i64 (iI .i64 r.2.2 8) (fI .i64 16777216 r.1)) (fI .i64 4294967296 r.2.1))=m5 r:=by
   rw [a9 (by omega),aZ (a:=16777216) (by omega),aZ (a:=4294967296) (by omega),aH (a:=r.2.2 / 8) (by omega),aH (by omega)]
   have:r.2.2 / 8+16777216*r.1+4294967296*r.2.1=m5 r:=by unfold m5;omega
   rw [this,bS (by omega)]
  have e5:eg r.2.2 8=r.2.2%8:=aS (by omega)
  rw [e4,e5]
  repeat refine HS ?_
  rfl
 ·rw [if_neg hr]
  rw [cS] at hr
  by_cases h1:r.1<0
  ·repeat refine HS ?_
   rfl
  by_cases h2:8≤r.1
  ·repeat refine HS ?_
   rfl
  by_cases h3:r.2.1<0
  ·repeat refine HS ?_
   rfl
  by_cases h4:16777215<r.2.1
  ·repeat refine HS ?_
   rfl
  by_cases h5:r.2.2<8
  ·repeat refine HS ?_
   rfl
  by_cases h6:65528<r.2.2
  ·repeat refine HS ?_
   rfl
  have e5:eg r.2.2 8=r.2.2%8:=aS (by omega)
  rw [e5]
  repeat refine HS ?_
  rfl
theorem mf {h:Int} (h0:u64 h):g.fL h=some (((ay h).1,((ay h).2,())),()):=by
 unfold u64 at h0
 have e1:kQ .i64 (eg (iI .u64 h 16777216) 256)=(gi h).1:=by
  rw [JA (by omega) (by omega) (by omega),aS (by omega),bM (by omega)];rfl
 have e2:kQ .i64 (iI .u64 h 4294967296)=(gi h).2.1:=by
  rw [JA (by omega) (by omega) (by omega),bM (by omega)];rfl
 have e3:fI .i64 8 (kQ .i64 (eg h 16777216))=(gi h).2.2:=by
  rw [aS (by omega),bM (by omega),aZ (by omega),Int.mul_comm];rfl
 have hb:(0≤(gi h).1∧(gi h).1≤255)∧(0≤(gi h).2.1∧(gi h).2.1≤4294967296)∧0≤(gi h).2.2∧(gi h).2.2≤134217728∧(1152921504606846976≤h→16777215<(gi h).2.1):=by unfold gi;simp only;omega
 have hP:=rQ (r:=gi h) (by omega)
 have hn:=xW h0.1
 unfold g.fL ay
 rw [e1,e2,e3]
 generalize gi h=r at *
 by_cases h1:1152921504606846976≤h
 ·rw [if_neg (by rw [cS];omega)]
  repeat refine HS ?_
  rfl
 by_cases h2:fj r=true
 ·have h3:=cS.1 h2
  unfold jf at hP
  rw [if_pos h2] at hP ⊢
  rw [hn h3.1.2] at hP
  repeat refine HS ?_
  rfl
 ·unfold jf at hP
  rw [if_neg h2] at hP ⊢
  repeat refine HS ?_
  rfl
theorem wW {a b:Int}:g.iC a b=some (((bn a b).1,((bn a b).2,())),()):=by
 unfold g.iC bn
 by_cases h1:a<0
 ·rw [if_pos (.inl (kh.2 (by omega)))]
  repeat refine HS ?_
  rfl
 by_cases h2:6<a
 ·rw [if_pos (.inl (kh.2 (by omega)))]
  repeat refine HS ?_
  rfl
 by_cases h3:b<0
 ·rw [if_pos (.inr (kh.2 (by omega)))]
  repeat refine HS ?_
  rfl
 by_cases h4:512<b
 ·rw [if_pos (.inr (kh.2 (by omega)))]
  repeat refine HS ?_
  rfl
 rw [if_neg (by rw [kh,kh];omega)]
 have e:ae .i64 (ae .i64 2 a) (iI .i64 (ae .i64 b 7) 8)=2+a+(b+7) / 8:=by
  rw [aH (a:=b) (by omega),a9 (by omega),aH (a:=2) (by omega),aH (by omega)]
 rw [e]
 repeat refine HS ?_
 rfl
theorem tn {p:rA} (h:dz p=true):g.eQ p=some (((p.1*64,p.2.2.1),()),()):=by
 rw [cL] at h
 unfold g.eQ
 rw [aZ (by omega),Int.mul_comm]
theorem yB {p:rA} (h:dz p=true):g.jb p=some (((p.1*64+p.2.2.1,p.2.2.2),()),()):=by
 rw [cL] at h
 unfold g.jb
 rw [aZ (by omega),aH (by omega),Int.mul_comm]
open Go.Bm Go.jG
theorem HK {α:Type} {l:List (Option (List α))} {j:Nat} {r:List α} (h:aE l j=some r):aT l j (some r)=l:=by
 rw [PM] at h
 exact j8 h
section
variable {d13:kt} {d16:gT} {gN bN:Nat} {fr en:Int} {bits:List Bool}
theorem J2 {a n:Int} {v:Bool} (h1:d13[gN]?=some (fr,some bN)) (h2:aE d16 bN=some bits) (hb:0≤fr∧fr≤a∧0≤n∧(a-fr) / 8+n / 8≤bits.length∧a≤100000∧n≤100000∧bits.length≤100000) :
  g.dV gN a n v d13 d16=some ((),(aT d16 bN (some (mX bits ((a-fr) / 8).toNat v (n / 8).toNat)),())):=by
 have e1:∀d,nth d d13 gN=(fr,some bN):=fun d=>bj h1
 have e0:aT d16 bN (some (mX bits ((a-fr) / 8).toNat v 0))=d16:=HK h2
 have q1:iI .i64 n 8=n / 8:=a9 (by omega)
 have q2:iI .i64 (aK .i64 a fr) 8=(a-fr) / 8:=by rw [aL (by omega),a9 (by omega)]
 generalize hK:((a-fr) / 8).toNat=K at *
 generalize hN:(n / 8).toNat=N at *
 unfold g.dV
 refine Eq.trans (congrArg (fun d=>loop (g.et gN a n v d13) ((0,()),((),((),((),(d,())))))) e0.symm) ?_
 refine dN (fun k=>(((k:Int),()),((),((),((),(aT d16 bN (some (mX bits K v k)),())))))) (fun _=>some ((),(aT d16 bN (some (mX bits K v N)),()))) N (by unfold lD;omega) (fun F=>?_) (fun k hk=>.inr ⟨rfl,fun F=>?_⟩)
 ·unfold g.et
  dsimp only
  rw [q1]
  repeat refine HS ?_
  rfl
 ·have ei:ae .i64 ((a-fr) / 8) (k:Int)=((K+k:Nat):Int):=by rw [aH (by omega)];omega
  have hl:(mX bits K v k).length=bits.length:=oR ..
  have h3:aE (aT d16 bN (some (mX bits K v k))) bN=some (mX bits K v k):=aB h2
  unfold g.et
  dsimp only
  simp only [e1]
  rw [q1,q2,ei,uE (by omega)]
  repeat refine HS ?_
  rw [ym]
  rfl
abbrev ExS:Type:=((Int×Unit)×((List (Int×Int)×Unit)×(Unit×(Unit×Unit))))
def exS (i:Int) (l:List Xt):ExS:=((i,()),((l,()),((),((),()))))
theorem Az {A:List Xt} {x y:Xt} {f:Xt→Xt} (h:f x=y) {i:Nat} (hi:i=A.length):aw (0,0) (A++[x]) i f=A++[y]:=by
 subst hi
 have:nth (0,0) (A++[x]) A.length=x:=rZ
 unfold aw
 rw [this,h]
 exact uN
theorem yl {fl:List Xt} (h1:d13[gN]?=some (fr,some bN)) (h2:aE d16 bN=some bits) (hg:GB fr en bits fl) (h0:0≤fr∧fr%8=0∧en≤16384) (hf:∀x∈fl,lQ fr en x) (hl:fl.length≤10000) :
  g.dY gN d13 d16=some ((fl,()),()):=by
 have e1:∀d,nth d d13 gN=(fr,some bN):=fun d=>bj h1
 have hlen:=hg.len
 have hS:=GB.zero hf
 have hE:=hg.ends hf
 unfold g.dY
 refine Eq.trans (congrArg (fun d=>loop (g.dA gN d13 d16) (exS 0 d)) hS.symm) ?_
 refine dN (fun k=>exS (k:Int) (clip fl (fr+8*((k:Nat):Int)))) (fun _=>some ((fl,()),())) bits.length (by unfold lD;omega) (fun F=>?_) (fun k hk=>.inr ⟨rfl,fun F=>?_⟩)
 ·unfold g.dA exS
  dsimp only
  simp only [e1]
  rw [hE]
  repeat refine HS ?_
  rfl
 ·have sB:=B6 fl (fr+8*((k:Nat):Int))
  unfold g.dA
  show _=F (exS _ _)
  unfold exS
  dsimp only
  simp only [e1]
  rw [uE (by omega)]
  have ei:ae .i64 fr (fI .i64 8 (k:Int))=fr+8*(k:Int):=by rw [aZ (by omega),aH (by omega)]
  rw [ei]
  cases hb:bits.getD k false with
  | false=>
   rw [hg.no h0.2.1 hf hk hb]
   have hb:nth false bits (nN (k:Int))=false:=hb
   repeat refine HS ?_
   rfl
  | true=>
   by_cases hp:k=0∨bits.getD (k-1) false=false
   ·rw [hg.new h0.2.1 hf hk hb hp]
    generalize hC:clip fl (fr+8*((k:Nat):Int))=C at *
    have hb:nth false bits (nN (k:Int))=true:=hb
    have qb:aw (0,0) (cat C [(fr+8*(k:Int),0)]) C.length (fun mB=>(mB.1,ae IntKind.i64 mB.2 8))=C++[(fr+8*(k:Int),8)]:=Az (by rw [aH (by show _≤(0:Int)+8∧(0:Int)+8≤_;omega)];rfl) rfl
    have hC1:aK .i64 (zN (len (cat C [(fr+8*(k:Int),0)]))) 1=(C.length:Int):=by rw [cz,bt,lA,aL (by simp;omega)];simp
    by_cases hk0:k=0
    ·repeat refine HS ?_
     dsimp only
     rw [hC1,cK,qb]
    ·have TE:bits.getD (k-1) false=false:=hp.resolve_left hk0
     have em:aK .i64 (k:Int) 1=((k-1:Nat):Int):=by rw [aL (by omega)];omega
     have hm:nth false bits (nN ((k-1:Nat):Int))=false:=TE
     rw [em]
     repeat refine HS ?_
     dsimp only
     rw [hC1,cK,qb]
   ·have hk0:¬k=0:=fun h=>hp (.inl h)
    have TE:bits.getD (k-1) false=true:=by cases h:bits.getD (k-1) false with
     | true=>rfl
     | false=>exact absurd (.inr h) hp
    obtain ⟨A,a,s,c1,c2,c3,c4⟩:=hg.old h0.2.1 hf hk hb (by omega) TE
    rw [c1] at sB ⊢
    rw [c2]
    have hAl:(A++[(a,s)]).length=A.length+1:=by simp
    have hs:s≤200000∧0≤s∧A.length≤10000:=by
     have hx:(a,s)∈clip fl (fr+8*((k:Nat):Int)):=by rw [c1];simp
     have:0≤a:=by
      have:∀(l:List Xt) (e:Int),∀y∈clip l e,∃z∈l,z.1=y.1:=by
       intro l e
       induction l with
       | nil=>intro y hy;cases hy
       | cons x l ih=>
        intro y hy
        unfold clip at hy
        split at hy
        ·rcases List.mem_cons.1 hy with rfl | hy
         ·exact ⟨x,zV ..,rfl⟩
         ·obtain ⟨z,z1,z2⟩:=ih y hy;exact ⟨z,zT _ z1,z2⟩
        ·obtain ⟨z,z1,z2⟩:=ih y hy;exact ⟨z,zT _ z1,z2⟩
      obtain ⟨z,z1,z2⟩:=this _ _ _ hx
      have:=hf z z1;unfold lQ at this
      have z2:z.1=a:=z2
      omega
     omega
    have em:aK .i64 (k:Int) 1=((k-1:Nat):Int):=by rw [aL (by omega)];omega
    have hm:nth false bits (nN ((k-1:Nat):Int))=true:=TE
    have hb:nth false bits (nN (k:Int))=true:=hb
    have qb:aw (0,0) (A++[(a,s)]) A.length (fun mB=>(mB.1,ae IntKind.i64 mB.2 8))=A++[(a,s+8)]:=Az (by rw [aH (by show _≤s+8∧s+8≤_;omega)]) rfl
    have hC1:aK .i64 (zN (len (A++[(a,s)]))) 1=(A.length:Int):=by rw [cz,bt,hAl,aL (by omega)];omega
    have hC2:(A.length:Int)<(len (A++[(a,s)]):Nat):=by rw [bt,hAl];omega
    rw [em]
    repeat refine HS ?_
    dsimp only
    rw [hC1,cK,qb]
theorem Cn {fl tL:List Xt} {a n:Int} (h1:d13[gN]?=some (fr,some bN)) (h2:aE d16 bN=some bits) (hg:GB fr en bits fl) (h0:0≤fr∧fr%8=0∧en≤16384) (hf:∀x∈fl,lQ fr en x) (hl:fl.length≤10000) (hn:0<n∧n%8=0) (hc:jF fl n=some (a,tL)) :
  g.cI gN n d13 d16=some ((a,(true,())),(aT d16 bN (some (mX bits ((a-fr) / 8).toNat false (n / 8).toNat)),())):=by
 have hE:=yl h1 h2 hg h0 hf hl
 have ha:=Cb hf hc
 have hlen:=hg.len
 have MZ:n≤16384:=by omega
 have hS:=J2 (v:=false) (a:=a) (n:=n) h1 h2 (by omega)
 have er:eg n 8=n%8:=aS (by omega)
 unfold jF at hc
 cases hb:jh fl n with
 | none=>rw [hb] at hc;cases hc
 | some i=>
  rw [hb] at hc
  simp only [zI,zU] at hc
  obtain ⟨hi,hgg⟩:=mr hb
  rw [zA,zD hi] at hgg hc
  simp only [Option.getD_some] at hgg hc
  unfold g.cI
  rw [er]
  repeat refine HS ?_
  have dP:∀k:Nat,k<i→∃hk:k<fl.length,¬n≤fl[k].2:=by
   intro k hk
   refine ⟨by omega,fun h=>?_⟩
   have:∀(l:List Xt) (j i:Nat) (hj:j<l.length),jh l n=some i→n≤l[j].2→i≤j:=by
    intro l
    induction l with
    | nil=>intro j i hj;exact absurd hj (Nat.not_lt_zero _)
    | cons x l ih=>
     intro j i hj hb hx
     unfold jh at hb
     split at hb
     ·cases hb;omega
     ·rename_i Rz
      cases j with
      | zero=>exact absurd hx Rz
      | succ j=>
       cases Lx:jh l n with
       | none=>rw [Lx] at hb;cases hb
       | some q=>
        rw [Lx] at hb
        have hb:q+1=i:=by simpa using hb
        have:=ih j q (by simpa using hj) Lx (by simpa using hx)
        omega
   have:=this fl k i (by omega) hb h
   omega
  refine dN (fun k=>(((k:Int),()),((),((),((),(d16,())))))) (fun _=>some ((a,(true,())),(aT d16 bN (some (mX bits ((a-fr) / 8).toNat false (n / 8).toNat)),()))) i (by unfold lD;omega) (fun F=>?_) (fun k hk=>.inr ⟨rfl,fun F=>?_⟩)
  ·have e2:nth (0,0) fl (nN (i:Int))=fl[i]:=gA hi
   unfold g.dc
   dsimp only
   rw [e2,hc.1]
   repeat refine HS ?_
   rfl
  ·obtain ⟨TJ,hk3⟩:=dP k hk
   have e2:nth (0,0) fl (nN (k:Int))=fl[k]:=gA TJ
   unfold g.dc
   dsimp only
   rw [e2,uE (by omega)]
   repeat refine HS ?_
   rfl
theorem Co {fl:List Xt} {n:Int} (h1:d13[gN]?=some (fr,some bN)) (h2:aE d16 bN=some bits) (hg:GB fr en bits fl) (h0:0≤fr∧fr%8=0∧en≤16384) (hf:∀x∈fl,lQ fr en x) (hl:fl.length≤10000) (hn:0<n∧n%8=0) (hc:jF fl n=none) :
  g.cI gN n d13 d16=some ((0,(false,())),(d16,())):=by
 have hE:=yl h1 h2 hg h0 hf hl
 have er:eg n 8=n%8:=aS (by omega)
 have hb:jh fl n=none:=by
  unfold jF at hc
  cases hb:jh fl n with
  | none=>rfl
  | some i=>rw [hb] at hc;cases hc
 have dP:∀(l:List Xt),jh l n=none→∀x∈l,¬n≤x.2:=by
  intro l
  induction l with
  | nil=>intro _ x hx;cases hx
  | cons y l ih=>
   intro h x hx
   unfold jh at h
   split at h
   ·cases h
   ·rename_i hy
    rcases List.mem_cons.1 hx with rfl | hx
    ·exact hy
    ·exact ih (by simpa using h) x hx
 unfold g.cI
 rw [er]
 repeat refine HS ?_
 refine dN (fun k=>(((k:Int),()),((),((),((),(d16,())))))) (fun _=>some ((0,(false,())),(d16,()))) fl.length (by unfold lD;omega) (fun F=>?_) (fun k hk=>.inr ⟨rfl,fun F=>?_⟩)
 ·unfold g.dc
  dsimp only
  repeat refine HS ?_
  rfl
 ·have hk3:=dP fl hb fl[k] (List.getElem_mem hk)
  have e2:nth (0,0) fl (nN (k:Int))=fl[k]:=gA hk
  unfold g.dc
  dsimp only
  rw [e2,uE (by omega)]
  repeat refine HS ?_
  rfl
theorem NW {fl:List Xt} {x:Xt} (h1:d13[gN]?=some (fr,some bN)) (h2:aE d16 bN=some bits) (hg:GB fr en bits fl) (h0:0≤fr∧fr%8=0∧en≤16384) (hf:∀x∈fl,lQ fr en x) (hx:lQ fr en x) (hd:∀y∈fl,dj x y) :
  g.fe gN x.1 x.2 d13 d16=some ((0,()),(aT d16 bN (some (mX bits ((x.1-fr) / 8).toNat true (x.2 / 8).toNat)),())):=by
 have e1:∀d,nth d d13 gN=(fr,some bN):=fun d=>bj h1
 have hlen:=hg.len
 have hbu:∀i:Nat,_→_:=fun i=>hg.busy h0.2.1 hf hx hd (i:=i)
 unfold lQ at hx
 have hS:=J2 (v:=true) (a:=x.1) (n:=x.2) h1 h2 (by omega)
 have q1:iI .i64 x.2 8=x.2 / 8:=a9 (by omega)
 have q2:iI .i64 (aK .i64 x.1 fr) 8=(x.1-fr) / 8:=by rw [aL (by omega),a9 (by omega)]
 have er1:eg x.2 8=x.2%8:=aS (by omega)
 have er2:eg x.1 8=x.1%8:=aS (by omega)
 have ee:ae .i64 fr (fI .i64 8 (zN (len bits)))=en:=by rw [cz,bt,aZ (by omega),aH (by omega)];omega
 unfold g.fe
 simp only [e1]
 rw [er1,er2]
 repeat refine HS ?_
 dsimp only
 refine dN (fun k=>oF (k:Int)) (fun _=>some ((0,()),(aT d16 bN (some (mX bits ((x.1-fr) / 8).toNat true (x.2 / 8).toNat)),()))) (x.2 / 8).toNat (by unfold lD;omega) (fun F=>?_) (fun k hk=>.inr ⟨rfl,fun F=>?_⟩)
 ·unfold g.dX oF
  dsimp only
  rw [q1]
  repeat refine HS ?_
  rfl
 ·have ei:ae .i64 ((x.1-fr) / 8) (k:Int)=((((x.1-fr) / 8).toNat+k:Nat):Int):=by rw [aH (by omega)];omega
  have hb:=hbu (((x.1-fr) / 8).toNat+k) (by omega)
  have hn:nth false bits (nN ((((x.1-fr) / 8).toNat+k:Nat):Int))=false:=hb
  unfold g.dX oF
  dsimp only
  simp only [e1]
  rw [q1,q2,ei,uE (by omega)]
  repeat refine HS ?_
  rfl
end
open Go.Bm Go.jG
theorem mY (c:ni):g.e9 c=some ((bc c,()),()):=by
 obtain ⟨s,n,p,e⟩:=c
 unfold g.e9 bc
 dsimp only
 by_cases he:e<0
 ·have:within e 0 16777215=false:=kh.2 (by omega)
  rw [this]
  repeat refine HS ?_
  rfl
 by_cases TL:16777215<e
 ·have:within e 0 16777215=false:=kh.2 (by omega)
  rw [this]
  repeat refine HS ?_
  rfl
 have hw:within e 0 16777215=true:=bG.2 (by omega)
 rw [hw,Bool.true_and]
 have hp:cX (-1) p=true∧bw p 8=within p (-1) 7∨cX (-1) p=false∧within p (-1) 7=false:=by
  by_cases h1 : -1≤p
  ·refine .inl ⟨decide_eq_true h1,?_⟩
   by_cases h2:p≤7
   ·rw [bG.2 ⟨h1,h2⟩];exact decide_eq_true (by omega)
   ·rw [kh.2 (by omega)];exact decide_eq_false (by omega)
  ·exact .inr ⟨decide_eq_false h1,kh.2 (by omega)⟩
 have h01:∀(a b:Int),aj a b=decide (a=b):=fun _ _=>rfl
 rcases hp with ⟨p1,p2⟩ | ⟨p1,p2⟩
 all_goals
  by_cases s0:s=0
  ·subst s0
   rw [if_pos (.inl rfl)]
   repeat refine HS ?_
   by_cases n0:n=0
   ·repeat refine HS ?_
    rw [h01];simp [n0]
   ·repeat refine HS ?_
    simp [n0]
  by_cases s1:s=1
  ·subst s1
   rw [if_pos (.inr rfl)]
   repeat refine HS ?_
   by_cases n0:n=0
   ·repeat refine HS ?_
    rw [h01];simp [n0]
   ·repeat refine HS ?_
    simp [n0]
  have MU:aj s 1=false:=decide_eq_false s1
  rw [if_neg (by omega)]
  repeat refine HS ?_
  by_cases s2:s=2
  ·subst s2
   rw [if_pos rfl]
   repeat refine HS ?_
   by_cases n1:1≤n
   ·by_cases n7:n≤7
    ·rw [bG.2 ⟨n1,n7⟩]
     repeat refine HS ?_
     try rw [p2]
     simp
    ·rw [kh.2 (by omega)]
     repeat refine HS ?_
     rfl
   ·rw [kh.2 (by omega)]
    repeat refine HS ?_
    rfl
  rw [if_neg s2]
  by_cases s3:s=3
  ·subst s3
   rw [if_pos rfl]
   repeat refine HS ?_
   by_cases n0:n=0
   ·repeat refine HS ?_
    try rw [p2]
    simp [n0]
   ·repeat refine HS ?_
    simp [n0]
  rw [if_neg s3]
  repeat refine HS ?_
  rfl
theorem wY (c:ni) (f:Int):g.iE c f=some (((b_ c f).1,((b_ c f).2,())),()):=by
 have hR:=mY c
 unfold g.iE b_
 cases hr:bc c with
 | false=>
  rw [hr] at hR
  rw [if_pos (.inl rfl)]
  repeat refine HS ?_
  rfl
 | true=>
  rw [hr] at hR
  by_cases h1:f<0
  ·rw [if_pos (.inr (kh.2 (by omega)))]
   repeat refine HS ?_
   rfl
  by_cases h2:8≤f
  ·rw [if_pos (.inr (kh.2 (by omega)))]
   repeat refine HS ?_
   rfl
  rw [if_neg (by rw [kh];simp;omega)]
  by_cases s0:c.1=0
  ·rw [if_pos s0]
   repeat refine HS ?_
   rfl
  rw [if_neg s0]
  by_cases s3:c.1=3
  ·rw [if_pos s3]
   repeat refine HS ?_
   rfl
  rw [if_neg s3]
  by_cases s1:c.1=1
  ·rw [if_pos s1]
   have:c.2.1=0:=by
    rcases mK hr with h | h | h
    ·exact h.2.1
    ·omega
    ·omega
   repeat refine HS ?_
   rw [this];rfl
  rw [if_neg s1]
  by_cases hp:c.2.2.1=f
  ·rw [if_neg (by simpa using hp)]
   by_cases h7:c.2.1=7
   ·rw [if_pos h7]
    repeat refine HS ?_
    rfl
   ·rw [if_neg h7]
    have h2:c.1=2:=by
     rcases mK hr with h | h | h
     ·omega
     ·exact h
     ·omega
    have:=gM hr h2
    have e:ae .i64 c.2.1 1=c.2.1+1:=aH (by omega)
    rw [e]
    repeat refine HS ?_
    rfl
  ·rw [if_pos hp]
   repeat refine HS ?_
   rfl
theorem yg {c:ni} (s:Int) (hr:bc c=false):iP c s=1:=by unfold iP;rw [if_pos hr]
theorem B0 {c:ni} {s:Int} (hr:bc c=true) (h:¬c.1=s):iP c s=11:=by unfold iP;rw [if_neg (by rw [hr];simp),if_pos h]
theorem yf {c:ni} {s:Int} (hr:bc c=true) (h:c.1=s):iP c s=0:=by unfold iP;rw [if_neg (by rw [hr];simp),if_neg (by simpa using h)]
theorem wX (c:ni):g.iD c=some (((bC c).1,((bC c).2,())),()):=by
 have hR:=mY c
 unfold g.iD bC
 cases hr:bc c with
 | false=>
  rw [hr] at hR
  rw [yg 2 hr,if_pos (by decide)]
  repeat refine HS ?_
  rfl
 | true=>
  rw [hr] at hR
  by_cases h2:c.1=2
  ·have:=gM hr h2
   have e:aK .i64 c.2.1 1=c.2.1-1:=aL (by omega)
   rw [e,yf hr h2,if_neg (by decide)]
   by_cases h1:c.2.1=1
   ·rw [if_pos h1]
    repeat refine HS ?_
    rw [h1];rfl
   ·rw [if_neg h1]
    repeat refine HS ?_
    rfl
  ·rw [B0 hr h2,if_pos (by decide)]
   repeat refine HS ?_
   rfl
theorem yC (c:ni):g.jd c=some (((dZ c).1,((dZ c).2,())),()):=by
 have hR:=mY c
 unfold g.jd dZ
 cases hr:bc c with
 | false=>
  rw [hr] at hR
  rw [yg 3 hr,if_pos (by decide)]
  repeat refine HS ?_
  rfl
 | true=>
  rw [hr] at hR
  by_cases h2:c.1=3
  ·have:0≤c.2.2.2∧c.2.2.2≤16777215:=by
    have h:=hr
    unfold bc at h
    simp only [zC,bG] at h
    exact h.1
   have e:eg (ae .i64 c.2.2.2 1) 16777216=cO c.2.2.2:=by rw [aH (by omega),aS (by omega)];rfl
   rw [e,yf hr h2,if_neg (by decide)]
   repeat refine HS ?_
   rfl
  ·rw [B0 hr h2,if_pos (by decide)]
   repeat refine HS ?_
   rfl
structure YN where
 s:Nat
 c:Nat
 x:Nat
 g:Nat
 b:Nat
structure uJ (y:YN) (fr en:Int) (l:List eY) (fl:List Xt) (d12:lG) (d13:kt) (d14:iK) (d15:T4) (d16:gT):Prop where
 sb:d12[y.s]?=some (some y.c,(some y.x,some y.g))
 gb:d13[y.g]?=some (fr,some y.b)
 cr:aE d14 y.c=some (l.map (·.1))
 xr:aE d15 y.x=some (l.map (·.2))
 br:∃bits,aE d16 y.b=some bits∧GB fr en bits fl
section
variable {y:YN} {fr en:Int} {l:List eY} {fl:List Xt} {d12:lG} {d13:kt} {d14:iK} {d15:T4} {d16:gT}
theorem mM {l:List eY} {i:Int} (h:0≤i∧i<l.length):nth (0,(0,(0,0))) (l.map (·.1)) (nN i)=(ah l i).1:=by
 unfold ah nth nN
 rw [zA,zA,zL]
 cases hx:l[i.toNat]? with
 | none=>rw [List.getElem?_eq_none_iff] at hx;omega
 | some x=>rfl
theorem EH {l:List eY} {i:Int} (h:0≤i∧i<l.length):nth (0,0) (l.map (·.2)) (nN i)=(ah l i).2:=by
 unfold ah nth nN
 rw [zA,zA,zL]
 cases hx:l[i.toNat]? with
 | none=>rw [List.getElem?_eq_none_iff] at hx;omega
 | some x=>rfl
theorem NV (h:uJ y fr en l fl d12 d13 d14 d15 d16) (hl:l.length≤100) (i:Int):g.c_ y.s i d12 d13 d14 d15 d16=some ((lz l 1 i,()),()):=by
 have e1:∀d,nth d d12 y.s=(some y.c,(some y.x,some y.g)):=fun d=>bj h.sb
 have hc:=h.cr
 unfold g.c_
 simp only [e1]
 by_cases h1:1≤i
 ·repeat refine HS ?_
  have:bw i (zN (len (l.map (·.1))))=lz l 1 i:=by
   rw [cz,bt,zH]
   by_cases h2:i<l.length
   ·rw [cg.2 ⟨h1,h2⟩];exact decide_eq_true h2
   ·rw [H6.2 (by omega)];exact decide_eq_false h2
  rw [this]
 ·rw [H6.2 (by omega)]
  repeat refine HS ?_
  rfl
theorem uJ.put (h:uJ y fr en l fl d12 d13 d14 d15 d16) {i:Int} (hi:0≤i∧i<l.length) (c:ni):uJ y fr en (l.set i.toNat (c,(ah l i).2)) fl d12 d13 (aT d14 y.c (some (aT (l.map (·.1)) (nN i) c))) d15 d16:=
 ⟨h.sb,h.gb,by rw [aB h.cr,List.map_set];rfl,by
  rw [h.xr,List.map_set]
  show _=some ((l.map (·.2)).set i.toNat (ah l i).2)
  rw [j8 (by rw [zL,jr hi.1 hi.2];rfl)],h.br⟩
theorem wE (h:uJ y fr en l fl d12 d13 d14 d15 d16) {i:Int} (hi:0≤i∧i<l.length) (hl:l.length≤100) (c:ni) (e:Int) :
  g.cU y.s i c e d12 d13 d15 d16 d14=some ((e,()),(if e=0 then aT d14 y.c (some (aT (l.map (·.1)) (nN i) c)) else d14,())):=by
 have e1:∀d,nth d d12 y.s=(some y.c,(some y.x,some y.g)):=fun d=>bj h.sb
 have hc:=h.cr
 have hm:(l.map (·.1)).length=l.length:=zH ..
 unfold g.cU
 simp only [e1]
 by_cases h1:e=0
 ·rw [if_pos h1]
  repeat refine HS ?_
  rfl
 ·rw [if_neg h1]
  repeat refine HS ?_
  rfl
theorem Iw (h:uJ y fr en l fl d12 d13 d14 d15 d16) (hl:l.length≤100) (i f:Int) :
  ∃eh,g.dC y.s i f d12 d13 d15 d16 d14=some (((cZ l i (fun c=>b_ c f)).2,()),(eh,()))∧uJ y fr en (cZ l i (fun c=>b_ c f)).1 fl d12 d13 eh d15 d16:=by
 have e1:∀d,nth d d12 y.s=(some y.c,(some y.x,some y.g)):=fun d=>bj h.sb
 have hc:=h.cr
 have hI:=NV h hl i
 have hm:(l.map (·.1)).length=l.length:=zH ..
 unfold cZ
 cases hi:lz l 1 i with
 | false=>
  rw [hi] at hI
  refine ⟨d14,?_,h⟩
  unfold g.dC
  repeat refine HS ?_
  rfl
 | true=>
  rw [hi] at hI
  rw [cg] at hi
  have hn:=mM (l:=l) (i:=i) (by omega)
  have hE:=wY (ah l i).1 f
  have hB:=wE h (i:=i) (by omega) hl (b_ (ah l i).1 f).1 (b_ (ah l i).1 f).2
  rw [if_pos rfl]
  refine ⟨if (b_ (ah l i).1 f).2=0 then aT d14 y.c (some (aT (l.map (·.1)) (nN i) (b_ (ah l i).1 f).1)) else d14,?_,?_⟩
  ·unfold g.dC
   simp only [e1]
   repeat refine HS ?_
   rw [hn]
   repeat refine HS ?_
   split
   ·rename_i h0;dsimp only at h0 ⊢;rw [h0]
   ·rfl
  ·split
   ·exact h.put (by omega) _
   ·exact h
theorem A6 (h:uJ y fr en l fl d12 d13 d14 d15 d16) (hl:l.length≤100) (i:Int) :
  ∃eh b,g.cl y.s i d12 d13 d15 d16 d14=some ((b,((cZ l i bC).2,())),(eh,()))∧uJ y fr en (cZ l i bC).1 fl d12 d13 eh d15 d16:=by
 have e1:∀d,nth d d12 y.s=(some y.c,(some y.x,some y.g)):=fun d=>bj h.sb
 have hc:=h.cr
 have hI:=NV h hl i
 have hm:(l.map (·.1)).length=l.length:=zH ..
 unfold cZ
 cases hi:lz l 1 i with
 | false=>
  rw [hi] at hI
  refine ⟨d14,false,?_,h⟩
  unfold g.cl
  repeat refine HS ?_
  rfl
 | true=>
  rw [hi] at hI
  rw [cg] at hi
  have hn:=mM (l:=l) (i:=i) (by omega)
  have hE:=wX (ah l i).1
  have hB:=wE h (i:=i) (by omega) hl (bC (ah l i).1).1 (bC (ah l i).1).2
  rw [if_pos rfl]
  by_cases h0:(bC (ah l i).1).2=0
  ·rw [if_pos h0] at hB ⊢
   refine ⟨aT d14 y.c (some (aT (l.map (·.1)) (nN i) (bC (ah l i).1).1)),aj (bC (ah l i).1).1.1 3,?_,h.put (by omega) (bC (ah l i).1).1⟩
   unfold g.cl
   simp only [e1]
   repeat refine HS ?_
   rw [hn]
   repeat refine HS ?_
   rw [h0]
  ·rw [if_neg h0] at hB ⊢
   refine ⟨d14,false,?_,h⟩
   unfold g.cl
   simp only [e1]
   repeat refine HS ?_
   rw [hn]
   repeat refine HS ?_
   rfl
theorem L4 (h:uJ y fr en l fl d12 d13 d14 d15 d16) (hl:l.length≤100) (i:Int) :
  ∃eh,g.dg y.s i d12 d13 d15 d16 d14=some (((cZ l i dZ).2,()),(eh,()))∧uJ y fr en (cZ l i dZ).1 fl d12 d13 eh d15 d16:=by
 have e1:∀d,nth d d12 y.s=(some y.c,(some y.x,some y.g)):=fun d=>bj h.sb
 have hc:=h.cr
 have hI:=NV h hl i
 have hm:(l.map (·.1)).length=l.length:=zH ..
 unfold cZ
 cases hi:lz l 1 i with
 | false=>
  rw [hi] at hI
  refine ⟨d14,?_,h⟩
  unfold g.dg
  repeat refine HS ?_
  rfl
 | true=>
  rw [hi] at hI
  rw [cg] at hi
  have hn:=mM (l:=l) (i:=i) (by omega)
  have hE:=yC (ah l i).1
  have hB:=wE h (i:=i) (by omega) hl (dZ (ah l i).1).1 (dZ (ah l i).1).2
  rw [if_pos rfl]
  refine ⟨if (dZ (ah l i).1).2=0 then aT d14 y.c (some (aT (l.map (·.1)) (nN i) (dZ (ah l i).1).1)) else d14,?_,?_⟩
  ·unfold g.dg
   simp only [e1]
   repeat refine HS ?_
   rw [hn]
   repeat refine HS ?_
   split
   ·rename_i h0;dsimp only at h0 ⊢;rw [h0]
   ·rfl
  ·split
   ·exact h.put (by omega) _
   ·exact h
end
open Go.Bm Go.jG
theorem ud:∀{l:List eY},iq l=none→∀x∈l,x.1.1≠0
 | [],_,x,hx=>by cases hx
 | y::l,h,x,hx=>by
  unfold iq at h
  split at h
  ·cases h
  ·rename_i hy
   rcases List.mem_cons.1 hx with rfl | hx
   ·exact hy
   ·exact ud (by simpa using h) x hx
theorem sF:∀{l:List eY} {i j:Nat} {x:eY},iq l=some i→j<i→l[j]?=some x→x.1.1≠0
 | [],_,_,_,h,_,_=>by cases h
 | y::l,i,j,x,h,hj,hx=>by
  unfold iq at h
  split at h
  ·have h:0=i:=Option.some.inj h
   omega
  ·rename_i hy
   cases hf:iq l with
   | none=>rw [hf] at h;cases h
   | some q=>
    rw [hf] at h
    have h:q+1=i:=by simpa using h
    cases j with
    | zero=>simp at hx;subst hx;exact hy
    | succ j=>exact sF (j:=j) hf (by omega) (by simpa using hx)
section
variable {y:YN} {fr en:Int} {l:List eY} {fl:List Xt} {d12:lG} {d13:kt} {d14:iK} {d15:T4} {d16:gT}
abbrev CrS:Type:=((Int×Unit)×(Unit×(Unit×(Unit×(iK×(T4×(gT×Unit)))))))
def KE (i:Int) (d14:iK) (d15:T4) (d16:gT):CrS:=((i,()),((),((),((),(d14,(d15,(d16,())))))))
abbrev CrR:Type:=(Int×(Int×Unit))×(iK×(T4×(gT×Unit)))
theorem abi (h:uJ y fr en l fl d12 d13 d14 d15 d16) (hl:l.length≤100) {n:Int} {k:Nat} {x:eY} (hk:l[k]?=some x) (hx:x.1.1≠0) (F:CrS→Option CrR) :
  g.bz y.s n d12 d13 F (KE (k:Int) d14 d15 d16)=F (KE ((k+1:Nat):Int) d14 d15 d16):=by
 have e1:∀d,nth d d12 y.s=(some y.c,(some y.x,some y.g)):=fun d=>bj h.sb
 have hc:=h.cr
 have hm:(l.map (·.1)).length=l.length:=zH ..
 obtain ⟨hk1,TJ⟩:=zB.1 hk
 have hn:nth (0,(0,(0,0))) (l.map (·.1)) (nN (k:Int))=x.1:=bj (by rw [cK,zL,hk];rfl)
 unfold g.bz KE
 dsimp only
 simp only [e1]
 rw [uE (by omega)]
 repeat refine HS ?_
 rw [hn]
 repeat refine HS ?_
 rfl
theorem SA (h:uJ y fr en l fl d12 d13 d14 d15 d16) (hl:l.length≤100) {n:Int} (F:CrS→Option CrR) :
  g.bz y.s n d12 d13 F (KE (l.length:Int) d14 d15 d16)=some ((0,(13,())),(d14,(d15,(d16,())))):=by
 have e1:∀d,nth d d12 y.s=(some y.c,(some y.x,some y.g)):=fun d=>bj h.sb
 have hc:=h.cr
 have hm:(l.map (·.1)).length=l.length:=zH ..
 unfold g.bz KE
 dsimp only
 simp only [e1]
 repeat refine HS ?_
 rfl
theorem QI {n:Int} (h:1≤n∧n≤8192):fI .i64 (iI .i64 (ae .i64 n 7) 8) 8=rC n:=by
 rw [aH (by omega),a9 (by omega),aZ (by omega)];unfold rC;omega
theorem z4 (h:uJ y fr en l fl d12 d13 d14 d15 d16) (hl:1≤l.length∧l.length≤100) {n:Int} (N:Nat) (R:Option CrR) (hb:∀k,1≤k→k≤N→∃x,l[k]?=some x∧x.1.1≠0) (he:∀F,g.bz y.s n d12 d13 F (KE ((N+1:Nat):Int) d14 d15 d16)=R) :
  loop (g.bz y.s n d12 d13) (KE 1 d14 d15 d16)=R:=by
 have hN:N≤100:=by
  by_cases h0:N=0
  ·omega
  ·obtain ⟨x,hx,_⟩:=hb N (by omega) (Nat.le_refl _)
   have:=(zB.1 hx).1
   omega
 refine dN (fun k=>KE ((k+1:Nat):Int) d14 d15 d16) (fun _=>R) N (by unfold lD;omega) (fun F=>he F) (fun k hk=>.inr ⟨rfl,fun F=>?_⟩)
 obtain ⟨x,hx,Lk⟩:=hb (k+1) (by omega) (by omega)
 exact abi h hl.2 hx Lk F
theorem Ga (h:uJ y fr en l fl d12 d13 d14 d15 d16) (hs:SI fr en l fl) (xY:fl.length≤10000) (n:Int) :
  ∃eh rm rk,g.cV y.s n d12 d13 d14 d15 d16=some (((bW l fl n).2.2.1,((bW l fl n).2.2.2,())),(eh,(rm,(rk,()))))∧uJ y fr en (bW l fl n).1 (bW l fl n).2.1 d12 d13 eh rm rk:=by
 have Ls:=hs.len
 unfold bW
 by_cases hn:within n 1 8192=true
 ·rw [if_neg (by rw [hn];simp)]
  rw [bG] at hn
  have tE:∀R,loop (g.bz y.s n d12 d13) (KE 1 d14 d15 d16)=R→g.cV y.s n d12 d13 d14 d15 d16=R:=by
   intro R hR
   unfold g.cV
   repeat refine HS ?_
   exact hR
  cases Cz:iq l with
  | none=>
   refine ⟨d14,d15,d16,tE _ (z4 h (by omega) (l.length-1) _ (fun k h1 h2=>?_) (fun F=>?_)),h⟩
   ·have hk:k<l.length:=by omega
    exact ⟨l[k],zD hk,ud Cz _ (List.getElem_mem hk)⟩
   ·rw [show l.length-1+1=l.length by omega]
    exact SA h (by omega) F
  | some i=>
   obtain ⟨x,hx,Lk⟩:=jC Cz
   have hi:i<l.length:=(zB.1 hx).1
   have TK:i≠0:=by
    rintro rfl
    have:=(hs.im x hx).1
    rw [this] at Lk;cases Lk
   have hb:∀k,1≤k→k≤i-1→∃x,l[k]?=some x∧x.1.1≠0:=fun k h1 h2=>by
    have hk:k<l.length:=by omega
    exact ⟨l[k],zD hk,sF Cz (by omega) (zD hk)⟩
   have e1:∀d,nth d d12 y.s=(some y.c,(some y.x,some y.g)):=fun d=>bj h.sb
   have hc:=h.cr
   have hxr:=h.xr
   obtain ⟨bits,TP,Lx⟩:=h.br
   have hm:(l.map (·.1)).length=l.length:=zH ..
   have Cy:(l.map (·.2)).length=l.length:=zH ..
   have hu:0<rC n∧rC n%8=0:=by unfold rC;omega
   have JN:nth (0,(0,(0,0))) (l.map (·.1)) (nN (i:Int))=x.1:=bj (by rw [cK,zL,hx];rfl)
   have YT:ah l (i:Int)=x:=ma hx
   have MP:=QI (n:=n) (by omega)
   cases hca:jF fl (rC n) with
   | none=>
    have hC:=Co h.gb TP Lx hs.DJ hs.fx xY hu hca
    refine ⟨d14,d15,d16,tE _ (z4 h (by omega) (i-1) _ hb (fun F=>?_)),h⟩
    rw [show i-1+1=i by omega]
    unfold g.bz KE
    dsimp only
    simp only [e1]
    rw [MP]
    repeat refine HS ?_
    rw [JN]
    repeat refine HS ?_
    rfl
   | some q=>
    obtain ⟨a,tL⟩:=q
    have hC:=Cn h.gb TP Lx hs.DJ hs.fx xY hu hca
    have hG:=Lx.jF hs.DJ.2.1 hs.fx hu hca
    have hup:aw (0,(0,(0,0))) (l.map (·.1)) (nN (i:Int)) (fun r=>(1,r.2))=(l.map (·.1)).set i (1,x.1.2):=by unfold aw;rw [JN];rfl
    refine ⟨aT d14 y.c (some ((l.map (·.1)).set i (1,x.1.2))),aT d15 y.x (some (aT (l.map (·.2)) (nN (i:Int)) (a,rC n))),aT d16 y.b (some (mX bits ((a-fr) / 8).toNat false (rC n / 8).toNat)),tE _ (z4 h (by omega) (i-1) _ hb (fun F=>?_)),?_⟩
    ·rw [show i-1+1=i by omega]
     unfold g.bz KE
     dsimp only
     simp only [e1]
     rw [MP]
     repeat refine HS ?_
     rw [JN]
     repeat refine HS ?_
     rw [hup]
    ·dsimp only
     refine ⟨h.sb,h.gb,?_,?_,⟨_,aB TP,hG⟩⟩
     ·rw [aB hc,YT,List.map_set]
     ·rw [aB hxr,List.map_set];rfl
 ·rw [if_pos (by simpa using hn)]
  rw [bG] at hn
  refine ⟨d14,d15,d16,?_,h⟩
  unfold g.cV
  by_cases h1:n<1
  ·repeat refine HS ?_
   rfl
  ·repeat refine HS ?_
   rfl
theorem C4 (h:uJ y fr en l fl d12 d13 d14 d15 d16) (hs:SI fr en l fl) (xY:fl.length≤10000) (i:Int) :
  ∃eh rm rk,g.cq y.s i d12 d13 d14 d15 d16=some (((bL fr en l fl i).2.2,()),(eh,(rm,(rk,()))))∧uJ y fr en (bL fr en l fl i).1 (bL fr en l fl i).2.1 d12 d13 eh rm rk:=by
 have Ls:=hs.len
 have e1:∀d,nth d d12 y.s=(some y.c,(some y.x,some y.g)):=fun d=>bj h.sb
 have hc:=h.cr
 have hxr:=h.xr
 obtain ⟨bits,TP,Lx⟩:=h.br
 have hm:(l.map (·.1)).length=l.length:=zH ..
 have Cy:(l.map (·.2)).length=l.length:=zH ..
 have hI:=NV h (by omega) i
 unfold bL
 cases hi:lz l 1 i with
 | false=>
  rw [hi] at hI
  rw [if_pos rfl]
  refine ⟨d14,d15,d16,?_,h⟩
  unfold g.cq
  repeat refine HS ?_
  rfl
 | true=>
  rw [hi] at hI
  rw [cg] at hi
  rw [if_neg (by simp)]
  have hx:=jr (l:=l) (i:=i) (by omega) hi.2
  have hn:=mM (l:=l) (i:=i) (by omega)
  have MZ:=EH (l:=l) (i:=i) (by omega)
  generalize P6:ah l i=x at *
  by_cases h0:x.1.1=0
  ·rw [if_pos h0]
   refine ⟨d14,d15,d16,?_,h⟩
   unfold g.cq
   simp only [e1]
   repeat refine HS ?_
   rw [hn]
   repeat refine HS ?_
   rfl
  rw [if_neg h0]
  by_cases h1:x.1.1=1
  ·rw [if_neg (by simpa using h1)]
   have qX:=hs.ux _ x (by omega) hx h0
   have hdj:=hs.fu _ x (by omega) hx h0
   obtain ⟨tL,g1,_⟩:=zm hs.DJ hs.fx hs.pw qX hdj
   have hGv:=NW h.gb TP Lx hs.DJ hs.fx qX hdj
   have hGb:=Lx.tK hs.DJ.2.1 hs.fx qX g1
   have hr:0≤x.1.2.2.2∧x.1.2.2.2≤16777215:=by
    have h:=hs.cr _ _ hx
    unfold bc at h
    simp only [zC,bG] at h
    exact h.1
   have e:eg (ae .i64 x.1.2.2.2 1) 16777216=cO x.1.2.2.2:=by rw [aH (by omega),aS (by omega)];rfl
   rw [g1]
   refine ⟨aT d14 y.c (some (aT (l.map (·.1)) (nN i) (0,(0,(-1,cO x.1.2.2.2))))),aT d15 y.x (some (aT (l.map (·.2)) (nN i) (0,0))),aT d16 y.b (some (mX bits ((x.2.1-fr) / 8).toNat true (x.2.2 / 8).toNat)),?_,?_⟩
   ·unfold g.cq
    simp only [e1]
    repeat refine HS ?_
    rw [hn]
    repeat refine HS ?_
    rw [hn]
    repeat refine HS ?_
    rw [MZ]
    repeat refine HS ?_
    rw [hn,e]
   ·dsimp only
    refine ⟨h.sb,h.gb,?_,?_,⟨_,aB TP,hGb⟩⟩
    ·rw [aB hc,List.map_set];rfl
    ·rw [aB hxr,List.map_set];rfl
  ·rw [if_pos h1]
   refine ⟨d14,d15,d16,?_,h⟩
   unfold g.cq
   simp only [e1]
   repeat refine HS ?_
   rw [hn]
   repeat refine HS ?_
   rw [hn]
   repeat refine HS ?_
   rfl
end
open Go.Bm Go.jG
abbrev Obj:Type:=Int×(Int×(Int×(Option Nat×Bool)))
def ro (q:RO):Obj:=(q.gp,(q.pl,(q.tag,(some q.nm,q.done))))
structure YB where
 y:YN
 o:Option Nat
 O:List RO
 G:List Int
 B:List Int
 R:List (List Int)
 C:List (List cW)
structure YR (yd:Nat) (m:M) (b:YB) (d11:l3) (d12:lG) (d13:kt) (d14:iK) (d15:T4) (d16:gT) (d17:lF) (d18:dQ):Prop where
 bx:d11[yd]?=some (m.p,(m.f,(some b.y.s,(b.o,(b.G,(b.B,(b.R,b.C)))))))
 sc:uJ b.y m.fr m.en m.sc m.fl d12 d13 d14 d15 d16
 ob:OR m b.O
 ol:b.O.length≤9000
 ow:(b.o=none∧b.O=[])∨∃j,b.o=some j∧aE d17 j=some (b.O.map ro)
 sl:∀q∈b.O,aE d18 q.nm=some q.bg
 un:b.O.Pairwise fun q r=>q.nm≠r.nm
 ga:∀s:Int,0≤s→s<m.p.1→b.G.getD s.toNat 0=(m.bA s).gate
 us:∀s:Int,0≤s→s<m.p.1→b.B.getD s.toNat 0=(m.bA s).used
 rg:∀n:Int,0≤n→n<m.th.length→b.R.getD n.toNat [0,0,0,0]=(m.aA n).cP
 cs:∀n:Int,0≤n→n<m.th.length→b.C.getD n.toNat []=(m.aA n).aF
def oH (P:RO→Bool):List RO→Int→Int
 | [],_=>-1
 | q::l,k=>if P q=true then k else oH P l (k+1)
theorem vF {P:RO→Bool}:∀{l:List RO} (k:Int),(∀q∈l,P q=false)→oH P l k = -1
 | [],_,_=>rfl
 | q::l,k,h=>by
  unfold oH
  rw [if_neg (by rw [h q (zV ..)];simp)]
  exact vF _ fun q hq=>h q (zT _ hq)
theorem vE {P:RO→Bool}:∀{l:List RO} {i:Nat} {q:RO} (k:Int),l[i]?=some q→P q=true→(∀j r,l[j]?=some r→P r=true→j=i)→oH P l k=k+i
 | [],_,_,_,h,_,_=>by simp at h
 | x::l,0,q,k,h,hp,_=>by
  simp at h
  subst h
  unfold oH
  rw [if_pos hp];simp
 | x::l,i+1,q,k,h,hp,hu=>by
  have hx:¬P x=true:=fun hx=>by have:=hu 0 x rfl hx;omega
  unfold oH
  rw [if_neg hx,vE (l:=l) (i:=i) (q:=q) (k+1) (by simpa using h) hp (fun j r hj hr=>by have:=hu (j+1) r (by simpa using hj) hr;omega)]
  omega
def fP (r:jl) (e:Int) (q:RO):Bool:=decide (q.gp=r.1) && (decide (q.pl=r.2.2) && decide (e=r.2.1))
section
variable {yd:Nat} {m:M} {b:YB} {d11:l3} {d12:lG} {d13:kt} {d14:iK} {d15:T4} {d16:gT} {d17:lF} {d18:dQ} {k:Nat}
theorem YR.nx (h:YR yd m b d11 d12 d13 d14 d15 d16 d17 d18):nth bJ d11 yd=(m.p,(m.f,(some b.y.s,(b.o,(b.G,(b.B,(b.R,b.C))))))):=bj h.bx
theorem YR.nC (h:YR yd m b d11 d12 d13 d14 d15 d16 d17 d18) {n:Int} (hn:0≤n∧n<m.th.length):nth [] b.C (nN n)=(m.aA n).aF:=h.cs n hn.1 hn.2
theorem YR.nR (h:YR yd m b d11 d12 d13 d14 d15 d16 d17 d18) {n:Int} (hn:0≤n∧n<m.th.length) (r:Int):nth 0 (nth [0,0,0,0] b.R (nN n)) (nN r)=m.cT n r:=by
 have:nth [0,0,0,0] b.R (nN n)=(m.aA n).cP:=h.rg n hn.1 hn.2
 rw [this];rfl
theorem YR.FU (h:YR yd m b d11 d12 d13 d14 d15 d16 d17 d18):nth (none,(none,none)) d12 b.y.s=(some b.y.c,(some b.y.x,some b.y.g)):=bj h.sc.sb
theorem YR.ep (h:YR yd m b d11 d12 d13 d14 d15 d16 d17 d18) (hi:MI k m) {s:Int} (hs:0≤s∧s<m.p.1):(nth (0,(0,(0,0))) (m.sc.map (·.1)) (nN s)).2.2.2=kS m s:=by
 rw [mM (by rw [hi.ls];exact hs)];rfl
theorem DQ (h:YR yd m b d11 d12 d13 d14 d15 d16 d17 d18) (hi:MI k m) {r:jl} (hr:0≤r.1∧r.1<m.p.1) :
  g.dT yd r d11 d12 d13 d14 d15 d16 d17 d18=some ((oH (fP r (kS m r.1)) b.O 0,()),()):=by
 have hb:=h.nx
 have hs:=h.FU
 have hc:=h.sc.cr
 have he:=h.ep hi hr
 have Cw:=h.ol
 have zf:=hi.si.len
 have vT:=hi.ls
 have hm:(m.sc.map (·.1)).length=m.sc.length:=zH ..
 unfold g.dT
 rcases h.ow with ⟨w1,w2⟩ | ⟨j,w1,w2⟩
 ·rw [w2]
  rw [qa]
  show g.ch yd r d11 d12 d14 d17 _ _=_
  unfold g.ch
  simp only [hb,w1]
  repeat refine HS ?_
  rfl
 ·refine dN (fun k=>oF (k:Int)) (fun k=>some ((oH (fP r (kS m r.1)) (b.O.drop k) (k:Int),()),())) b.O.length (by unfold lD;omega) (fun F=>?_) (fun k hk=>?_)
  ·have xh:(b.O.map ro).length=b.O.length:=zH ..
   unfold g.ch oF
   dsimp only
   simp only [hb,w1]
   rw [List.drop_of_length_le (Nat.le_refl _)]
   repeat refine HS ?_
   rfl
  ·have xh:(b.O.map ro).length=b.O.length:=zH ..
   have hq:nth (0,(0,(0,(none,false)))) (b.O.map ro) (nN (k:Int))=ro b.O[k]:=bj (by rw [cK,zL,zD hk];rfl)
   rw [List.drop_eq_getElem_cons hk]
   generalize b.O[k]=q at *
   have hd:oH (fP r (kS m r.1)) (q::b.O.drop (k+1)) (k:Int)=if fP r (kS m r.1) q=true then (k:Int) else oH (fP r (kS m r.1)) (b.O.drop (k+1)) ((k:Int)+1):=rfl
   rw [hd]
   have h1:(nth (0,(0,(0,(none,false)))) (b.O.map ro) (nN (k:Int))).1=q.gp:=by rw [hq];rfl
   have h2:(nth (0,(0,(0,(none,false)))) (b.O.map ro) (nN (k:Int))).2.1=q.pl:=by rw [hq];rfl
   by_cases c1:q.gp=r.1
   ·by_cases c2:q.pl=r.2.2
    ·by_cases c3:kS m r.1=r.2.1
     ·refine .inl fun F=>?_
      rw [if_pos (by simp [fP,c1,c2,c3])]
      have h3:(nth (0,(0,(0,0))) (m.sc.map (·.1)) (nN r.1)).2.2.2=r.2.1:=by rw [he];exact c3
      unfold g.ch oF
      dsimp only
      simp only [hb,w1]
      repeat refine HS ?_
      simp only [hs]
      repeat refine HS ?_
      rfl
     ·refine .inr ⟨by rw [if_neg (by simp [fP,c3])];rw [show ((k+1:Nat):Int)=(k:Int)+1 by omega],fun F=>?_⟩
      have h3:¬(nth (0,(0,(0,0))) (m.sc.map (·.1)) (nN r.1)).2.2.2=r.2.1:=by rw [he];exact c3
      unfold g.ch oF
      dsimp only
      simp only [hb,w1]
      rw [uE (by omega)]
      repeat refine HS ?_
      simp only [hs]
      repeat refine HS ?_
      rfl
    ·refine .inr ⟨by rw [if_neg (by simp [fP,c2])];rw [show ((k+1:Nat):Int)=(k:Int)+1 by omega],fun F=>?_⟩
     unfold g.ch oF
     dsimp only
     simp only [hb,w1,hs]
     rw [uE (by omega)]
     repeat refine HS ?_
     rfl
   ·refine .inr ⟨by rw [if_neg (by simp [fP,c1])];rw [show ((k+1:Nat):Int)=(k:Int)+1 by omega],fun F=>?_⟩
    unfold g.ch oF
    dsimp only
    simp only [hb,w1,hs]
    rw [uE (by omega)]
    repeat refine HS ?_
    rfl
theorem vY (h:YR yd m b d11 d12 d13 d14 d15 d16 d17 d18) (hi:MI k m) {r:jl} (hr:0≤r.1∧r.1<m.p.1) {o:ku} (hf:m.find r=some o) :
  ∃(i:Nat) (q:RO),b.O[i]?=some q∧q.gp=r.1∧q.pl=r.2.2∧kS m r.1=r.2.1∧o=q.ua (kS m q.gp)∧oH (fP r (kS m r.1)) b.O 0=i:=by
 rw [M.Kc h.ob hr] at hf
 cases hq:b.O.find? (fun o=>oc r.1 o && decide ((o.ua (kS m r.1)).ref=r)) with
 | none=>rw [hq] at hf;cases hf
 | some q=>
  rw [hq] at hf
  have hf:q.ua (kS m r.1)=o:=by simpa using hf
  have h1:=List.find?_some hq
  rw [zC,decide_eq_true_eq] at h1
  obtain ⟨i,hi2⟩:=List.getElem?_of_mem (List.mem_of_find?_eq_some hq)
  have h2:q.gp=r.1:=fh.1 h1.1
  have h3:q.pl=r.2.2:=congrArg (fun r:jl=>r.2.2) h1.2
  have h4:kS m r.1=r.2.1:=congrArg (fun r:jl=>r.2.1) h1.2
  refine ⟨i,q,hi2,h2,h3,h4,by rw [h2,hf],?_⟩
  rw [vE 0 hi2 (by simp [fP,h2,h3,h4]) (fun j p hj hp=>?_)]
  ·simp
  ·simp [fP] at hp
   exact h.ob.uq hi hj hi2 (by rw [hp.1,h2]) (by rw [hp.2.1,h3])
theorem vZ (h:YR yd m b d11 d12 d13 d14 d15 d16 d17 d18) {r:jl} (hr:0≤r.1∧r.1<m.p.1) (hf:m.find r=none):oH (fP r (kS m r.1)) b.O 0 = -1:=by
 refine vF _ fun q hq=>?_
 rw [M.Kc h.ob hr] at hf
 have hf:b.O.find? (fun o=>oc r.1 o && decide ((o.ua (kS m r.1)).ref=r))=none:=by simpa using hf
 rw [List.find?_eq_none] at hf
 have:=hf q hq
 cases hp:fP r (kS m r.1) q with
 | false=>rfl
 | true=>
  exfalso
  apply this
  simp [fP] at hp
  rw [zC,decide_eq_true_eq]
  refine ⟨fh.2 hp.1,?_⟩
  show (q.gp,kS m r.1,q.pl)=r
  rw [hp.1,hp.2.1,hp.2.2]
theorem wz {aF:List cW} {V:Int} (h:(m.check aF V).1=none):(m.check aF V).2≠0:=by
 unfold M.check at h ⊢
 split
 ·decide
 ·split
  ·decide
  ·split
   ·decide
   ·rename_i c1 c2 c3
    rw [if_neg c1,if_neg c2,if_neg c3] at h
    cases hf:m.find (ay V).1 with
    | none=>decide
    | some o=>rw [hf] at h;cases h
theorem oY (h:YR yd m b d11 d12 d13 d14 d15 d16 d17 d18) (hi:MI k m) {n:Int} (hn:0≤n∧n<m.th.length) {V:Int} (hV:u64 V) (hc:(m.check (m.aA n).aF V).1=none) :
  g.cM yd n V d11 d12 d13 d14 d15 d16 d17 d18=some ((0,(0,((m.check (m.aA n).aF V).2,()))),()):=by
 have hb:=h.nx
 have hs:=h.FU
 have zj:=h.sc.cr
 have zf:=hi.si.len
 have vT:=hi.ls
 have dP:=hi.lt
 have Dq:=hi.vI
 have hm:(m.sc.map (·.1)).length=m.sc.length:=zH ..
 have hU:=mf hV
 have hC:=h.nC hn
 have zh:=(hi.aA hn).2.2.len
 have hRe:=mc (l:=(m.aA n).aF) (ay V).1.1 (by omega)
 unfold g.cM
 simp only [hb]
 rw [hC]
 unfold M.check at hc ⊢
 by_cases h1:(ay V).2=0
 ·by_cases h2:m.p.1≤(ay V).1.1
  ·rw [if_pos (.inr h2)]
   repeat refine HS ?_
   rfl
  ·rw [if_neg (by simp [h1];omega)] at hc ⊢
   cases h3:reach (m.aA n).aF (ay V).1.1 with
   | false=>
    rw [if_pos rfl]
    rw [h3] at hRe
    repeat refine HS ?_
    rfl
   | true=>
    rw [h3] at hc hRe
    rw [if_neg (by simp)] at hc ⊢
    have h0:0≤(ay V).1.1:=(cS.1 (gH h1).1).1.1
    have he:=h.ep hi (s:=(ay V).1.1) (by omega)
    have MT:(j9 m.sc (ay V).1.1).1.2.2.2=kS m (ay V).1.1:=by unfold j9;rw [if_pos (cg.2 (by omega))];rfl
    rw [MT] at hc ⊢
    by_cases h4:kS m (ay V).1.1=(ay V).1.2.1
    ·rw [if_neg (by simpa using h4)] at hc ⊢
     cases hf:m.find (ay V).1 with
     | some o=>rw [hf] at hc;cases hc
     | none=>
      have hF:=DQ h hi (r:=(ay V).1) (by omega)
      rw [vZ h (by omega) hf] at hF
      repeat refine HS ?_
      simp only [hs]
      repeat refine HS ?_
      rfl
    ·rw [if_pos (by simpa using h4)]
     have h5:¬(ay V).1.2.1=(nth (0,(0,(0,0))) (m.sc.map (·.1)) (nN (ay V).1.1)).2.2.2:=by rw [he];exact fun h=>h4 h.symm
     repeat refine HS ?_
     simp only [hs]
     repeat refine HS ?_
     rfl
 ·rw [if_pos (.inl h1)]
  repeat refine HS ?_
  rfl
theorem oX (h:YR yd m b d11 d12 d13 d14 d15 d16 d17 d18) (hi:MI k m) {n:Int} (hn:0≤n∧n<m.th.length) {V:Int} (hV:u64 V) {o:ku} (hc:(m.check (m.aA n).aF V).1=some o) :
  ∃(i:Nat) (q:RO),b.O[i]?=some q∧o=q.ua (kS m q.gp)∧(0≤q.gp∧q.gp<m.p.1)∧g.cM yd n V d11 d12 d13 d14 d15 d16 d17 d18=some (((i:Int),(q.gp,(0,()))),()):=by
 have hb:=h.nx
 have hs:=h.FU
 have zj:=h.sc.cr
 have zf:=hi.si.len
 have vT:=hi.ls
 have dP:=hi.lt
 have Dq:=hi.vI
 have hm:(m.sc.map (·.1)).length=m.sc.length:=zH ..
 have hU:=mf hV
 have hC:=h.nC hn
 have zh:=(hi.aA hn).2.2.len
 have hRe:=mc (l:=(m.aA n).aF) (ay V).1.1 (by omega)
 obtain ⟨_,h1,h2,h3,h4,h5⟩:=M.gO hc
 have h0:0≤(ay V).1.1:=(cS.1 (gH h1).1).1.1
 rw [h3] at hRe
 obtain ⟨i,q,q1,q2,q3,q4,q5,q6⟩:=vY h hi (r:=(ay V).1) (by omega) h5
 have hF:=DQ h hi (r:=(ay V).1) (by omega)
 rw [q6] at hF
 have he:=h.ep hi (s:=(ay V).1.1) (by omega)
 have h6:(ay V).1.2.1=(nth (0,(0,(0,0))) (m.sc.map (·.1)) (nN (ay V).1.1)).2.2.2:=by rw [he];exact q4.symm
 refine ⟨i,q,q1,q5,by omega,?_⟩
 unfold g.cM
 simp only [hb]
 rw [hC,q2]
 repeat refine HS ?_
 simp only [hs]
 repeat refine HS ?_
 rfl
theorem AM (h:YR yd m b d11 d12 d13 d14 d15 d16 d17 d18) (hi:MI k m) {n:Int} (hn:0≤n∧n<m.th.length) {V:Int} (hV:u64 V) (s:Int) :
  ∃e,g.cy yd n V s d11 d12 d13 d14 d15 d16 d17 d18=some ((e,()),())∧∀to,m.put (m.aA n).aF V s to=if e=0 then to.code 0 else m.code e:=by
 have hb:=h.nx
 have dP:=hi.lt
 have Dq:=hi.vI
 have hC:=h.nC hn
 have zh:=(hi.aA hn).2.2.len
 by_cases h0:V=0
 ·refine ⟨0,?_,fun to=>?_⟩
  ·unfold g.cy
   repeat refine HS ?_
   rfl
  ·unfold M.put;rw [if_pos h0];rfl
 cases hc:(m.check (m.aA n).aF V).1 with
 | none=>
  have hk:=oY h hi hn hV hc
  have he:=wz hc
  refine ⟨(m.check (m.aA n).aF V).2,?_,fun to=>?_⟩
  ·unfold g.cy
   repeat refine HS ?_
   rfl
  ·unfold M.put;rw [if_neg h0,if_pos he,if_neg he]
 | some o=>
  obtain ⟨i,q,q1,q2,q3,q4⟩:=oX h hi hn hV hc
  have h2:(m.check (m.aA n).aF V).2=0:=(M.gO hc).1
  have hA:=C1 (l:=(m.aA n).aF) q.gp s (by omega)
  have ho:o.ref.1=q.gp:=by rw [q2];rfl
  cases ha:pO (m.aA n).aF q.gp s with
  | false=>
   rw [ha] at hA
   refine ⟨22,?_,fun to=>?_⟩
   ·unfold g.cy
    simp only [hb]
    rw [hC]
    repeat refine HS ?_
    rfl
   ·unfold M.put;rw [if_neg h0,if_neg (by rw [h2];simp),hc];simp only;rw [ho,ha];rfl
  | true=>
   rw [ha] at hA
   refine ⟨0,?_,fun to=>?_⟩
   ·unfold g.cy
    simp only [hb]
    rw [hC]
    repeat refine HS ?_
    rfl
   ·unfold M.put;rw [if_neg h0,if_neg (by rw [h2];simp),hc];simp only;rw [ho,ha];rfl
end
open Go.Bm Go.jG
theorem l4 {α:Type} {d:α} {l:List α} {i:Nat} {f q:α→α}:aw d (aw d l i f) i q=aw d l i (fun r=>q (f r)):=by
 unfold aw aT nth
 rw [List.set_set]
 by_cases h:i<l.length
 ·rw [zA,List.getElem?_set,if_pos rfl,if_pos h];rfl
 ·rw [List.set_eq_of_length_le (by omega),List.set_eq_of_length_le (by omega)]
theorem l_ {m:M} {n j:Int} (hn:0≤n∧n<m.th.length) (hj:0≤j) (t:Aw):(m.fS n t).aA j=if j=n then t else m.aA j:=by
 unfold M.fS M.aA
 simp only
 rw [zA,zA,List.getElem?_set]
 by_cases e:j=n
 ·subst e;rw [if_pos rfl,if_pos (by omega),if_pos rfl];rfl
 ·rw [if_neg (by omega),if_neg e]
abbrev Bx:Type:=((Int×(Int×(Int×Int)))×((List (List (Int×(Int×Int))))×((Option Nat)×((Option Nat)×((List Int)×((List Int)×((List (List Int))×(List (List (Int×Bool))))))))))
def GC (m:M) (b:YB):Bx:=(m.p,(m.f,(some b.y.s,(b.o,(b.G,(b.B,(b.R,b.C)))))))
theorem jK {l:List eY} {i j:Int} (hi:0≤i∧i<l.length) (hj:0≤j) (x:eY):ah (l.set i.toNat x) j=if j=i then x else ah l j:=by
 unfold ah nth nN
 rw [zA,zA,List.getElem?_set]
 by_cases e:j=i
 ·subst e;rw [if_pos rfl,if_pos (by omega),if_pos rfl];rfl
 ·rw [if_neg (by omega),if_neg e]
theorem Fj {fr en:Int} {l:List eY} {fl:List Xt} (hs:SI fr en l fl) {i:Int} {f:ni→ni×Int} (hf:∀c,bc c=true→(f c).2=0→(f c).1.2.2.2=c.2.2.2) {s:Int} (h0:0≤s):(ah (cZ l i f).1 s).1.2.2.2=(ah l s).1.2.2.2:=by
 unfold cZ
 split
 ·rename_i h1
  rw [cg] at h1
  split
  ·rename_i h2
   dsimp only
   rw [jK (by omega) h0]
   split
   ·rename_i e
    subst e
    exact hf _ (hs.cr _ _ (jr (by omega) h1.2)) h2
   ·rfl
  ·rfl
 ·rfl
theorem Kq (fr:Int) (c:ni) (h:bc c=true) (h0:(b_ c fr).2=0):(b_ c fr).1.2.2.2=c.2.2.2:=by rw [(m9 h h0).1]
theorem Jh (c:ni) (h:bc c=true) (h0:(bC c).2=0):(bC c).1.2.2.2=c.2.2.2:=by
 have h2:c.1=2:=by
  unfold bC at h0
  split at h0
  ·rename_i h1;exact absurd h0 h1
  ·rename_i h1;exact (Ky (by simpa using h1:iP c 2=0)).2
 rw [(lv h h2).2]
 split<;>rfl
section
variable {yd:Nat} {m:M} {b:YB} {d11:l3} {d12:lG} {d13:kt} {d14:iK} {d15:T4} {d16:gT} {d17:lF} {d18:dQ} {k:Nat}
theorem YR.nu (h:YR yd m b d11 d12 d13 d14 d15 d16 d17 d18) (f:Bx→Bx):nth bJ (aw bJ d11 yd f) yd=f (GC m b):=by
 unfold aw
 rw [h.nx]
 exact bj (jX h.bx)
theorem YR.bu (h:YR yd m b d11 d12 d13 d14 d15 d16 d17 d18) (f:Bx→Bx):(aw bJ d11 yd f)[yd]?=some (f (GC m b)):=by
 unfold aw
 rw [h.nx]
 exact jX h.bx
theorem YR.H4 (h:YR yd m b d11 d12 d13 d14 d15 d16 d17 d18) {n:Int} (ht:(m.aA n).cP.length=4) (hn:0≤n∧n<m.th.length) {r:Int} (hr:0≤r∧r<4) (v:Int) {R':List (List Int)} {d:l3} (hR:R'=cm [0,0,0,0] b.R (nN n) (cm 0 (nth [0,0,0,0] b.R (nN n)) (nN r) v)) (hd:d[yd]?=some (m.p,(m.f,(some b.y.s,(b.o,(b.G,(b.B,(R',b.C)))))))) :
  YR yd (m.hJ n r v) { b with R:=R' } d d12 d13 d14 d15 d16 d17 d18:=by
 have e1:nth [0,0,0,0] b.R (nN n)=(m.aA n).cP:=h.rg n hn.1 hn.2
 refine ⟨hd,h.sc,⟨h.ob.rg,h.ob.ob⟩,h.ol,h.ow,h.sl,h.un,h.ga,h.us,fun j h0 h1=>?_,fun j h0 h1=>?_⟩
 ·have h2:j<m.th.length:=by have:(m.hJ n r v).th.length=m.th.length:=zM;rw [this] at h1;exact h1
  show R'.getD j.toNat _=_
  unfold M.hJ
  rw [l_ hn h0,hR,e1,kc,pJ ht (by omega)]
  by_cases e:j=n
  ·subst e;rw [if_pos rfl,if_pos (cH j).symm]
  ·rw [if_neg e,if_neg (by rw [cH];omega)];exact h.rg j h0 h2
 ·have h2:j<m.th.length:=by have:(m.hJ n r v).th.length=m.th.length:=zM;rw [this] at h1;exact h1
  unfold M.hJ
  rw [l_ hn h0]
  by_cases e:j=n
  ·subst e;rw [if_pos rfl];exact h.cs j h0 h2
  ·rw [if_neg e];exact h.cs j h0 h2
theorem YR.LU (h:YR yd m b d11 d12 d13 d14 d15 d16 d17 d18) {n:Int} (hn:0≤n∧n<m.th.length) {l:List cW} {C':List (List cW)} {d:l3} (hC:C'=cm [] b.C (nN n) l) (hd:d[yd]?=some (m.p,(m.f,(some b.y.s,(b.o,(b.G,(b.B,(b.R,C')))))))) :
  YR yd (m.dy n l) { b with C:=C' } d d12 d13 d14 d15 d16 d17 d18:=by
 refine ⟨hd,h.sc,⟨h.ob.rg,h.ob.ob⟩,h.ol,h.ow,h.sl,h.un,h.ga,h.us,fun j h0 h1=>?_,fun j h0 h1=>?_⟩
 ·have h2:j<m.th.length:=by have:(m.dy n l).th.length=m.th.length:=zM;rw [this] at h1;exact h1
  unfold M.dy
  rw [l_ hn h0]
  by_cases e:j=n
  ·subst e;rw [if_pos rfl];exact h.rg j h0 h2
  ·rw [if_neg e];exact h.rg j h0 h2
 ·have h2:j<m.th.length:=by have:(m.dy n l).th.length=m.th.length:=zM;rw [this] at h1;exact h1
  show C'.getD j.toNat _=_
  unfold M.dy
  rw [l_ hn h0,hC,kc]
  by_cases e:j=n
  ·subst e;rw [if_pos rfl,if_pos (cH j).symm]
  ·rw [if_neg e,if_neg (by rw [cH];omega)];exact h.cs j h0 h2
theorem YR.Ek (h:YR yd m b d11 d12 d13 d14 d15 d16 d17 d18) {sc:List eY} {fl:List Xt} {eh:iK} {rm:T4} {rk:gT} (hs:uJ b.y m.fr m.en sc fl d12 d13 eh rm rk) (ho:OR { m with sc:=sc,fl:=fl } b.O) :
  YR yd { m with sc:=sc,fl:=fl } b d11 d12 d13 eh rm rk d17 d18:=
 ⟨h.bx,hs,ho,h.ol,h.ow,h.sl,h.un,h.ga,h.us,h.rg,h.cs⟩
theorem Ik (h:YR yd m b d11 d12 d13 d14 d15 d16 d17 d18) (hi:MI k m) {n:Int} (hn:0≤n∧n<m.th.length) {r hh v a bb t:Int} :
  ∃b' gS eh,g.bE yd n (4,(r,(hh,(v,(a,(bb,t)))))) d12 d13 d15 d16 d17 d18 d11 d14=some ((((m.enter n a).2.1,((m.enter n a).2.2.1,(m.enter n a).2.2.2)),()),(gS,(eh,())))∧YR yd (m.enter n a).1 b' gS d12 d13 eh d15 d16 d17 d18:=by
 have hb:=h.nx
 have hC:=h.nC hn
 have zf:=hi.si.len
 have vT:=hi.ls
 have dP:=hi.lt
 have Dq:=hi.vI
 have zh:=(hi.aA hn).2.2.len
 have RS:aC (aj 4 6)=true:=rfl
 have hP:=xH (l:=(m.aA n).aF) (a,true) (by omega)
 unfold M.enter
 by_cases h1:1≤a∧a≤m.p.1-1
 ·rw [if_neg (by rw [bG.2 h1];simp)]
  have hA:=tm (l:=(m.aA n).aF) (by omega)
  obtain ⟨eh,hE,hE2⟩:=Iw h.sc (by omega) a (dE (m.aA n).aF)
  by_cases h2:(push (m.aA n).aF (a,true)).2=0
  ·rw [if_neg (by simpa using h2)]
   rw [h2] at hP
   have hY:YR yd { m with sc:=(cZ m.sc a (fun c=>b_ c (dE (m.aA n).aF))).1 } b d11 d12 d13 eh d15 d16 d17 d18:=
    h.Ek (fl:=m.fl) hE2 (h.ob.of rfl (fun _ _ _=>rfl) (fun s h0 _=>.inr (Fj hi.si (Kq _) h0)))
   by_cases h3:(cZ m.sc a (fun c=>b_ c (dE (m.aA n).aF))).2=0
   ·rw [if_neg (by simpa using h3)]
    rw [h3] at hE
    refine ⟨_,aw bJ d11 yd (fun gP=>(gP.1,(gP.2.1,(gP.2.2.1,(gP.2.2.2.1,(gP.2.2.2.2.1,(gP.2.2.2.2.2.1,(gP.2.2.2.2.2.2.1,(cm [] gP.2.2.2.2.2.2.2 (nN n) (push (m.aA n).aF (a,true)).1))))))))),eh,?_,hY.LU hn rfl (h.bu _)⟩
    unfold g.bE
    simp only [hb]
    rw [hC,RS]
    repeat refine HS ?_
    dsimp only
    repeat refine HS ?_
    rfl
   ·rw [if_pos h3]
    have hz:(cZ m.sc a (fun c=>b_ c (dE (m.aA n).aF))).1=m.sc:=by
     unfold cZ at h3 ⊢
     split
     ·rename_i c1
      rw [if_pos c1] at h3
      split
      ·rename_i c2;rw [if_pos c2] at h3;exact absurd rfl h3
      ·rfl
     ·rfl
    rw [hz] at hY
    refine ⟨b,d11,eh,?_,hY⟩
    unfold g.bE
    simp only [hb]
    rw [hC,RS]
    repeat refine HS ?_
    dsimp only
    repeat refine HS ?_
    rfl
  ·rw [if_pos h2]
   refine ⟨b,d11,d14,?_,h⟩
   unfold g.bE
   simp only [hb]
   rw [hC,RS]
   repeat refine HS ?_
   dsimp only
   repeat refine HS ?_
   rfl
 ·rw [if_pos (kh.2 h1)]
  refine ⟨b,d11,d14,?_,h⟩
  unfold g.bE
  simp only [hb]
  by_cases c1:a<0
  ·repeat refine HS ?_
   rfl
  by_cases c2:m.p.1≤a
  ·repeat refine HS ?_
   rfl
  have c3:a=0:=by omega
  repeat refine HS ?_
  rfl
theorem Ij (h:YR yd m b d11 d12 d13 d14 d15 d16 d17 d18) (hi:MI k m) {n:Int} (hn:0≤n∧n<m.th.length) {r hh v a bb t:Int} :
  ∃b' gS eh,g.bE yd n (6,(r,(hh,(v,(a,(bb,t)))))) d12 d13 d15 d16 d17 d18 d11 d14=some ((((m.oj n a).2.1,((m.oj n a).2.2.1,(m.oj n a).2.2.2)),()),(gS,(eh,())))∧YR yd (m.oj n a).1 b' gS d12 d13 eh d15 d16 d17 d18:=by
 have hb:=h.nx
 have hC:=h.nC hn
 have zf:=hi.si.len
 have vT:=hi.ls
 have dP:=hi.lt
 have Dq:=hi.vI
 have zh:=(hi.aA hn).2.2.len
 have RS:aC (aj 6 6)=false:=rfl
 have hP:=xH (l:=(m.aA n).aF) (a,false) (by omega)
 have hR:=mc (l:=(m.aA n).aF) a (by omega)
 unfold M.oj
 by_cases h1:0≤a∧a≤m.p.1-1
 ·rw [if_neg (by rw [bG.2 h1];simp)]
  cases h4:reach (m.aA n).aF a with
  | false=>
   rw [h4] at hR
   rw [if_pos rfl]
   refine ⟨b,d11,d14,?_,h⟩
   unfold g.bE
   simp only [hb]
   rw [hC,RS]
   repeat refine HS ?_
   rfl
  | true=>
   rw [h4] at hR
   rw [if_neg (by simp)]
   by_cases h2:(push (m.aA n).aF (a,false)).2=0
   ·rw [if_neg (by simpa using h2)]
    rw [h2] at hP
    refine ⟨_,aw bJ d11 yd (fun gP=>(gP.1,(gP.2.1,(gP.2.2.1,(gP.2.2.2.1,(gP.2.2.2.2.1,(gP.2.2.2.2.2.1,(gP.2.2.2.2.2.2.1,(cm [] gP.2.2.2.2.2.2.2 (nN n) (push (m.aA n).aF (a,false)).1))))))))),d14,?_,h.LU hn rfl (h.bu _)⟩
    unfold g.bE
    simp only [hb]
    rw [hC,RS]
    repeat refine HS ?_
    dsimp only
    repeat refine HS ?_
    rfl
   ·rw [if_pos h2]
    refine ⟨b,d11,d14,?_,h⟩
    unfold g.bE
    simp only [hb]
    rw [hC,RS]
    repeat refine HS ?_
    dsimp only
    repeat refine HS ?_
    rfl
 ·rw [if_pos (kh.2 h1)]
  refine ⟨b,d11,d14,?_,h⟩
  unfold g.bE
  simp only [hb]
  by_cases c1:a<0
  ·repeat refine HS ?_
   rfl
  have c2:m.p.1≤a:=by omega
  repeat refine HS ?_
  rfl
theorem LZ (h:YR yd m b d11 d12 d13 d14 d15 d16 d17 d18) (hi:MI k m) {n:Int} (hn:0≤n∧n<m.th.length) {r hh v a bb t:Int} (hv:0≤v∧v<4) (ha:1≤a∧a≤m.p.1-1) :
  ∃b' gS,g.ck yd n (11,(r,(hh,(v,(a,(bb,t)))))) d12 d13 d14 d15 d16 d17 d18 d11=some ((((m.gate n v a).2.1,((m.gate n v a).2.2.1,(m.gate n v a).2.2.2)),()),(gS,()))∧YR yd (m.gate n v a).1 b' gS d12 d13 d14 d15 d16 d17 d18:=by
 have hb:=h.nx
 have hC:=h.nC hn
 have zf:=hi.si.len
 have vT:=hi.ls
 have dP:=hi.lt
 have Dq:=hi.vI
 have zh:=(hi.aA hn).2.2.len
 have hR:=mc (l:=(m.aA n).aF) a (by omega)
 have Hv:=h.nR hn v
 unfold M.gate
 rw [if_neg (by rw [bG.2 ha];simp)]
 cases h4:reach (m.aA n).aF a with
 | false=>
  rw [h4] at hR
  rw [if_pos rfl]
  refine ⟨b,d11,?_,h⟩
  unfold g.ck
  simp only [hb]
  rw [hC]
  repeat refine HS ?_
  rfl
 | true=>
  rw [h4] at hR
  rw [if_neg (by simp)]
  obtain ⟨e,hV,xe⟩:=AM h hi hn (hi.cT hn v) a
  rw [xe]
  by_cases he:e=0
  ·rw [if_pos he]
   rw [he] at hV
   refine ⟨{ b with G:=cm 0 b.G (nN a) (m.cT n v) },aw bJ d11 yd (fun lP=>(lP.1,(lP.2.1,(lP.2.2.1,(lP.2.2.2.1,((cm 0 lP.2.2.2.2.1 (nN a) (nth 0 (nth [0,0,0,0] lP.2.2.2.2.2.2.1 (nN n)) (nN v))),lP.2.2.2.2.2)))))),?_,?_⟩
   ·unfold g.ck
    simp only [hb]
    rw [hC,Hv]
    repeat refine HS ?_
    rfl
   ·have e1:nth 0 (nth [0,0,0,0] b.R (nN n)) (nN v)=m.cT n v:=Hv
    refine ⟨?_,h.sc,?_,h.ol,h.ow,h.sl,h.un,fun s h0 h1=>?_,fun s h0 h1=>?_,h.rg,h.cs⟩
    ·rw [h.bu]
     show some (m.p,(m.f,(some b.y.s,(b.o,(cm 0 b.G (nN a) (nth 0 (nth [0,0,0,0] b.R (nN n)) (nN v)),(b.B,(b.R,b.C)))))))=_
     rw [e1]
     rfl
    ·refine h.ob.of rfl (fun s h0 h1=>?_) (fun s h0 h1=>.inr rfl)
     show ((m.dm a _).bA s).a5=_
     rw [Go.jG.kL hi (by omega) h0]
     split
     ·rename_i e2;rw [e2]
     ·rfl
    ·show (cm 0 b.G (nN a) (m.cT n v)).getD s.toNat 0=((m.dm a _).bA s).gate
     rw [kc,Go.jG.kL hi (by omega) h0]
     by_cases e2:s=a
     ·subst e2;rw [if_pos rfl,if_pos (cH s).symm]
     ·rw [if_neg (by rw [cH];omega),if_neg e2];exact h.ga s h0 h1
    ·show b.B.getD s.toNat 0=((m.dm a _).bA s).used
     rw [Go.jG.kL hi (by omega) h0]
     by_cases e2:s=a
     ·subst e2;rw [if_pos rfl];exact h.us s h0 h1
     ·rw [if_neg e2];exact h.us s h0 h1
  ·rw [if_neg he]
   refine ⟨b,d11,?_,h⟩
   unfold g.ck
   simp only [hb]
   rw [hC,Hv]
   repeat refine HS ?_
   rfl
theorem FX (h:YR yd m b d11 d12 d13 d14 d15 d16 d17 d18) (hi:MI k m) {n:Int} (hn:0≤n∧n<m.th.length) {r hh v a bb t:Int} (hr:0≤r∧r<4) (ha:1≤a∧a≤m.p.1-1) :
  ∃b' gS,g.ck yd n (10,(r,(hh,(v,(a,(bb,t)))))) d12 d13 d14 d15 d16 d17 d18 d11=some ((((m.fX n r a).2.1,((m.fX n r a).2.2.1,(m.fX n r a).2.2.2)),()),(gS,()))∧YR yd (m.fX n r a).1 b' gS d12 d13 d14 d15 d16 d17 d18:=by
 have hb:=h.nx
 have hC:=h.nC hn
 have zf:=hi.si.len
 have vT:=hi.ls
 have dP:=hi.lt
 have Dq:=hi.vI
 have zh:=(hi.aA hn).2.2.len
 have hR:=mc (l:=(m.aA n).aF) a (by omega)
 have hga:nth 0 b.G (nN a)=(m.bA a).gate:=h.ga a (by omega) (by omega)
 unfold M.fX
 rw [if_neg (by rw [bG.2 ha];simp)]
 cases h4:reach (m.aA n).aF a with
 | false=>
  rw [h4] at hR
  rw [if_pos rfl]
  refine ⟨b,d11,?_,h⟩
  unfold g.ck
  simp only [hb]
  rw [hC]
  repeat refine HS ?_
  rfl
 | true=>
  rw [h4] at hR
  rw [if_neg (by simp)]
  unfold M.Qm
  refine ⟨_,aw bJ d11 yd (fun km=>(km.1,(km.2.1,(km.2.2.1,(km.2.2.2.1,(km.2.2.2.2.1,(km.2.2.2.2.2.1,((cm [0,0,0,0] km.2.2.2.2.2.2.1 (nN n) (cm 0 (nth [0,0,0,0] km.2.2.2.2.2.2.1 (nN n)) (nN r) (nth 0 km.2.2.2.2.1 (nN a)))),km.2.2.2.2.2.2.2)))))))),?_,h.H4 (hi.aA hn).1 hn hr (m.bA a).gate (R':=cm [0,0,0,0] b.R (nN n) (cm 0 (nth [0,0,0,0] b.R (nN n)) (nN r) (m.bA a).gate)) rfl ?_⟩
  ·unfold g.ck
   simp only [hb,h.nu]
   rw [hC]
   repeat refine HS ?_
   show some (((0,(kQ .i64 (nth 0 b.G (nN a)),[])),()),_)=_
   rw [hga]
  ·rw [h.bu]
   show some (m.p,(m.f,(some b.y.s,(b.o,(b.G,(b.B,(cm [0,0,0,0] b.R (nN n) (cm 0 (nth [0,0,0,0] b.R (nN n)) (nN r) (nth 0 b.G (nN a))),b.C)))))))=_
   rw [hga]
end
open Go.Bm Go.jG
section
variable {yd:Nat} {m:M} {b:YB} {d11:l3} {d12:lG} {d13:kt} {d14:iK} {d15:T4} {d16:gT} {d17:lF} {d18:dQ} {k:Nat}
theorem YR.setObj (h:YR yd m b d11 d12 d13 d14 d15 d16 d17 d18) (hi:MI k m) {i:Nat} {q:RO} (hq:b.O[i]?=some q) (w:List Int) {g:ku→ku} (hg:g (q.ua (kS m q.gp))=({ q with bg:=w }:RO).ua (kS m q.gp)) :
  YR yd (m.setObj (q.gp,kS m q.gp,q.pl) g) { b with O:=b.O.set i { q with bg:=w } } d11 d12 d13 d14 d15 d16 d17 (aT d18 q.nm (some w)):=by
 have RD:=h.sl q (zG hq)
 have m4:(b.O.set i { q with bg:=w }).map ro=b.O.map ro:=by
  rw [List.map_set]
  exact j8 (by rw [zL,hq];rfl)
 have BG:∀s:Int,((m.setObj (q.gp,kS m q.gp,q.pl) g).bA s).gate=(m.bA s).gate∧((m.setObj (q.gp,kS m q.gp,q.pl) g).bA s).used=(m.bA s).used:=fun s=>by
  unfold M.setObj M.bA
  simp only
  rw [zA,zA,zL]
  cases m.ar[s.toNat]? with
  | none=>exact ⟨rfl,rfl⟩
  | some a=>exact ⟨rfl,rfl⟩
 have hnd:∀(j:Nat) (p:RO),b.O[j]?=some p→j≠i→p.nm≠q.nm:=fun j p hj jI e=>by
  obtain ⟨j1,j2⟩:=zB.1 hj
  obtain ⟨i1,i2⟩:=zB.1 hq
  have hu:=List.pairwise_iff_getElem.1 h.un
  rcases Nat.lt_or_gt_of_ne jI with h1 | h1
  ·exact hu j i j1 i1 h1 (by rw [j2,i2];exact e)
  ·exact hu i j i1 j1 h1 (by rw [j2,i2];exact e.symm)
 refine ⟨h.bx,h.sc,h.ob.setObj hi hq (o':={ q with bg:=w }) rfl rfl hg,by rw [zM];exact h.ol,?_,?_,?_,fun s h0 h1=>?_,fun s h0 h1=>?_,h.rg,h.cs⟩
 ·rcases h.ow with ⟨w1,w2⟩ | ⟨j,w1,w2⟩
  ·exact .inl ⟨w1,by show b.O.set i _=[];rw [w2];rfl⟩
  ·exact .inr ⟨j,w1,by rw [w2];show _=some ((b.O.set i _).map ro);rw [m4]⟩
 ·intro p hp
  obtain ⟨j,hj⟩:=List.getElem?_of_mem hp
  have hj:(b.O.set i { q with bg:=w })[j]?=some p:=hj
  rcases getSet hj with ⟨e1,e2⟩ | ⟨e1,e2⟩
  ·rw [e2];exact aB RD
  ·rw [uO (jY RD),if_neg (fun e=>hnd j p e2 e1 e.symm)]
   exact h.sl p (zG e2)
 ·have:((b.O.set i { q with bg:=w }).map RO.nm).Pairwise (·≠·):=by
   have e:(b.O.set i { q with bg:=w }).map RO.nm=b.O.map RO.nm:=by
    rw [List.map_set]
    exact j8 (by rw [zL,hq];rfl)
   rw [e,List.pairwise_map];exact h.un
  rw [List.pairwise_map] at this
  exact this
 ·rw [(BG s).1];exact h.ga s h0 h1
 ·rw [(BG s).2];exact h.us s h0 h1
theorem K7 {q:RO} {i:Nat} {O:List RO} (hq:O[i]?=some q):nth (0,(0,(0,(none,false)))) (O.map ro) (nN (i:Int))=ro q:=bj (by rw [cK,zL,hq];rfl)
theorem LY (h:YR yd m b d11 d12 d13 d14 d15 d16 d17 d18) (hi:MI k m) {n:Int} (hn:0≤n∧n<m.th.length) {r hh v a bb t:Int} (hr:0≤r∧r<4) (Y7:0≤hh∧hh<4) :
  ∃b' gS mG,g.bO yd n (8,(r,(hh,(v,(a,(bb,t)))))) d12 d13 d14 d15 d16 d17 d11 d18=some ((((m.load n r hh bb).2.1,((m.load n r hh bb).2.2.1,(m.load n r hh bb).2.2.2)),()),(gS,(mG,())))∧YR yd (m.load n r hh bb).1 b' gS d12 d13 d14 d15 d16 d17 mG:=by
 have hb:=h.nx
 have Hv:=h.nR hn hh
 have dP:=hi.lt
 have Dq:=hi.vI
 unfold M.load
 cases hc:(m.check (m.aA n).aF (m.cT n hh)).1 with
 | none=>
  have hk:=oY h hi hn (hi.cT hn hh) hc
  have he:=wz hc
  rw [if_pos he]
  refine ⟨b,d11,d18,?_,h⟩
  unfold g.bO
  simp only [hb]
  rw [Hv]
  repeat refine HS ?_
  rfl
 | some o=>
  obtain ⟨i,q,q1,q2,q3,hk⟩:=oX h hi hn (hi.cT hn hh) hc
  rw [if_neg (by rw [(M.gO hc).1];simp)]
  simp only
  have BB:o.bg=q.bg:=by rw [q2];rfl
  rw [BB]
  have RD:=h.sl q (zG q1)
  obtain ⟨j,w1,w2⟩:∃j,b.o=some j∧aE d17 j=some (b.O.map ro):=by
   rcases h.ow with ⟨_,w2⟩ | w
   ·rw [w2] at q1;simp at q1
   ·exact w
  have qX:=K7 q1
  have Y6:i<b.O.length:=(zB.1 q1).1
  have xh:(b.O.map ro).length=b.O.length:=zH ..
  have JO:(nth (0,(0,(0,(none,false)))) (b.O.map ro) (nN (i:Int))).2.2.2.1=some q.nm:=by rw [qX];rfl
  have Hu:q.bg.length≤6:=by
   have hf:=(MI.found hi hc)
   have:=(hi.wO q3).2.ob o (by rw [←h.ob.ob _ q3.1 q3.2];exact List.mem_map.2 ⟨q,List.mem_filter.2 ⟨zG q1,fh.2 rfl⟩,q2.symm⟩)
   rw [←BB];exact this.2.2.2.2.2.2.1
  by_cases c1:0≤bb∧bb≤(q.bg.length:Int)-1
  ·rw [if_neg (by rw [bG.2 c1];simp)]
   have hv:nth 0 q.bg (nN bb)=q.bg.getD bb.toNat 0:=rfl
   unfold M.Qm
   refine ⟨_,aw bJ d11 yd (fun qn=>(qn.1,(qn.2.1,(qn.2.2.1,(qn.2.2.2.1,(qn.2.2.2.2.1,(qn.2.2.2.2.2.1,((cm [0,0,0,0] qn.2.2.2.2.2.2.1 (nN n) (cm 0 (nth [0,0,0,0] qn.2.2.2.2.2.2.1 (nN n)) (nN r) (nth 0 q.bg (nN bb)))),qn.2.2.2.2.2.2.2)))))))),d18,?_,h.H4 (hi.aA hn).1 hn hr (q.bg.getD bb.toNat 0) (R':=cm [0,0,0,0] b.R (nN n) (cm 0 (nth [0,0,0,0] b.R (nN n)) (nN r) (q.bg.getD bb.toNat 0))) rfl ?_⟩
   ·have hRR:nth [0,0,0,0] (cm [0,0,0,0] b.R (nN n) (cm 0 (nth [0,0,0,0] b.R (nN n)) (nN r) (nth 0 q.bg (nN bb)))) (nN n)=cm 0 (nth [0,0,0,0] b.R (nN n)) (nN r) (nth 0 q.bg (nN bb)):=by
     show (cm _ _ _ _).getD _ _=_
     rw [kc,if_pos rfl]
    have M9:nth 0 (cm 0 (nth [0,0,0,0] b.R (nN n)) (nN r) (nth 0 q.bg (nN bb))) (nN r)=q.bg.getD bb.toNat 0:=by
     show (cm _ _ _ _).getD _ _=_
     rw [kc,if_pos rfl];rfl
    unfold g.bO
    simp only [hb,h.nu,GC,w1]
    rw [Hv]
    repeat refine HS ?_
    rw [hRR,M9]
   ·rw [h.bu]
    rfl
  ·rw [if_pos (kh.2 c1)]
   refine ⟨b,d11,d18,?_,h⟩
   unfold g.bO
   simp only [hb,w1]
   rw [Hv]
   by_cases c2:bb<0
   ·repeat refine HS ?_
    rfl
   ·have c3:(q.bg.length:Int)≤bb:=by omega
    repeat refine HS ?_
    rfl
theorem Ie (h:YR yd m b d11 d12 d13 d14 d15 d16 d17 d18) (hi:MI k m) {n:Int} (hn:0≤n∧n<m.th.length) {r hh v a bb t:Int} (TD:0≤v∧v<4) (Y7:0≤hh∧hh<4) :
  ∃b' gS mG,g.bO yd n (9,(r,(hh,(v,(a,(bb,t)))))) d12 d13 d14 d15 d16 d17 d11 d18=some ((((m.store n hh v bb).2.1,((m.store n hh v bb).2.2.1,(m.store n hh v bb).2.2.2)),()),(gS,(mG,())))∧YR yd (m.store n hh v bb).1 b' gS d12 d13 d14 d15 d16 d17 mG:=by
 have hb:=h.nx
 have Hv:=h.nR hn hh
 have hrv:=h.nR hn v
 have dP:=hi.lt
 have Dq:=hi.vI
 unfold M.store
 cases hc:(m.check (m.aA n).aF (m.cT n hh)).1 with
 | none=>
  have hk:=oY h hi hn (hi.cT hn hh) hc
  have he:=wz hc
  rw [if_pos he]
  refine ⟨b,d11,d18,?_,h⟩
  unfold g.bO
  simp only [hb]
  rw [Hv]
  repeat refine HS ?_
  rfl
 | some o=>
  obtain ⟨i,q,q1,q2,q3,hk⟩:=oX h hi hn (hi.cT hn hh) hc
  rw [if_neg (by rw [(M.gO hc).1];simp)]
  simp only
  have BB:o.bg=q.bg:=by rw [q2];rfl
  have hor:o.ref=(q.gp,kS m q.gp,q.pl):=by rw [q2];rfl
  rw [BB]
  have RD:=h.sl q (zG q1)
  obtain ⟨j,w1,w2⟩:∃j,b.o=some j∧aE d17 j=some (b.O.map ro):=by
   rcases h.ow with ⟨_,w2⟩ | w
   ·rw [w2] at q1;simp at q1
   ·exact w
  have qX:=K7 q1
  have Y6:i<b.O.length:=(zB.1 q1).1
  have xh:(b.O.map ro).length=b.O.length:=zH ..
  have JO:(nth (0,(0,(0,(none,false)))) (b.O.map ro) (nN (i:Int))).2.2.2.1=some q.nm:=by rw [qX];rfl
  have Hu:q.bg.length≤6:=by
   have:=(hi.wO q3).2.ob o (by rw [←h.ob.ob _ q3.1 q3.2];exact List.mem_map.2 ⟨q,List.mem_filter.2 ⟨zG q1,fh.2 rfl⟩,q2.symm⟩)
   rw [←BB];exact this.2.2.2.2.2.2.1
  by_cases c1:0≤bb∧bb≤(q.bg.length:Int)-1
  ·rw [if_neg (by rw [bG.2 c1];simp)]
   obtain ⟨e,hV,xe⟩:=AM h hi hn (hi.cT hn v) q.gp
   rw [hor,xe]
   by_cases he:e=0
   ·rw [if_pos he]
    rw [he] at hV
    have hY:=h.setObj hi q1 (q.bg.set bb.toNat (m.cT n v)) (g:=fun o=>{ o with bg:=o.bg.set bb.toNat (m.cT n v) }) rfl
    refine ⟨_,d11,aT d18 q.nm (some (q.bg.set bb.toNat (m.cT n v))),?_,hY⟩
    unfold g.bO
    simp only [hb,w1]
    rw [Hv,hrv]
    repeat refine HS ?_
    rfl
   ·rw [if_neg he]
    refine ⟨b,d11,d18,?_,h⟩
    unfold g.bO
    simp only [hb,w1]
    rw [Hv,hrv]
    repeat refine HS ?_
    rfl
  ·rw [if_pos (kh.2 c1)]
   refine ⟨b,d11,d18,?_,h⟩
   unfold g.bO
   simp only [hb,w1]
   rw [Hv]
   by_cases c2:bb<0
   ·repeat refine HS ?_
    rfl
   ·have c3:(q.bg.length:Int)≤bb:=by omega
    repeat refine HS ?_
    rfl
theorem YR.Ya (h:YR yd m b d11 d12 d13 d14 d15 d16 d17 d18) (hi:MI k m) {s:Int} (hs:0≤s∧s<m.p.1) {a:mz} {q:RO} (hq:q.gp=s) (JO:q.nm=d18.length) (ha:a.a5=(m.bA s).a5++[q.ua (kS m s)]) (hg:a.gate=(m.bA s).gate) (hl:b.O.length<9000)
  {d:l3} {o':Option Nat} {j:Nat} {ov:lF} {B':List Int} (ho:o'=some j) (hj:aE ov j=some (b.O.map ro++[ro q])) (hB:B'=cm 0 b.B (nN s) a.used) (hd:d[yd]?=some (m.p,(m.f,(some b.y.s,(o',(b.G,(B',(b.R,b.C)))))))) :
  YR yd (m.dm s a) { b with o:=o',O:=b.O++[q],B:=B' } d d12 d13 d14 d15 d16 ov (cat d18 [some q.bg]):=by
 refine ⟨hd,h.sc,h.ob.alloc hi hs hq ha,by simp;omega,.inr ⟨j,ho,by rw [hj,List.map_append];rfl⟩,fun p hp=>?_,?_,fun t h0 h1=>?_,fun t h0 h1=>?_,h.rg,h.cs⟩
 ·rcases zX.1 hp with hp | hp
  ·have:=h.sl p hp
   rw [mJ,if_neg (by have:=jY this;omega)];exact this
  ·rcases zF.1 hp with rfl
   rw [JO];exact dn
 ·show (b.O++[q]).Pairwise _
  rw [List.pairwise_append]
  refine ⟨h.un,List.pairwise_singleton _ _,fun p hp p' GM=>?_⟩
  rcases zF.1 GM with rfl
  have:=jY (h.sl p hp)
  omega
 ·rw [Go.jG.kL hi hs h0]
  by_cases e:t=s
  ·subst e;rw [if_pos rfl,hg];exact h.ga t h0 h1
  ·rw [if_neg e];exact h.ga t h0 h1
 ·show B'.getD t.toNat 0=_
  rw [hB,kc,Go.jG.kL hi hs h0]
  by_cases e:t=s
  ·subst e;rw [if_pos rfl,if_pos (cH t).symm]
  ·rw [if_neg e,if_neg (by rw [cH];omega)];exact h.us t h0 h1
theorem Iu (h:YR yd m b d11 d12 d13 d14 d15 d16 d17 d18) (hi:MI k m) (DA:CT m) (Cw:b.O.length<9000) {n:Int} (hn:0≤n∧n<m.th.length) {r hh v a bb t:Int} (hr:0≤r∧r<4) :
  ∃b' gS ov mG,g.cb yd n (7,(r,(hh,(v,(a,(bb,t)))))) d12 d13 d14 d15 d16 d11 d17 d18=some ((((m.alloc n r a bb t).2.1,((m.alloc n r a bb t).2.2.1,(m.alloc n r a bb t).2.2.2)),()),(gS,(ov,(mG,()))))∧YR yd (m.alloc n r a bb t).1 b' gS d12 d13 d14 d15 d16 ov mG:=by
 have hb:=h.nx
 have tF:=h.FU
 have hC:=h.nC hn
 have zj:=h.sc.cr
 have hxr:=h.sc.xr
 have zf:=hi.si.len
 have vT:=hi.ls
 have dP:=hi.lt
 have Dq:=hi.vI
 have ht:=hi.aA hn
 have zh:=ht.2.2.len
 have hm1:(m.sc.map (·.1)).length=m.sc.length:=zH ..
 have Cy:(m.sc.map (·.2)).length=m.sc.length:=zH ..
 have hW:=wW (a:=a) (b:=bb)
 have hA:=tm (l:=(m.aA n).aF) (by omega)
 unfold M.alloc
 by_cases c0:(bn a bb).2=0
 rotate_left
 ·rw [if_pos (.inl c0)]
  refine ⟨b,d11,d17,d18,?_,h⟩
  unfold g.cb
  repeat refine HS ?_
  rfl
 by_cases c1:t<0
 ·rw [if_pos (.inr (kh.2 (by omega)))]
  refine ⟨b,d11,d17,d18,?_,h⟩
  unfold g.cb
  repeat refine HS ?_
  rfl
 by_cases c2:8≤t
 ·rw [if_pos (.inr (kh.2 (by omega)))]
  refine ⟨b,d11,d17,d18,?_,h⟩
  unfold g.cb
  repeat refine HS ?_
  rfl
 rw [if_neg (by rw [kh];omega)]
 have hw:=oh c0
 have kP:=hi.live DA (M.rH hn) (Aa ht.2.2)
 have qX:0≤dE (m.aA n).aF∧dE (m.aA n).aF<m.p.1:=⟨kP.2.2.1,kP.2.2.2⟩
 have hex:oU m.sc (dE (m.aA n).aF)=((ah m.sc (dE (m.aA n).aF)).2,0):=by
  unfold oU;rw [if_pos (cg.2 ⟨qX.1,by rw [hi.ls];exact qX.2⟩)]
 have sB:j9 m.sc (dE (m.aA n).aF)=((ah m.sc (dE (m.aA n).aF)).1,0):=by
  unfold j9;rw [if_pos (cg.2 ⟨qX.1,by rw [hi.ls];exact qX.2⟩)]
 have TQ:=(hi.wO qX).2
 have y_:=TQ.us
 have qq:=hi.size kP.1 (by omega)
 have ank:=gM (hi.si.cr _ _ kP.1) kP.2.1
 have Y0:nth 0 b.B (nN (dE (m.aA n).aF))=(m.bA (dE (m.aA n).aF)).used:=h.us _ qX.1 qX.2
 have hnX:=EH (l:=m.sc) (i:=dE (m.aA n).aF) (by omega)
 have hnE:(nth (0,(0,(0,0))) (m.sc.map (·.1)) (nN (dE (m.aA n).aF))).2.2.2=(ah m.sc (dE (m.aA n).aF)).1.2.2.2:=by rw [mM (by omega)]
 unfold M.tx
 rw [hex,sB]
 simp only
 generalize hs:dE (m.aA n).aF=s at *
 generalize hX:ah m.sc s=X at *
 have e8:fI .i64 8 (bn a bb).1=(bn a bb).1*8:=by rw [aZ (by omega),Int.mul_comm]
 have eB:ae .i64 (m.bA s).used ((bn a bb).1*8)=(m.bA s).used+(bn a bb).1*8:=aH (by omega)
 by_cases c3:X.2.2<(m.bA s).used+(bn a bb).1*8
 ·rw [if_pos c3]
  have c3':(nth (0,0) (m.sc.map (·.2)) (nN s)).2<(m.bA s).used+(bn a bb).1*8:=by rw [hnX];exact c3
  refine ⟨b,d11,d17,d18,?_,h⟩
  unfold g.cb
  simp only [hb]
  rw [hC]
  repeat refine HS ?_
  dsimp only
  rw [Y0,e8,eB]
  simp only [tF]
  repeat refine HS ?_
  rfl
 rw [if_neg c3]
 have c3':¬(nth (0,0) (m.sc.map (·.2)) (nN s)).2<(m.bA s).used+(bn a bb).1*8:=by rw [hnX];exact c3
 have eA:ae .i64 X.2.1 (m.bA s).used=X.2.1+(m.bA s).used:=aH (by omega)
 have hnr:fj (s,X.1.2.2.2,X.2.1+(m.bA s).used)=true:=by
  rw [cS];simp only;omega
 have hPk:=rQ (r:=(s,X.1.2.2.2,X.2.1+(m.bA s).used)) (by simp only;omega)
 have hq0:kS m s=X.1.2.2.2:=by unfold kS;rw [hX]
 have hY:∀(j:Nat) (o':Option Nat) (d:l3) (ov:lF),o'=some j→aE ov j=some (b.O.map ro++[ro ⟨s,X.2.1+(m.bA s).used,t,d18.length,List.replicate a.toNat 0,false⟩]) →
   d[yd]?=some (m.p,(m.f,(some b.y.s,(o',(b.G,(cm 0 b.B (nN s) ((m.bA s).used+(bn a bb).1*8),(b.R,b.C))))))) →
   YR yd (m.dm s ⟨(m.bA s).used+(bn a bb).1*8,(m.bA s).gate,(m.bA s).a5++[⟨(s,X.1.2.2.2,X.2.1+(m.bA s).used),t,List.replicate a.toNat 0,false⟩]⟩)
    { b with o:=o',O:=b.O++[⟨s,X.2.1+(m.bA s).used,t,d18.length,List.replicate a.toNat 0,false⟩],B:=cm 0 b.B (nN s) ((m.bA s).used+(bn a bb).1*8) } d d12 d13 d14 d15 d16 ov (cat d18 [some (List.replicate a.toNat 0)]):=fun j o' d ov h1 h2 h3=>
  h.Ya hi qX (a:=(⟨(m.bA s).used+(bn a bb).1*8,(m.bA s).gate,(m.bA s).a5++[⟨(s,X.1.2.2.2,X.2.1+(m.bA s).used),t,List.replicate a.toNat 0,false⟩]⟩:mz)) (q:=(⟨s,X.2.1+(m.bA s).used,t,d18.length,List.replicate a.toNat 0,false⟩:RO)) rfl rfl (by rw [hq0];rfl) rfl Cw h1 h2 rfl h3
 have TG:a.toNat≤6:=by omega
 unfold M.Qm
 rcases h.ow with ⟨w1,w2⟩ | ⟨j,w1,w2⟩
 ·refine ⟨?b1,?d1,?e171,?e181,?eq1,?rel1⟩
  case eq1=>
   unfold g.cb
   simp only [hb,l4,h.nu,GC,w1]
   rw [hC]
   repeat refine HS ?_
   dsimp only
   rw [Y0,e8,eB]
   simp only [tF]
   repeat refine HS ?_
   simp only [tF]
   repeat refine HS ?_
   try simp only [tF]
   repeat refine HS ?_
   rw [hnX,hnE,eA]
   repeat refine HS ?_
   rfl
  case rel1=>
   have hy:=hY d17.length (some (len d17)) (aw bJ d11 yd (fun r=>(r.1,(r.2.1,(r.2.2.1,(some (len d17),(r.2.2.2.2.1,((cm 0 r.2.2.2.2.2.1 (nN s) ((m.bA s).used+(bn a bb).1*8)),r.2.2.2.2.2.2)))))))) (cat d17 [some [(s,(X.2.1+(m.bA s).used,(t,(some d18.length,false))))]]) rfl (by rw [w2];exact dn) (by rw [h.bu];rfl)
   refine hy.H4 ht.1 hn hr _ rfl ?_
   rw [h.bu]
   show some (m.p,(m.f,(some b.y.s,(_,(b.G,(cm 0 b.B (nN s) (ae .i64 (nth 0 b.B (nN s)) ((bn a bb).1*8)),(_,b.C)))))))=_
   rw [Y0,eB]
   rfl
 ·have Y6:=h.ol
  have xh:(b.O.map ro).length=b.O.length:=zH ..
  have hjl:=jY w2
  refine ⟨?b2,?d2,?e172,?e182,?eq2,?rel2⟩
  case eq2=>
   unfold g.cb
   simp only [hb,l4,h.nu,GC,w1]
   rw [hC]
   repeat refine HS ?_
   dsimp only
   rw [Y0,e8,eB]
   simp only [tF]
   repeat refine HS ?_
   simp only [tF]
   repeat refine HS ?_
   try simp only [tF]
   repeat refine HS ?_
   rw [hnX,hnE,eA]
   repeat refine HS ?_
   rfl
  case rel2=>
   have hy:=hY (aT d17 j none).length (some (len (aT d17 j none))) (aw bJ d11 yd (fun r=>(r.1,(r.2.1,(r.2.2.1,(some (len (aT d17 j none)),(r.2.2.2.2.1,((cm 0 r.2.2.2.2.2.1 (nN s) ((m.bA s).used+(bn a bb).1*8)),r.2.2.2.2.2.2)))))))) (cat (aT d17 j none) [some (cat (b.O.map ro) [(s,(X.2.1+(m.bA s).used,(t,(some d18.length,false))))])]) rfl dn (by rw [h.bu];rfl)
   refine hy.H4 ht.1 hn hr _ rfl ?_
   rw [h.bu]
   show some (m.p,(m.f,(some b.y.s,(_,(b.G,(cm 0 b.B (nN s) (ae .i64 (nth 0 b.B (nN s)) ((bn a bb).1*8)),(_,b.C)))))))=_
   rw [Y0,eB]
   rfl
end
open Go.Bm Go.jG
abbrev RuS:Type:=((Bool×(Int×(Int×Unit)))×(((List Int)×((List Int)×Unit))×(Unit×(Unit×Unit))))
def Yc (hd:Bool) (a n:Int) (sl sd:List Int):RuS:=((hd,(a,(n,()))),((sl,(sd,())),((),((),()))))
theorem C2 {ops:List iw} (kR:xL ops) (d0:dQ):∀(m a:Nat) (sl sd:List Int) (hd:Bool) (n:Int),ops.length≤a+m→sl.length≤100→sd.length+m≤100→(0≤n∧n+m≤1000)→(a≤100) →
  yk (g.eJ ops d0) (Yc hd (a:Int) n sl sd)
   (some (((some (len d0)),((ko ops m a sl sd hd n).2.1,((ko ops m a sl sd hd n).2.2.1,((ko ops m a sl sd hd n).2.2.2,())))),((cat d0 [(some (ko ops m a sl sd hd n).1)]),()))) m:=by
 obtain ⟨hlen,sX⟩:=kR
 intro m
 induction m with
 | zero=>
  intro a sl sd hd n h1 h2 h3 h4 h5
  refine .stop 0 (fun K=>?_)
  unfold g.eJ Yc
  dsimp only
  repeat refine HS ?_
  rfl
 | succ m ih=>
  intro a sl sd hd n h1 h2 h3 h4 h5
  by_cases ha:a<ops.length
  ·have ho:Bi (ops.getD a (0,0,0)):=by
    rw [zA,zD ha]
    exact sX _ (List.getElem_mem ha)
   rw [re ha]
   generalize hoo:ops.getD a (0,0,0)=o at ho
   have xX:nth (0,(0,0)) ops (nN (a:Int))=o:=hoo
   have MU:=pB o sl
   have hs2:=ou o sl
   refine .step (s':=Yc (hd || (cu o sl).2.2.2) (((a+1+(cu o sl).1:Nat):Int)) (n+1) (cu o sl).2.1 (sd++(cu o sl).2.2.1)) ?_ (fun K=>?_)
   ·have hs3:=sK ho sl
    exact ih _ _ _ _ _ (by omega) (by omega) (by rw [zY];omega) (by omega) (by omega)
   ·obtain ⟨k1,k2,k3⟩:=ho
    have TM:o.1=0∨o.1=1∨o.1=2∨o.1=3∨o.1=4:=by omega
    have en:ae .i64 n 1=n+1:=aH (by omega)
    have ecs:cat [] sl=sl:=rfl
    have hd1:∀b:Bool,(hd || b)=if hd=true then true else b:=fun b=>by cases hd<;>rfl
    unfold g.eJ
    unfold Yc
    dsimp only
    rw [xX,uE (by omega),en]
    rcases TM with h | h | h | h | h
    ·have e:cu o sl=(0,sl,[o.2.1],false):=by unfold cu;rw [if_pos h]
     rw [e]
     by_cases hA:o.2.1<sl.length<;>by_cases hB:o.2.2<sl.length
     all_goals
      cases hd
      ·repeat refine HS ?_
       rfl
      ·repeat refine HS ?_
       rfl
    ·have e:cu o sl=(0,sl.set o.2.1.toNat 0,[],false):=by unfold cu;rw [if_neg (by omega),if_pos h]
     rw [e]
     have h4:aj o.1 4=false:=decide_eq_false (by omega)
     by_cases hA:o.2.1<sl.length
     ·by_cases hB:o.2.2<sl.length
      all_goals
       cases hd
       ·repeat refine HS ?_
        first | rfl | (dsimp only;rw [h4];rfl)
       ·repeat refine HS ?_
        first | rfl | (dsimp only;rw [h4];rfl)
     ·rw [List.set_eq_of_length_le (by omega)]
      by_cases hB:o.2.2<sl.length
      all_goals
       cases hd
       ·repeat refine HS ?_
        first | rfl | (dsimp only;rw [h4];rfl)
       ·repeat refine HS ?_
        first | rfl | (dsimp only;rw [h4];rfl)
    ·have e:cu o sl=(0,if o.2.1.toNat<sl.length∧o.2.2.toNat<sl.length then sl.set o.2.1.toNat (sl.getD o.2.2.toNat 0) else sl,[],false):=by unfold cu;rw [if_neg (by omega),if_neg (by omega),if_pos h]
     rw [e]
     have h4:aj o.1 4=false:=decide_eq_false (by omega)
     by_cases hA:o.2.1<sl.length
     ·by_cases hB:o.2.2<sl.length
      ·rw [if_pos (by omega)]
       have hB1:(bw o.2.2 (zN (len (cat [] sl))))=true:=decide_eq_true hB
       cases hd
       ·repeat refine HS ?_
        first | rfl | (dsimp only;rw [h4];rfl)
       ·repeat refine HS ?_
        first | rfl | (dsimp only;rw [h4];rfl)
      ·rw [if_neg (by omega)]
       have hB1:(bw o.2.2 (zN (len (cat [] sl))))=false:=decide_eq_false hB
       cases hd
       ·repeat refine HS ?_
        first | rfl | (dsimp only;rw [h4];rfl)
       ·repeat refine HS ?_
        first | rfl | (dsimp only;rw [h4];rfl)
     ·rw [if_neg (by omega)]
      by_cases hB:o.2.2<sl.length
      all_goals
       cases hd
       ·repeat refine HS ?_
        first | rfl | (dsimp only;rw [h4];rfl)
       ·repeat refine HS ?_
        first | rfl | (dsimp only;rw [h4];rfl)
    ·have e:cu o sl=(if o.2.1.toNat<sl.length∧sl.getD o.2.1.toNat 0=0 then o.2.2.toNat else 0,sl,[],false):=by unfold cu;rw [if_neg (by omega),if_neg (by omega),if_neg (by omega),if_pos h]
     rw [e]
     have h4:aj o.1 4=false:=decide_eq_false (by omega)
     have hg:nth 0 (cat [] sl) (nN o.2.1)=sl.getD o.2.1.toNat 0:=rfl
     by_cases hA:o.2.1<sl.length
     ·by_cases h0:sl.getD o.2.1.toNat 0=0
      ·rw [if_pos ⟨by omega,h0⟩]
       have h0':nth 0 (cat [] sl) (nN o.2.1)=0:=h0
       have ek:ae .i64 ((a+1:Nat):Int) o.2.2=((a+1+o.2.2.toNat:Nat):Int):=by rw [aH (by omega)];omega
       by_cases hB:o.2.2<sl.length
       all_goals
        rw [ek]
        cases hd
        ·repeat refine HS ?_
         first | rfl | (dsimp only;rw [h4];rfl)
        ·repeat refine HS ?_
         first | rfl | (dsimp only;rw [h4];rfl)
      ·rw [if_neg (fun hh=>h0 hh.2)]
       have h0':¬nth 0 (cat [] sl) (nN o.2.1)=0:=h0
       by_cases hB:o.2.2<sl.length
       all_goals
        cases hd
        ·repeat refine HS ?_
         first | rfl | (dsimp only;rw [h4];rfl)
        ·repeat refine HS ?_
         first | rfl | (dsimp only;rw [h4];rfl)
     ·rw [if_neg (by omega)]
      by_cases hB:o.2.2<sl.length
      all_goals
       cases hd
       ·repeat refine HS ?_
        first | rfl | (dsimp only;rw [h4];rfl)
       ·repeat refine HS ?_
        first | rfl | (dsimp only;rw [h4];rfl)
    ·have e:cu o sl=(0,sl,[],decide (o.1=4)):=by unfold cu;rw [if_neg (by omega),if_neg (by omega),if_neg (by omega),if_neg (by omega)]
     rw [e]
     by_cases hA:o.2.1<sl.length<;>by_cases hB:o.2.2<sl.length
     all_goals
      cases hd
      ·repeat refine HS ?_
       rfl
      ·repeat refine HS ?_
       rfl
  ·rw [tP ha]
   refine .stop _ (fun K=>?_)
   unfold g.eJ Yc
   dsimp only
   repeat refine HS ?_
   rfl
theorem AY {ops:List iw} (kR:xL ops) {d0:dQ} {j:Nat} {sl:List Int} (hj:aE d0 j=some sl) (hl:sl.length≤100) :
  g.hZ ops (some j) d0=some (((some d0.length),((fJ ops sl).2.1,((fJ ops sl).2.2.1,((fJ ops sl).2.2.2,())))),((cat d0 [some (fJ ops sl).1]),())):=by
 have h8:=kR.1
 unfold g.hZ
 repeat refine HS ?_
 exact (C2 kR d0 ops.length 0 sl [] false 0 (by omega) hl (by simp;omega) (by omega) (by omega)).loop (by unfold lD;omega)
theorem C3 {l:List (List iw)} (t:Int) (hl:l.length≤1000):g.iN l t=some ((dW l t,()),()):=by
 unfold g.iN dW
 by_cases h1:t<0
 ·rw [if_neg (by omega)]
  repeat refine HS ?_
  rfl
 rw [if_pos (by omega)]
 by_cases h2:(l.length:Int)≤t
 ·rw [zA,zb (by omega)]
  repeat refine HS ?_
  rfl
 ·repeat refine HS ?_
  rfl
open Go.Bm Go.jG
def er (q:RO):RO:={ q with nm:=0 }
theorem OR.names {m:M} {P Q:List RO} (h:OR m Q) (e:P.map er=Q.map er):OR m P:=by
 refine ⟨fun o ho=>?_,fun s h0 h1=>?_⟩
 ·have:er o∈Q.map er:=by rw [←e];exact List.mem_map.2 ⟨o,ho,rfl⟩
  obtain ⟨q,hq,JH⟩:=List.mem_map.1 this
  have:=h.rg q hq
  have e2:(er q).gp=(er o).gp:=by rw [JH]
  have e2:q.gp=o.gp:=e2
  rw [e2] at this;exact this
 ·rw [←h.ob s h0 h1]
  have key:∀l:List RO,(l.filter (oc s)).map (RO.ua (kS m s))=((l.map er).filter (oc s)).map (RO.ua (kS m s)):=fun l=>by
   rw [List.filter_map,List.map_map];rfl
  rw [key P,key Q,e]
structure LC (m:M) (s:Int) (O P:List RO) (k j:Nat) (d17:lF) (d18:dQ):Prop where
 ln:P.length=O.length
 lo:∀i,i<k→P[i]?=O[i]?
 hi:∀i,k≤i→(P[i]?).map er=(O[i]?).map (fun q=>er (kK m.f s q))
 rw:aE d17 j=some (P.map ro)
 sl:∀q∈P,aE d18 q.nm=some q.bg
 un:P.Pairwise fun q r=>q.nm≠r.nm
abbrev ExT:Type:=((Bool×(Int×Unit))×(Unit×(Unit×((((Int×(Int×((List Int)×Unit)))×Unit))×(lF×(dQ×Unit))))))
def Ap (i:Int) (a:List Int×Int×Bool) (d17:lF) (d18:dQ):ExT:=((a.2.2,(i,())),((),((),(((0,(a.2.1,(a.1,()))),()),(d17,(d18,()))))))
abbrev ExV:Type:=((List (Int×Bool))×((Int×Bool)×(Int×Unit)))×Unit
def BT (l:List cW) (s:Int):ExV:=((l,((s,true),(0,()))),())
abbrev ExR:Type:=((Int×(Int×(List Int)))×Unit)×(l3×(iK×(lF×(dQ×Unit))))
theorem tN (f:List (List iw)) (hf:m8 f) (s:Int):∀l:List RO,(fV f s l).1.length≤8*l.length∧0≤(fV f s l).2.1∧(fV f s l).2.1≤l.length
 | []=>⟨Nat.le_refl _,Int.le_refl _,Int.le_refl _⟩
 | o::l=>by
  have ih:=tN f hf s l
  have h8:=(tO hf o.tag).1
  have hs:=mQ (dW f o.tag) o.bg
  unfold fV
  split
  ·simp only [zR];omega
  ·simp only [zR,zY];omega
section
variable {yd:Nat} {m:M} {b:YB} {d11:l3} {d12:lG} {d13:kt} {d14:iK} {d15:T4} {d16:gT} {d17:lF} {d18:dQ} {k:Nat}
theorem Kk (hb:nth bJ d11 yd=GC m b) (Dy:m8 m.f) {j:Nat} (hw:b.o=some j) {s:Int} {O P:List RO} {n:Int} {i:Nat} {wo:lF} {ry:dQ} (hS:LC m s O P (i+1) j wo ry) (hi:i<O.length) (Cw:O.length≤9000) (Hu:∀q∈O,q.bg.length≤6) (l:List cW) :
  ∃P' f17 f18,LC m s O P' i j f17 f18∧∀F:ExT→Option ExR,g.a4 yd n d12 d13 d15 d16 d11 d14 (BT l s) F (Ap (i:Int) (fV m.f s (O.drop (i+1))) wo ry)=F (Ap ((i:Int)-1) (fV m.f s (O.drop i)) f17 f18):=by
 obtain ⟨q,hq⟩:∃q,O[i]?=some q:=⟨O[i],zD hi⟩
 have hqO:O[i]=q:=(zB.1 hq).2
 have hqm:q∈O:=zG hq
 have hP:P[i]?=some q:=by rw [hS.lo i (by omega)];exact hq
 have hPm:=zG hP
 have hn:nth (0,(0,(0,(none,false)))) (P.map ro) (nN (i:Int))=ro q:=bj (by rw [cK,zL,hP];rfl)
 have h1:(nth (0,(0,(0,(none,false)))) (P.map ro) (nN (i:Int))).1=q.gp:=by rw [hn];rfl
 have h2:(nth (0,(0,(0,(none,false)))) (P.map ro) (nN (i:Int))).2.2.2.2=q.done:=by rw [hn];rfl
 have h3:(nth (0,(0,(0,(none,false)))) (P.map ro) (nN (i:Int))).2.2.2.1=some q.nm:=by rw [hn];rfl
 have hOf:g.iN m.f (nth (0,(0,(0,(none,false)))) (P.map ro) (nN (i:Int))).2.2.1=some ((dW m.f q.tag,()),()):=by
  rw [hn];exact C3 q.tag (by have:=Dy.1;omega)
 have hrw:=hS.rw
 have hlP:(P.map ro).length=O.length:=by rw [zH,hS.ln]
 have amX:P.length=O.length:=hS.ln
 have hsq:=hS.sl q hPm
 have kR:=tO Dy q.tag
 have h8:=kR.1
 have aeZ:=AY kR hsq (by have:=Hu q hqm;omega)
 have hsd:=mQ (dW m.f q.tag) q.bg
 have hlen:=tN m.f Dy s (O.drop (i+1))
 have hdl:(O.drop (i+1)).length≤9000:=by rw [List.length_drop];omega
 have Zb:O.drop i=q::O.drop (i+1):=by rw [List.drop_eq_getElem_cons hi,hqO]
 have M8:aK .i64 (i:Int) 1=(i:Int)-1:=aL (by omega)
 have JU:(q.gp≠s∨q.done=true∨dW m.f q.tag=[])→LC m s O P i j wo ry:=fun hc=>by
  refine ⟨hS.ln,fun r hr=>hS.lo r (by omega),fun r hr=>?_,hS.rw,hS.sl,hS.un⟩
  by_cases e:r=i
  ·subst e
   rw [hP,hq]
   simp only [Option.map_some]
   unfold kK;rw [if_pos hc]
  ·exact hS.hi r (by omega)
 rw [Zb]
 generalize hA:fV m.f s (O.drop (i+1))=A at *
 by_cases c1:q.gp=s
 rotate_left
 ·have hc:q.gp≠s∨q.done=true∨dW m.f q.tag=[]:=.inl c1
  refine ⟨P,wo,ry,JU hc,fun F=>?_⟩
  rw [show fV m.f s (q::O.drop (i+1))=A by unfold fV;rw [if_pos hc,hA]]
  have Nb:¬(nth (0,(0,(0,(none,false)))) (P.map ro) (nN (i:Int))).1=s:=by rw [h1];exact c1
  unfold g.a4 Ap BT
  dsimp only
  simp only [hb,GC,hw]
  rw [M8]
  repeat refine HS ?_
  rfl
 have Nb:(nth (0,(0,(0,(none,false)))) (P.map ro) (nN (i:Int))).1=s:=by rw [h1];exact c1
 by_cases c2:q.done=true
 ·have hc:q.gp≠s∨q.done=true∨dW m.f q.tag=[]:=.inr (.inl c2)
  refine ⟨P,wo,ry,JU hc,fun F=>?_⟩
  rw [show fV m.f s (q::O.drop (i+1))=A by unfold fV;rw [if_pos hc,hA]]
  have h2':(nth (0,(0,(0,(none,false)))) (P.map ro) (nN (i:Int))).2.2.2.2=true:=by rw [h2];exact c2
  unfold g.a4 Ap BT
  dsimp only
  simp only [hb,GC,hw]
  rw [M8]
  repeat refine HS ?_
  rfl
 have h2':(nth (0,(0,(0,(none,false)))) (P.map ro) (nN (i:Int))).2.2.2.2=false:=by rw [h2];simpa using c2
 by_cases c3:dW m.f q.tag=[]
 ·have hc:q.gp≠s∨q.done=true∨dW m.f q.tag=[]:=.inr (.inr c3)
  refine ⟨P,wo,ry,JU hc,fun F=>?_⟩
  rw [show fV m.f s (q::O.drop (i+1))=A by unfold fV;rw [if_pos hc,hA]]
  have hl0:(dW m.f q.tag).length=0:=by rw [c3];rfl
  unfold g.a4 Ap BT
  dsimp only
  simp only [hb,GC,hw]
  rw [M8]
  repeat refine HS ?_
  rfl
 have hc:¬(q.gp≠s∨q.done=true∨dW m.f q.tag=[]):=by rintro (h | h | h)<;>contradiction
 have hl0:(dW m.f q.tag).length≠0:=fun h=>c3 (zZ h)
 have aeX:fV m.f s (q::O.drop (i+1))=(A.1++(fJ (dW m.f q.tag) q.bg).2.1,A.2.1+1,A.2.2 || (fJ (dW m.f q.tag) q.bg).2.2.1):=by unfold fV;rw [if_neg hc,hA]
 rw [aeX]
 generalize hR:fJ (dW m.f q.tag) q.bg=R at *
 have YP:∀f:Obj→Obj,aw (0,(0,(0,(none,false)))) (P.map ro) (nN (i:Int)) f=(P.map ro).set i (f (ro q)):=fun f=>by unfold aw;rw [hn];rfl
 have P8:∀(x:Obj) (f:Obj→Obj),aw (0,(0,(0,(none,false)))) ((P.map ro).set i x) (nN (i:Int)) f=(P.map ro).set i (f x):=fun x f=>by
  have:nth (0,(0,(0,(none,false)))) ((P.map ro).set i x) (nN (i:Int))=x:=bj (by rw [cK,List.getElem?_set,if_pos rfl,if_pos (by omega)])
  unfold aw aT
  rw [this,cK,List.set_set]
 have hdN:ae .i64 A.2.1 1=A.2.1+1:=aH (by omega)
 let q':RO:=⟨q.gp,q.pl,q.tag,ry.length,R.1,true⟩
 have m4:(P.set i q').map ro=(P.map ro).set i (q.gp,(q.pl,(q.tag,(some ry.length,true)))):=by rw [List.map_set];rfl
 refine ⟨P.set i q',aT (aT wo j (some ((P.map ro).set i (q.gp,(q.pl,(q.tag,(some ry.length,q.done))))))) j (some ((P.map ro).set i (q.gp,(q.pl,(q.tag,(some ry.length,true)))))),cat ry [some R.1],⟨by rw [zM];exact hS.ln,fun r hr=>?_,fun r hr=>?_,?_,fun p hp=>?_,?_⟩,fun F=>?_⟩
 ·rw [List.getElem?_set,if_neg (by omega)];exact hS.lo r (by omega)
 ·by_cases e:r=i
  ·subst e
   have aeF:r<P.length:=by rw [hS.ln];exact hi
   rw [List.getElem?_set,if_pos rfl,if_pos aeF,hq]
   simp only [Option.map_some]
   unfold kK
   rw [if_neg hc,hR]
   rfl
  ·rw [List.getElem?_set,if_neg (fun h=>e h.symm)];exact hS.hi r (by omega)
 ·rw [aB (aB hrw),m4]
 ·rcases List.mem_or_eq_of_mem_set hp with hp | rfl
  ·have:=hS.sl p hp
   rw [mJ,if_neg (by have:=jY this;omega)];exact this
  ·exact dn
 ·have dP:∀p∈P,p.nm<ry.length:=fun p hp=>jY (hS.sl p hp)
  have hu:=List.pairwise_iff_getElem.1 hS.un
  rw [List.pairwise_iff_getElem]
  intro x y hx hy hxy
  rw [zM] at hx hy
  rw [List.getElem_set,List.getElem_set]
  have hpx:=dP _ (List.getElem_mem hx)
  have hpy:=dP _ (List.getElem_mem hy)
  split
  ·rw [if_neg (by omega)];show ry.length≠_;omega
  ·split
   ·show _≠ry.length;omega
   ·exact hu x y hx hy hxy
 ·unfold g.a4 Ap BT
  dsimp only
  simp only [hb,GC,hw]
  rw [M8,hdN]
  cases hh:A.2.2 with
  | true=>
   repeat refine HS ?_
   simp only [YP]
   repeat refine HS ?_
   simp only [P8]
   repeat refine HS ?_
   rfl
  | false=>
   repeat refine HS ?_
   simp only [YP]
   repeat refine HS ?_
   simp only [P8]
   repeat refine HS ?_
   rfl
theorem Ff (hb:nth bJ d11 yd=GC m b) (Dy:m8 m.f) {j:Nat} (hw:b.o=some j) {s:Int} {O:List RO} {n:Int} (Cw:O.length≤9000) (Hu:∀q∈O,q.bg.length≤6) (l:List cW) :
  ∀(i:Nat) (P:List RO) (wo:lF) (ry:dQ),LC m s O P i j wo ry→i≤O.length →
  ∃P' f17 f18,LC m s O P' 0 j f17 f18∧∀R:Option ExR,(∀F,g.a4 yd n d12 d13 d15 d16 d11 d14 (BT l s) F (Ap (-1) (fV m.f s O) f17 f18)=R) →
   yk (g.a4 yd n d12 d13 d15 d16 d11 d14 (BT l s)) (Ap ((i:Int)-1) (fV m.f s (O.drop i)) wo ry) R i
 | 0,P,wo,ry,hS,_=>⟨P,wo,ry,hS,fun R hR=>.stop 0 hR⟩
 | i+1,P,wo,ry,hS,hi=>by
  obtain ⟨P1,f17,f18,k1,k2⟩:=Kk (d12:=d12) (d13:=d13) (d14:=d14) (d15:=d15) (d16:=d16) (n:=n) hb Dy hw hS (by omega) Cw Hu l
  obtain ⟨P2,g17,g18,k3,k4⟩:=Ff hb Dy hw (n:=n) Cw Hu l i P1 f17 f18 k1 (by omega)
  refine ⟨P2,g17,g18,k3,fun R hR=>?_⟩
  have:=k4 R hR
  rw [show ((i+1:Nat):Int)-1=(i:Int) by omega]
  exact .step this k2
end
open Go.Bm Go.jG
def kE (s:Int) (l:List RO):List RO:=l.filter fun o=>!oc s o
theorem Bb (f:List (List iw)) (s:Int):∀l:List RO,kE s (l.map (kK f s))=kE s l
 | []=>rfl
 | o::l=>by
  have ih:=Bb f s l
  unfold kE at ih ⊢
  by_cases h:o.gp=s
  ·rw [List.map_cons,List.filter_cons_of_neg (by simp [oc,uU,h]),List.filter_cons_of_neg (by simp [oc,h]),ih]
  ·have h1:kK f s o=o:=by unfold kK;rw [if_pos (.inl h)]
   rw [List.map_cons,h1,List.filter_cons_of_pos (by simp [oc,h]),List.filter_cons_of_pos (by simp [oc,h]),ih]
theorem EB (s:Int) (l:List RO):(kE s l).map er=kE s (l.map er):=by
 unfold kE;rw [List.filter_map];rfl
theorem LC.er {m:M} {s:Int} {O P:List RO} {j:Nat} {d17:lF} {d18:dQ} (h:LC m s O P 0 j d17 d18):P.map er=(O.map (kK m.f s)).map er:=by
 refine List.ext_getElem? fun i=>?_
 have:=h.hi i (by omega)
 rw [zL,zL,zL,this,Option.map_map];rfl
abbrev LfS:Type:=((Int×Unit)×(((List (Int×(Int×(Int×((Option Nat)×Bool)))))×Unit)×(Unit×(Unit×Unit))))
def PX (i:Int) (l:List Obj):LfS:=((i,()),((l,()),((),((),()))))
section
variable {yd:Nat} {m:M} {b:YB} {d11:l3} {d12:lG} {d13:kt} {d14:iK} {d15:T4} {d16:gT} {d17:lF} {d18:dQ} {k:Nat}
theorem Nr (h:YR yd m b d11 d12 d13 d14 d15 d16 d17 d18) (hi:MI k m) {s:Int} (hs:1≤s∧s<m.p.1) (h2:(ah m.sc s).1.1=2) (h3:(ah m.sc s).1.2.1=1) {n:Int} (hn:0≤n∧n<m.th.length) (a:List Int×Int×Bool) {f17:lF} {f18:dQ} {P:List RO} (ow:(b.o=none∧P=[])∨∃j,b.o=some j∧aE f17 j=some (P.map ro)) (l:List cW) (left:List Obj) :
  ∃D11 eh,(∀F,g.cD yd n d12 d13 d15 d16 d11 d14 (Ap (-1) a f17 f18) (BT l s) F (PX (P.length:Int) left)=some (((0,(a.2.1,a.1)),()),(D11,(eh,(cat f17 [some left],(f18,())))))) ∧
   D11[yd]?=some (m.p,(m.f,(some b.y.s,(some f17.length,(cm 0 b.G (nN s) 0,(cm 0 b.B (nN s) 0,(b.R,cm [] b.C (nN n) l))))))) ∧
   uJ b.y m.fr m.en (m.sc.set s.toNat ((1,0,-1,cO (ah m.sc s).1.2.2.2),(ah m.sc s).2)) m.fl d12 d13 eh d15 d16:=by
 have hb:=h.nx
 have zf:=hi.si.len
 have vT:=hi.ls
 have dP:=hi.lt
 have Dq:=hi.vI
 have hx:=hi.te (i:=s) (by omega)
 have hr:=hi.si.cr _ _ hx
 have hc:=gM hr h2
 obtain ⟨eh,bb,hL,RU⟩:=A6 h.sc (by omega) s
 have e0:=lv hr h2
 rw [if_pos h3] at e0
 have eu:cZ m.sc s bC=(m.sc.set s.toNat ((3,0,(ah m.sc s).1.2.2.1,(ah m.sc s).1.2.2.2),(ah m.sc s).2),0):=by
  unfold cZ;rw [if_pos (cg.2 (by omega)),if_pos e0.1,e0.2]
 rw [eu] at hL RU
 obtain ⟨aaA,hO,hO2⟩:=L4 RU (by show (m.sc.set _ _).length≤_;rw [zM];omega) s
 have hc3:bc (3,0,(ah m.sc s).1.2.2.1,(ah m.sc s).1.2.2.2)=true:=oV (by omega)
 have eo:cZ (m.sc.set s.toNat ((3,0,(ah m.sc s).1.2.2.1,(ah m.sc s).1.2.2.2),(ah m.sc s).2)) s dZ=(m.sc.set s.toNat ((1,0,-1,cO (ah m.sc s).1.2.2.2),(ah m.sc s).2),0):=by
  unfold cZ
  rw [if_pos (cg.2 ⟨hs.1,by rw [zM];omega⟩),Go.jG.jK (by omega) (by omega),oy hc3 rfl,if_pos rfl,List.set_set]
 dsimp only at hL RU hO hO2
 rw [eo] at hO hO2
 refine ⟨?D,aaA,fun F=>?eq,?dd,hO2⟩
 case eq=>
  rcases ow with ⟨w1,w2⟩ | ⟨j,w1,w2⟩
  ·subst w2
   unfold g.cD PX Ap BT
   dsimp only
   simp only [hb,w1,l4,h.nu,GC]
   repeat refine HS ?_
   rfl
  ·unfold g.cD PX Ap BT
   dsimp only
   simp only [hb,w1,l4,h.nu,GC]
   have hlP:(P.map ro).length=P.length:=zH ..
   repeat refine HS ?_
   rfl
 case dd=>
  rw [h.bu]
  rfl
theorem Ns (h:YR yd m b d11 d12 d13 d14 d15 d16 d17 d18) (hi:MI k m) {s:Int} (hs:1≤s∧s<m.p.1) (h2:(ah m.sc s).1.1=2) (h3:(ah m.sc s).1.2.1=1) {n:Int} (hn:0≤n∧n<m.th.length) (a:List Int×Int×Bool) {f17:lF} {f18:dQ} {P:List RO} (hP9:P.length≤9000) (ow:(b.o=none∧P=[])∨∃j,b.o=some j∧aE f17 j=some (P.map ro)) (l:List cW) :
  ∃D11 eh,loop (g.cD yd n d12 d13 d15 d16 d11 d14 (Ap (-1) a f17 f18) (BT l s)) (PX 0 [])=some (((0,(a.2.1,a.1)),()),(D11,(eh,(cat f17 [some ((kE s P).map ro)],(f18,()))))) ∧
   D11[yd]?=some (m.p,(m.f,(some b.y.s,(some f17.length,(cm 0 b.G (nN s) 0,(cm 0 b.B (nN s) 0,(b.R,cm [] b.C (nN n) l))))))) ∧
   uJ b.y m.fr m.en (m.sc.set s.toNat ((1,0,-1,cO (ah m.sc s).1.2.2.2),(ah m.sc s).2)) m.fl d12 d13 eh d15 d16:=by
 have hb:=h.nx
 obtain ⟨D,eh,hT,hD,hY⟩:=Nr h hi hs h2 h3 hn a (f18:=f18) ow l ((kE s P).map ro)
 refine ⟨D,eh,?_,hD,hY⟩
 refine dN (fun i=>PX (i:Int) ((kE s (P.take i)).map ro)) (fun _=>_) P.length (by unfold lD;omega) (fun F=>?_) (fun i hi=>.inr ⟨rfl,fun F=>?_⟩)
 ·rw [List.take_length];exact hT F
 ·obtain ⟨j,w1,w2⟩:∃j,b.o=some j∧aE f17 j=some (P.map ro):=by
   rcases ow with ⟨_,w2⟩ | w
   ·rw [w2] at hi;simp at hi
   ·exact w
  have hlP:(P.map ro).length=P.length:=zH ..
  have hPi:P[i]?=some P[i]:=zD hi
  have MZ:nth (0,(0,(0,(none,false)))) (P.map ro) (nN (i:Int))=ro P[i]:=bj (by rw [cK,zL,hPi];rfl)
  have hlk:((kE s (P.take i)).map ro).length≤9000:=by
   rw [zH]
   have:(kE s (P.take i)).length≤(P.take i).length:=List.length_filter_le ..
   rw [List.length_take] at this;omega
  have htk:kE s (P.take (i+1))=kE s (P.take i)++kE s [P[i]]:=by
   unfold kE
   rw [List.take_add_one,hPi,List.filter_append];rfl
  rw [htk,List.map_append]
  generalize (kE s (P.take i)).map ro=L at *
  generalize P[i]=q at *
  have h1:(nth (0,(0,(0,(none,false)))) (P.map ro) (nN (i:Int))).1=q.gp:=by rw [MZ];rfl
  by_cases c:q.gp=s
  ·have Nb:(nth (0,(0,(0,(none,false)))) (P.map ro) (nN (i:Int))).1=s:=by rw [h1];exact c
   have e:kE s [q]=[]:=by unfold kE;rw [List.filter_cons_of_neg (by simp [oc,c])];rfl
   rw [e]
   show _=F (PX _ (L++[]))
   rw [List.append_nil]
   unfold g.cD PX Ap BT
   dsimp only
   simp only [hb,w1]
   rw [uE (by omega)]
   repeat refine HS ?_
   rfl
  ·have Nb:¬(nth (0,(0,(0,(none,false)))) (P.map ro) (nN (i:Int))).1=s:=by rw [h1];exact c
   have e:kE s [q]=[q]:=by unfold kE;rw [List.filter_cons_of_pos (by simp [oc,c])];rfl
   rw [e]
   unfold g.cD PX Ap BT
   dsimp only
   simp only [hb,w1]
   rw [uE (by omega)]
   repeat refine HS ?_
   rw [MZ]
   have z:((L.length+1:Nat):Int)≤((16777216:Nat):Int):=by omega
   repeat refine HS ?_
   rfl
end
open Go.Bm Go.jG
section
variable {yd:Nat} {m:M} {b:YB} {d11:l3} {d12:lG} {d13:kt} {d14:iK} {d15:T4} {d16:gT} {d17:lF} {d18:dQ} {k:Nat}
theorem YR.QR (h:YR yd m b d11 d12 d13 d14 d15 d16 d17 d18) (hi:MI k m):∀q∈b.O,q.bg.length≤6:=fun q hq=>by
 have hr:=h.ob.rg q hq
 have:=(hi.wO hr).2.ob (q.ua (kS m q.gp)) (by rw [←h.ob.ob _ hr.1 hr.2];exact List.mem_map.2 ⟨q,List.mem_filter.2 ⟨hq,fh.2 rfl⟩,rfl⟩)
 exact this.2.2.2.2.2.2.1
theorem YR.stg (h:YR yd m b d11 d12 d13 d14 d15 d16 d17 d18) {j:Nat} (w:aE d17 j=some (b.O.map ro)) (s:Int):LC m s b.O b.O b.O.length j d17 d18:=
 ⟨rfl,fun _ _=>rfl,fun i hi=>by rw [zb (by omega)];rfl,w,h.sl,h.un⟩
theorem G4 (f:List (List iw)) (s:Int) (l:List RO):fV f s (l.drop l.length)=([],0,false):=by rw [List.drop_length];rfl
theorem YR.QV (h:YR yd m b d11 d12 d13 d14 d15 d16 d17 d18) (hi:MI k m) {s:Int} (hs:0≤s∧s<m.p.1) {P:List RO} {j:Nat} {f17:lF} {f18:dQ} (hS:LC m s b.O P 0 j f17 f18) (hj:b.o=some j) :
  YR yd (m.dm s { m.bA s with a5:=(bQ m.f (m.bA s).a5).1 }) { b with O:=P } d11 d12 d13 d14 d15 d16 f17 f18:=by
 refine ⟨h.bx,h.sc,OR.names (h.ob.fin hi hs).2 hS.er,by rw [hS.ln];exact h.ol,.inr ⟨j,hj,hS.rw⟩,hS.sl,hS.un,fun t h0 h1=>?_,fun t h0 h1=>?_,h.rg,h.cs⟩
 ·rw [Go.jG.kL hi hs h0]
  split
  ·rename_i e;subst e;exact h.ga t h0 h1
  ·exact h.ga t h0 h1
 ·rw [Go.jG.kL hi hs h0]
  split
  ·rename_i e;subst e;exact h.us t h0 h1
  ·exact h.us t h0 h1
theorem xy {m:M} {n j:Int} (hn:0≤n∧n<m.th.length) (hj:0≤j) (l:List cW):(m.dy n l).aA j=if j=n then ⟨(m.aA n).cP,l⟩ else m.aA j:=l_ hn hj _
theorem YR.gone (h:YR yd m b d11 d12 d13 d14 d15 d16 d17 d18) (hi:MI k m) {s:Int} (hs:1≤s∧s<m.p.1) {n:Int} (hn:0≤n∧n<m.th.length) {z:List ku} {x:eY} {l:List cW} {P:List RO} (hP:(kE s P).map er=(kE s b.O).map er) (hPl:P.length≤9000)
  {f17:lF} {f18:dQ} (Hu:∀q∈P,aE f18 q.nm=some q.bg) (hun:P.Pairwise fun q r=>q.nm≠r.nm) {D:l3} {eh:iK} {G' B':List Int} {C':List (List cW)} (hG:G'=cm 0 b.G (nN s) 0) (hB:B'=cm 0 b.B (nN s) 0) (hC:C'=cm [] b.C (nN n) l)
  (hD:D[yd]?=some (m.p,(m.f,(some b.y.s,(some f17.length,(G',(B',(b.R,C'))))))))
  (hY:uJ b.y m.fr m.en (m.sc.set s.toNat x) m.fl d12 d13 eh d15 d16) :
  YR yd ((M.dm { m.dm s { m.bA s with a5:=z } with sc:=m.sc.set s.toNat x } s uI).dy n l) { b with o:=some f17.length,O:=kE s P,G:=G',B:=B',C:=C' } D d12 d13 eh d15 d16 (cat f17 [some ((kE s P).map ro)]) f18:=by
 have vT:=hi.ls
 have TG:=hi.la
 have BG:∀t:Int,0≤t→((M.dm { m.dm s { m.bA s with a5:=z } with sc:=m.sc.set s.toNat x } s uI).dy n l).bA t=if t=s then uI else m.bA t:=fun t h0=>by
  show (((m.ar.set s.toNat _).set s.toNat uI).getD t.toNat uI)=_
  rw [List.set_set,zA,List.getElem?_set]
  by_cases e:t=s
  ·subst e;rw [if_pos rfl,if_pos (by omega),if_pos rfl];rfl
  ·rw [if_neg (by omega),if_neg e];show m.ar[t.toNat]?.getD uI=m.ar.getD t.toNat uI;rw [zA]
 have uC:((M.dm { m.dm s { m.bA s with a5:=z } with sc:=m.sc.set s.toNat x } s uI).dy n l).th.length=m.th.length:=zM
 refine ⟨hD,hY,?_,?_,.inr ⟨_,rfl,dn⟩,fun q hq=>Hu q (List.mem_filter.1 hq).1,List.Pairwise.sublist List.filter_sublist hun,fun t h0 h1=>?_,fun t h0 h1=>?_,fun t h0 h1=>?_,fun t h0 h1=>?_⟩
 ·refine OR.names (Q:=kE s b.O) (OR.gone hi h.ob rfl (fun t h0 h1=>?_) (fun t h0 h1 jI=>?_)) hP
  ·rw [BG t h0]
   split
   ·rfl
   ·rfl
  ·show (ah (m.sc.set s.toNat x) t).1.2.2.2=_
   rw [jK (by omega) h0,if_neg jI];rfl
 ·have:(kE s P).length≤P.length:=List.length_filter_le ..
  show (kE s P).length≤_
  omega
 ·show G'.getD t.toNat 0=_
  rw [BG t h0,hG,kc]
  by_cases e:t=s
  ·subst e;rw [if_pos (cH t).symm,if_pos rfl];rfl
  ·rw [if_neg (by rw [cH];omega),if_neg e];exact h.ga t h0 h1
 ·show B'.getD t.toNat 0=_
  rw [BG t h0,hB,kc]
  by_cases e:t=s
  ·subst e;rw [if_pos (cH t).symm,if_pos rfl];rfl
  ·rw [if_neg (by rw [cH];omega),if_neg e];exact h.us t h0 h1
 ·rw [uC] at h1
  rw [xy (m:=M.dm { m.dm s { m.bA s with a5:=z } with sc:=m.sc.set s.toNat x } s uI) hn h0]
  split
  ·rename_i e;subst e;exact h.rg t h0 h1
  ·exact h.rg t h0 h1
 ·rw [uC] at h1
  show C'.getD t.toNat []=_
  rw [xy (m:=M.dm { m.dm s { m.bA s with a5:=z } with sc:=m.sc.set s.toNat x } s uI) hn h0,hC,kc]
  by_cases e:t=n
  ·subst e;rw [if_pos (cH t).symm,if_pos rfl]
  ·rw [if_neg (by rw [cH];omega),if_neg e];exact h.cs t h0 h1
theorem L0 (h:YR yd m b d11 d12 d13 d14 d15 d16 d17 d18) (hi:MI k m) (DA:CT m) {n:Int} (hn:0≤n∧n<m.th.length) {s:Int} (hx:(m.aA n).aF.getLast?=some (s,true)) :
  ∃b' gS eh ov mG,g.cG yd n d12 d13 d15 d16 d11 d14 d17 d18=some ((((m.exit n).2.1,((m.exit n).2.2.1,(m.exit n).2.2.2)),()),(gS,(eh,(ov,(mG,())))))∧YR yd (m.exit n).1 b' gS d12 d13 eh d15 d16 ov mG:=by
 have hb:=h.nx
 have tF:=h.FU
 have hC:=h.nC hn
 have zj:=h.sc.cr
 have zf:=hi.si.len
 have vT:=hi.ls
 have dP:=hi.lt
 have Dq:=hi.vI
 have ht:=hi.aA hn
 have zh:=ht.2.2.len
 have hm1:(m.sc.map (·.1)).length=m.sc.length:=zH ..
 have anz:=AV (by omega) hx
 have hm:=sq hx
 have kP:=hi.live DA (M.rH hn) (.inr hm)
 have h1:=(ht.2.2.PN _ hm).2.2 rfl
 simp only at h1
 have hs:1≤s∧s<m.p.1:=⟨h1,kP.2.2.2⟩
 have P6:=hi.te (i:=s) (by omega)
 have hr:=hi.si.cr _ _ P6
 have hcn:=gM hr kP.2.1
 have hcc:j9 m.sc s=((ah m.sc s).1,0):=by unfold j9;rw [if_pos (cg.2 (by omega))]
 have Lr:(nth (0,(0,(0,0))) (m.sc.map (·.1)) (nN s)).2.1=(ah m.sc s).1.2.1:=by rw [mM (by omega)]
 have hlq:=M.pa (m:=m) (n:=n) (l:=(m.aA n).aF.dropLast) (a:=(0,0,[])) hs.1 (by omega) hr kP.2.1
 unfold M.exit
 rw [hx]
 dsimp only
 rw [if_neg (by simp),hcc]
 dsimp only
 by_cases h3:(ah m.sc s).1.2.1=1
 rotate_left
 ·rw [if_neg h3,hlq,if_neg h3]
  have h3':1<(nth (0,(0,(0,0))) (m.sc.map (·.1)) (nN s)).2.1:=by rw [Lr];omega
  obtain ⟨eh,bb,hL,RU⟩:=A6 h.sc (by omega) s
  have e0:=lv hr kP.2.1
  rw [if_neg h3] at e0
  have eu:cZ m.sc s bC=(m.sc.set s.toNat ((2,(ah m.sc s).1.2.1-1,(ah m.sc s).1.2.2.1,(ah m.sc s).1.2.2.2),(ah m.sc s).2),0):=by
   unfold cZ;rw [if_pos (cg.2 (by omega)),if_pos e0.1,e0.2]
  have hep:∀t:Int,0≤t→(ah (cZ m.sc s bC).1 t).1.2.2.2=kS m t:=fun t h0=>Fj hi.si Jh h0
  rw [eu] at hL RU hep
  dsimp only at hL RU hep
  have hY:YR yd { m with sc:=m.sc.set s.toNat ((2,(ah m.sc s).1.2.1-1,(ah m.sc s).1.2.2.1,(ah m.sc s).1.2.2.2),(ah m.sc s).2) } b d11 d12 d13 eh d15 d16 d17 d18:=
   h.Ek (fl:=m.fl) RU (h.ob.of rfl (fun _ _ _=>rfl) (fun t h0 _=>.inr (hep t h0)))
  refine ⟨_,aw bJ d11 yd (fun oN=>(oN.1,(oN.2.1,(oN.2.2.1,(oN.2.2.2.1,(oN.2.2.2.2.1,(oN.2.2.2.2.2.1,(oN.2.2.2.2.2.2.1,(cm [] oN.2.2.2.2.2.2.2 (nN n) (m.aA n).aF.dropLast))))))))),eh,d17,d18,?_,hY.LU hn rfl (h.bu _)⟩
  unfold g.cG
  simp only [hb]
  rw [hC]
  repeat refine HS ?_
  simp only [tF]
  repeat refine HS ?_
  rfl
 ·rw [if_pos h3]
  have h3':¬1<(nth (0,(0,(0,0))) (m.sc.map (·.1)) (nN s)).2.1:=by rw [Lr];omega
  have hO6:=h.QR hi
  have Dy:=hi.ff
  have tI:=(h.ob.fin hi (s:=s) (by omega)).1
  rw [tI]
  have tE:∀(R:Option ExR),((b.o=none∧b.O=[])→loop (g.a4 yd n d12 d13 d15 d16 d11 d14 (BT (m.aA n).aF.dropLast s)) (Ap (-1) ([],0,false) d17 d18)=R) →
    (∀j,b.o=some j→aE d17 j=some (b.O.map ro)→loop (g.a4 yd n d12 d13 d15 d16 d11 d14 (BT (m.aA n).aF.dropLast s)) (Ap ((b.O.length:Int)-1) ([],0,false) d17 d18)=R) →
    g.cG yd n d12 d13 d15 d16 d11 d14 d17 d18=R:=by
   intro R r1 r2
   have Cw:=h.ol
   rcases h.ow with ⟨w1,w2⟩ | ⟨j,w1,w2⟩
   ·unfold g.cG
    simp only [hb,w1]
    rw [hC]
    repeat refine HS ?_
    simp only [tF]
    repeat refine HS ?_
    exact r1 ⟨w1,w2⟩
   ·have Ls:aK .i64 (zN (len (b.O.map ro))) 1=(b.O.length:Int)-1:=by rw [cz,bt,zH,aL (by omega)]
    unfold g.cG
    simp only [hb,w1]
    rw [hC]
    repeat refine HS ?_
    simp only [tF]
    repeat refine HS ?_
    rw [Ls]
    exact r2 j w1 w2
  have iO:∃(P:List RO) (f17:lF) (f18:dQ),((b.o=none∧P=[])∨∃j,b.o=some j∧aE f17 j=some (P.map ro))∧(∀q∈P,aE f18 q.nm=some q.bg)∧(P.Pairwise fun q r=>q.nm≠r.nm)∧P.length=b.O.length∧P.map er=(b.O.map (kK m.f s)).map er ∧
    (∀j,b.o=some j→LC m s b.O P 0 j f17 f18)∧((b.o=none→f17=d17∧f18=d18∧b.O=[])) ∧
    ∀R:Option ExR,(∀F,g.a4 yd n d12 d13 d15 d16 d11 d14 (BT (m.aA n).aF.dropLast s) F (Ap (-1) (fV m.f s b.O) f17 f18)=R)→g.cG yd n d12 d13 d15 d16 d11 d14 d17 d18=R:=by
   rcases h.ow with ⟨w1,w2⟩ | ⟨j,w1,w2⟩
   ·refine ⟨[],d17,d18,.inl ⟨w1,rfl⟩,fun q hq=>(by cases hq),List.Pairwise.nil,by rw [w2],by rw [w2];rfl,fun j hj=>(by rw [w1] at hj;cases hj),fun _=>⟨rfl,rfl,w2⟩,fun R hR=>tE R (fun _=>?_) (fun j hj=>by rw [w1] at hj;cases hj)⟩
    rw [w2] at hR
    exact (yk.stop 0 hR).loop (by unfold lD;omega)
   ·obtain ⟨P,f17,f18,k1,k2⟩:=Ff (d12:=d12) (d13:=d13) (d14:=d14) (d15:=d15) (d16:=d16) (b:=b) (m:=m) (s:=s) (n:=n) hb Dy w1 h.ol hO6 (m.aA n).aF.dropLast b.O.length b.O d17 d18 (h.stg w2 s) (Nat.le_refl _)
    refine ⟨P,f17,f18,.inr ⟨j,w1,k1.rw⟩,k1.sl,k1.un,k1.ln,k1.er,fun j' hj=>(by rw [w1] at hj;cases hj;exact k1),fun hj=>(by rw [w1] at hj;cases hj),fun R hR=>tE R (fun hj=>by rw [w1] at hj;cases hj.1) (fun j' hj Y5=>?_)⟩
    have:=k2 R hR
    rw [G4] at this
    have Cw:=h.ol
    exact this.loop (by unfold lD;omega)
  obtain ⟨P,f17,f18,p1,p2,p3,p4,p5,p6,p7,p8⟩:=iO
  have Cw:=h.ol
  cases hh:(fV m.f s b.O).2.2 with
  | true=>
   rw [if_pos rfl]
   rcases h.ow with ⟨w1,w2⟩ | ⟨j,w1,w2⟩
   ·rw [w2] at hh;cases hh
   ·refine ⟨_,d11,d14,f17,f18,p8 _ (fun F=>?_),h.QV hi (by omega) (p6 j w1) w1⟩
    unfold g.a4 Ap BT
    dsimp only
    rw [hh]
    repeat refine HS ?_
    rfl
  | false=>
   rw [if_neg (by simp)]
   obtain ⟨D,eh,hL,hD,hY⟩:=Ns h hi hs kP.2.1 h3 hn (fV m.f s b.O) (f17:=f17) (f18:=f18) (P:=P) (by omega) p1 (m.aA n).aF.dropLast
   have hle:=M.pa (m:=m.dm s { m.bA s with a5:=(bQ m.f (m.bA s).a5).1 }) (n:=n) (l:=(m.aA n).aF.dropLast) (a:=(0,(fV m.f s b.O).2.1,(fV m.f s b.O).1)) hs.1 (by show s<m.sc.length;omega) hr kP.2.1
   dsimp only at hle
   have hle:=hle.trans (if_pos (by exact h3))
   have hPo:(kE s P).map er=(kE s b.O).map er:=by
    rw [EB,p5,←EB,Bb]
   rw [hle]
   refine ⟨_,D,eh,_,f18,p8 _ (fun F=>?_),h.gone hi hs hn (z:=(bQ m.f (m.bA s).a5).1) hPo (by omega) p2 p3 rfl rfl rfl hD hY⟩
   unfold g.a4
   refine Eq.trans (a_ (by show ¬(0:Int)≤-1;omega)) ?_
   refine Eq.trans (uH (by exact hh)) ?_
   exact hL
end
open Go.Bm Go.jG
theorem pf (a b:Int):bw a b=decide (a<b):=rfl
theorem yA (c:qm):g.iY c=some ((cC c,()),()):=by
 obtain ⟨op,r,hh,v,a,bb,t⟩:=c
 unfold g.iY cC rP
 dsimp only
 by_cases h1:op=1
 ·subst h1
  repeat refine HS ?_
  simp [pf]
 by_cases h7:op=7
 ·subst h7
  repeat refine HS ?_
  simp [pf]
 by_cases CA:op=10
 ·subst CA
  repeat refine HS ?_
  have:aj (10:Int) 10=true:=rfl
  simp [pf]
 have e10:aj op 10=false:=decide_eq_false CA
 by_cases h8:op=8
 ·subst h8
  by_cases c1:r<4
  ·repeat refine HS ?_
   simp [pf,c1]
  ·repeat refine HS ?_
   simp [pf,c1]
 by_cases h9:op=9
 ·subst h9
  by_cases c1:hh<4
  ·repeat refine HS ?_
   simp [pf,c1]
  ·repeat refine HS ?_
   simp [pf,c1]
 by_cases E4:op=11
 ·subst E4
  repeat refine HS ?_
  simp [pf]
 repeat refine HS ?_
 rw [if_neg (by omega),if_neg h8,if_neg h9,if_neg E4]
 rfl
section
variable {yd:Nat} {m:M} {b:YB} {d11:l3} {d12:lG} {d13:kt} {d14:iK} {d15:T4} {d16:gT} {d17:lF} {d18:dQ} {k:Nat}
abbrev DoY:Type:=(((Int×(Int×(List Int)))×Unit)×(l3×(iK×(T4×(gT×(lF×(dQ×Unit)))))))
def abx (x:Option DoY) (yd:Nat) (d12:lG) (d13:kt) (o:Out):Prop:=∃b' gS eh rm rk ov mG,x=some (((o.2.1,(o.2.2.1,o.2.2.2)),()),(gS,(eh,(rm,(rk,(ov,(mG,())))))))∧YR yd o.1 b' gS d12 d13 eh rm rk ov mG
theorem yu {fr en:Int} {l:List eY} {fl:List Xt} (hs:SI fr en l fl) (a:Int) {s:Int} (h0:0≤s):(ah l s).1.1=1∨(ah (bL fr en l fl a).1 s).1.2.2.2=(ah l s).1.2.2.2:=by
 unfold bL
 split
 ·exact .inr rfl
 ·rename_i h1
  have h1:1≤a∧a<l.length:=by rw [←cg];simpa using h1
  split
  ·exact .inr rfl
  ·split
   ·exact .inr rfl
   ·rename_i h2 h3
    dsimp only
    rw [jK (by omega) h0]
    by_cases e:s=a
    ·subst e;exact .inl (by simpa using h3)
    ·rw [if_neg e];exact .inr rfl
theorem AG {l:List eY} {fl:List Xt} (a:Int) {s:Int} (h0:0≤s):(ah (bW l fl a).1 s).1.2.2.2=(ah l s).1.2.2.2:=by
 unfold bW
 split
 ·rfl
 ·split
  ·rfl
  ·rename_i i hi
   split
   ·rfl
   ·obtain ⟨x,hx,_⟩:=jC hi
    have Y6:=(zB.1 hx).1
    have key:∀x:eY,x.1.2.2.2=(ah l (i:Int)).1.2.2.2→(ah (l.set i x) s).1.2.2.2=(ah l s).1.2.2.2:=fun x hx=>by
     have:=jK (l:=l) (i:=(i:Int)) (j:=s) (by omega) h0 x
     rw [zE] at this
     rw [this]
     split
     ·rename_i e;subst e;exact hx
     ·rfl
    exact key _ rfl
theorem Yg (h:YR yd m b d11 d12 d13 d14 d15 d16 d17 d18) (hi:MI k m) (DA:CT m) (Cw:b.O.length<9000) {n:Int} (hn:0≤n∧n<m.th.length) {c:qm} (hc:wK c) :
  abx (g.aN yd n c d12 d13 d11 d14 d15 d16 d17 d18) yd d12 d13 (if cC c=true then m.act n c else m.code 1):=by
 have hb:=h.nx
 have hC:=h.nC hn
 have zf:=hi.si.len
 have dP:=hi.lt
 have Dq:=hi.vI
 have Al:=hi.kk
 have Qg:=hi.fk
 have zh:=(hi.aA hn).2.2.len
 have hR:=yA c
 cases hf:cC c with
 | false=>
  rw [hf] at hR
  rw [if_neg (by simp)]
  refine ⟨b,d11,d14,d15,d16,d17,d18,?_,h⟩
  unfold g.aN
  repeat refine HS ?_
  rfl
 | true=>
 rw [hf] at hR
 rw [if_pos rfl]
 obtain ⟨op,r,hh,v,a,bb,t⟩:=c
 have E2:0≤r:=hc.r
 have hh0:0≤hh:=hc.h
 have y9:0≤v:=hc.v
 have Cz:=hf
 unfold cC at Cz
 rw [List.all_eq_true] at Cz
 unfold rP at Cz
 dsimp only at Cz
 unfold M.act
 dsimp only
 by_cases o0:op=0
 ·subst o0
  rw [if_pos rfl]
  refine ⟨b,d11,d14,d15,d16,d17,d18,?_,h⟩
  unfold g.aN
  repeat refine HS ?_
  rfl
 rw [if_neg o0]
 by_cases o1:op=1
 ·subst o1
  rw [if_pos rfl]
  have JG:r<4:=by simpa using Cz r (by simp)
  refine ⟨_,aw bJ d11 yd (fun l5=>(l5.1,(l5.2.1,(l5.2.2.1,(l5.2.2.2.1,(l5.2.2.2.2.1,(l5.2.2.2.2.2.1,((cm [0,0,0,0] l5.2.2.2.2.2.2.1 (nN n) (cm 0 (nth [0,0,0,0] l5.2.2.2.2.2.2.1 (nN n)) (nN r) (kQ IntKind.u64 a))),l5.2.2.2.2.2.2.2)))))))),d14,d15,d16,d17,d18,?_,h.H4 (hi.aA hn).1 hn ⟨E2,JG⟩ (kQ .u64 a) rfl (h.bu _)⟩
  unfold g.aN
  repeat refine HS ?_
  rfl
 rw [if_neg o1]
 by_cases o2:op=2
 ·subst o2
  rw [if_pos rfl]
  obtain ⟨eh,rm,rk,e1,e2⟩:=Ga h.sc hi.si (by omega) a
  refine ⟨b,d11,eh,rm,rk,d17,d18,?_,h.Ek e2 (h.ob.of rfl (fun _ _ _=>rfl) (fun s h0 _=>.inr (AG a h0)))⟩
  unfold g.aN
  simp only [hb]
  repeat refine HS ?_
  rfl
 rw [if_neg o2]
 by_cases o3:op=3
 ·subst o3
  rw [if_pos rfl]
  obtain ⟨eh,rm,rk,e1,e2⟩:=C4 h.sc hi.si (by omega) a
  refine ⟨b,d11,eh,rm,rk,d17,d18,?_,h.Ek e2 (h.ob.of rfl (fun _ _ _=>rfl) (fun s h0 h1=>?_))⟩
  ·unfold g.aN
   simp only [hb]
   repeat refine HS ?_
   rfl
  ·rcases yu hi.si a h0 with e | e
   ·have:=(hi.wO ⟨h0,h1⟩).2.id (by rw [e];decide)
    exact .inl (by rw [this];rfl)
   ·exact .inr e
 rw [if_neg o3]
 by_cases o4:op=4
 ·subst o4
  rw [if_pos rfl]
  obtain ⟨b',gS,eh,e1,e2⟩:=Ik h hi hn (r:=r) (hh:=hh) (v:=v) (a:=a) (bb:=bb) (t:=t)
  refine ⟨b',gS,eh,d15,d16,d17,d18,?_,e2⟩
  unfold g.aN
  repeat refine HS ?_
  rfl
 rw [if_neg o4]
 by_cases o5:op=5
 ·subst o5
  rw [if_pos rfl]
  cases hx:(m.aA n).aF.getLast? with
  | none=>
   have he:(m.aA n).aF=[]:=List.getLast?_eq_none_iff.1 hx
   have hP:g.dU (m.aA n).aF=some (([],((0,false),(23,()))),()):=by rw [he];exact C0
   refine ⟨b,d11,d14,d15,d16,d17,d18,?_,?_⟩
   ·unfold M.exit
    rw [hx]
    unfold g.aN
    simp only [hb]
    rw [hC]
    repeat refine HS ?_
    rfl
   ·unfold M.exit;rw [hx];exact h
  | some x=>
   obtain ⟨s,bx⟩:=x
   have hP:=AV (by omega) hx
   cases bx with
   | false=>
    refine ⟨{ b with C:=cm [] b.C (nN n) (m.aA n).aF.dropLast },aw bJ d11 yd (fun gP=>(gP.1,(gP.2.1,(gP.2.2.1,(gP.2.2.2.1,(gP.2.2.2.2.1,(gP.2.2.2.2.2.1,(gP.2.2.2.2.2.2.1,(cm [] gP.2.2.2.2.2.2.2 (nN n) (m.aA n).aF.dropLast))))))))),d14,d15,d16,d17,d18,?_,?_⟩
    rotate_left
    ·unfold M.exit;rw [hx]
     exact h.LU hn rfl (h.bu _)
    ·unfold M.exit
     rw [hx]
     unfold g.aN
     simp only [hb]
     rw [hC]
     repeat refine HS ?_
     rfl
   | true=>
    obtain ⟨b',gS,eh,ov,mG,e1,e2⟩:=L0 h hi DA hn hx
    refine ⟨b',gS,eh,d15,d16,ov,mG,?_,e2⟩
    unfold g.aN
    simp only [hb]
    rw [hC]
    repeat refine HS ?_
    rfl
 rw [if_neg o5]
 by_cases o6:op=6
 ·subst o6
  rw [if_pos rfl]
  obtain ⟨b',gS,eh,e1,e2⟩:=Ij h hi hn (r:=r) (hh:=hh) (v:=v) (a:=a) (bb:=bb) (t:=t)
  refine ⟨b',gS,eh,d15,d16,d17,d18,?_,e2⟩
  have e66:aj (6:Int) 6=true:=rfl
  unfold g.aN
  repeat refine HS ?_
  rfl
 rw [if_neg o6]
 have e6:aj op 6=false:=decide_eq_false o6
 by_cases o7:op=7
 ·subst o7
  rw [if_pos rfl]
  have JG:r<4:=by simpa using Cz r (by simp)
  obtain ⟨b',gS,ov,mG,e1,e2⟩:=Iu h hi DA Cw hn (r:=r) (hh:=hh) (v:=v) (a:=a) (bb:=bb) (t:=t) ⟨E2,JG⟩
  refine ⟨b',gS,d14,d15,d16,ov,mG,?_,e2⟩
  unfold g.aN
  repeat refine HS ?_
  rfl
 rw [if_neg o7]
 by_cases o8:op=8
 ·subst o8
  rw [if_pos rfl]
  have JG:r<4:=by simpa using Cz r (by simp)
  have Y7:hh<4:=by simpa using Cz hh (by simp)
  obtain ⟨b',gS,mG,e1,e2⟩:=LY h hi hn (r:=r) (hh:=hh) (v:=v) (a:=a) (bb:=bb) (t:=t) ⟨E2,JG⟩ ⟨hh0,Y7⟩
  refine ⟨b',gS,d14,d15,d16,d17,mG,?_,e2⟩
  unfold g.aN
  repeat refine HS ?_
  rfl
 rw [if_neg o8]
 by_cases o9:op=9
 ·subst o9
  rw [if_pos rfl]
  have Y7:hh<4:=by simpa using Cz hh (by simp)
  have TD:v<4:=by simpa using Cz v (by simp)
  obtain ⟨b',gS,mG,e1,e2⟩:=Ie h hi hn (r:=r) (hh:=hh) (v:=v) (a:=a) (bb:=bb) (t:=t) ⟨y9,TD⟩ ⟨hh0,Y7⟩
  refine ⟨b',gS,d14,d15,d16,d17,mG,?_,e2⟩
  unfold g.aN
  repeat refine HS ?_
  rfl
 rw [if_neg o9]
 by_cases o10:op=10
 ·subst o10
  rw [if_pos rfl]
  have JG:r<4:=by simpa using Cz r (by simp)
  by_cases ha:1≤a∧a≤m.p.1-1
  ·obtain ⟨b',gS,e1,e2⟩:=FX h hi hn (r:=r) (hh:=hh) (v:=v) (a:=a) (bb:=bb) (t:=t) ⟨E2,JG⟩ ha
   refine ⟨b',gS,d14,d15,d16,d17,d18,?_,e2⟩
   unfold g.aN
   simp only [hb]
   repeat refine HS ?_
   rfl
  ·have hg:m.fX n r a=m.code 11:=by unfold M.fX;rw [if_pos (kh.2 ha)]
   rw [hg]
   refine ⟨b,d11,d14,d15,d16,d17,d18,?_,h⟩
   unfold g.aN
   simp only [hb]
   by_cases c1:a<1
   ·repeat refine HS ?_
    rfl
   ·have c2:m.p.1≤a:=by omega
    repeat refine HS ?_
    rfl
 rw [if_neg o10]
 by_cases o11:op=11
 ·subst o11
  rw [if_pos rfl]
  have TD:v<4:=by simpa using Cz v (by simp)
  by_cases ha:1≤a∧a≤m.p.1-1
  ·obtain ⟨b',gS,e1,e2⟩:=LZ h hi hn (r:=r) (hh:=hh) (v:=v) (a:=a) (bb:=bb) (t:=t) ⟨y9,TD⟩ ha
   refine ⟨b',gS,d14,d15,d16,d17,d18,?_,e2⟩
   unfold g.aN
   simp only [hb]
   repeat refine HS ?_
   rfl
  ·have hg:m.gate n v a=m.code 11:=by unfold M.gate;rw [if_pos (kh.2 ha)]
   rw [hg]
   refine ⟨b,d11,d14,d15,d16,d17,d18,?_,h⟩
   unfold g.aN
   simp only [hb]
   by_cases c1:a<1
   ·repeat refine HS ?_
    rfl
   ·have c2:m.p.1≤a:=by omega
    repeat refine HS ?_
    rfl
 rw [if_neg o11]
 refine ⟨b,d11,d14,d15,d16,d17,d18,?_,h⟩
 unfold g.aN
 repeat refine HS ?_
 rfl
end
open Go.Bm Go.jG
theorem F4 {a c:Bool} {N k:Nat} (hk:k<N):(List.replicate k a++List.replicate (N-k) c).set k a=List.replicate (k+1) a++List.replicate (N-(k+1)) c:=by
 rw [show N-k=(N-(k+1))+1 by omega,List.replicate_succ,List.set_append_right _ _ (by simp)]
 simp only [List.length_replicate,Nat.sub_self,List.set_cons_zero]
 rw [List.replicate_succ',List.append_assoc];rfl
theorem A5 {cn n:Int} (hn:0≤n∧n≤100000) (d13:kt) (d16:gT) :
  g.jQ cn n d13 d16=some (((some d13.length),()),((cat d13 [(cn,some d16.length)]),((cat d16 [some (List.replicate (n / 8).toNat true)]),()))):=by
 have q1:iI .i64 n 8=n / 8:=a9 (by omega)
 have e1:∀d,nth d (cat d13 [(cn,some (len d16))]) (len d13)=(cn,some (len d16)):=fun d=>rZ
 unfold g.jQ
 rw [q1]
 generalize hN:(n / 8).toNat=N
 have hNb:N≤100000:=by omega
 have hnN:nN (n / 8)=N:=hN
 rw [hnN]
 repeat refine HS ?_
 refine dN (fun k=>(((k:Int),()),((),((),((),((cat d16 [some (List.replicate k true++List.replicate (N-k) false)]),())))))) (fun _=>some (((some d13.length),()),((cat d13 [(cn,some d16.length)]),((cat d16 [some (List.replicate N true)]),())))) N (by unfold lD;omega) (fun F=>?_) (fun k hk=>.inr ⟨rfl,fun F=>?_⟩)
 ·have h3:aE (cat d16 [some (List.replicate N true++List.replicate (N-N) false)]) (len d16)=some (List.replicate N true++List.replicate (N-N) false):=dn
  have hl:(List.replicate N true++List.replicate (N-N) false).length=N:=by simp
  unfold g.j6
  dsimp only
  simp only [e1]
  repeat refine HS ?_
  rw [Nat.sub_self]
  simp only [List.replicate_zero,List.append_nil]
  rfl
 ·have h3:aE (cat d16 [some (List.replicate k true++List.replicate (N-k) false)]) (len d16)=some (List.replicate k true++List.replicate (N-k) false):=dn
  have hl:(List.replicate k true++List.replicate (N-k) false).length=N:=by simp;omega
  unfold g.j6
  dsimp only
  simp only [e1]
  rw [uE (by omega)]
  repeat refine HS ?_
  rw [uN,←F4 hk]
  rfl
abbrev NwS:Type:=((Int×Unit)×(Unit×(Unit×(Unit×(lG×(iK×(T4×Unit)))))))
def Tt (i:Int) (d12:lG) (d14:iK) (d15:T4):NwS:=((i,()),((),((),((),(d12,(d14,(d15,())))))))
abbrev NwR:Type:=(((Option Nat)×Unit)×(lG×(kt×(iK×(T4×(gT×Unit))))))
theorem SY {fr sz:Int} (h:0≤fr∧fr%8=0∧0≤sz∧sz%8=0):GB fr (fr+sz) (List.replicate (sz / 8).toNat true) (if 0<sz then [(fr,sz)] else []):=by
 refine ⟨by rw [List.length_replicate];omega,?_,fun i hi=>?_⟩
 ·split
  ·exact List.pairwise_singleton _ _
  ·exact List.Pairwise.nil
 ·rw [List.length_replicate] at hi
  rw [if_pos (by omega),qg,zA,List.getElem?_replicate,if_pos hi]
  simp only [Option.getD_some,true_iff]
  omega
theorem AX {p:rA} (hp:dz p=true) (d12:lG) (d13:kt) (d14:iK) (d15:T4) (d16:gT) (f:List (List iw)) :
  ∃y:YN,∃wq Ly rj rh yb,g.jN p d12 d13 d14 d15 d16=some (((some y.s),()),(wq,(Ly,(rj,(rh,(yb,()))))))∧uJ y (M.new p f).fr (M.new p f).en (M.new p f).sc (M.new p f).fl wq Ly rj rh yb:=by
 have hpi:=cL.1 hp
 have hI:=tn hp
 have hH:=yB hp
 have hG:=A5 (cn:=p.1*64+p.2.2.1) (n:=p.2.2.2) (by omega) d13 d16
 let Q:Option NwR→Prop:=fun R=>∃y:YN,∃wq Ly rj rh yb,R=some (((some y.s),()),(wq,(Ly,(rj,(rh,(yb,()))))))∧uJ y (M.new p f).fr (M.new p f).en (M.new p f).sc (M.new p f).fl wq Ly rj rh yb
 show Q _
 unfold g.jN
 refine Jf (fun r (st:NwS)=>∃(i:Nat) (wq:lG) (rj:iK) (rh:T4),r+i=p.1.toNat∧st=Tt (i:Int) wq rj rh ∧
   ((i=0∧wq[d12.length]?=some (none,(none,none)))∨(0<i∧∃c x,wq[d12.length]?=some (some c,(some x,none))∧aE rj c=some (List.replicate i (0,(0,(-1,0))))∧aE rh x=some (List.replicate i (0,0))))) Q ?_ (m:=p.1.toNat)
  ⟨0,cat d12 [(none,(none,none))],d14,d15,by omega,rfl,.inl ⟨rfl,by simp [cat]⟩⟩ (by unfold lD;omega)
 rintro r st ⟨i,wq,rj,rh,hri,rfl,qF⟩
 have hld:len d12=d12.length:=rfl
 by_cases dP:i<p.1.toNat
 ·refine .inr ⟨r-1,?_⟩
  rcases qF with ⟨h0,h1⟩ | ⟨h0,c,x,h1,h2,h3⟩
  ·have e1:∀d,nth d wq d12.length=(none,(none,none)):=fun d=>bj h1
   have en:∀f:(Option Nat×(Option Nat×Option Nat))→_,nth (none,(none,none)) (aw (none,(none,none)) wq d12.length f) d12.length=f (none,(none,none)):=fun f=>by
    unfold aw;rw [e1];exact bj (jX h1)
   refine ⟨Tt ((i+1:Nat):Int) (aw (none,(none,none)) wq d12.length (fun r=>(some rj.length,(some rh.length,r.2.2)))) (cat rj [some [(0,(0,(-1,0)))]]) (cat rh [some [(0,0)]]),by omega,⟨i+1,_,_,_,by omega,rfl,.inr ⟨by omega,rj.length,rh.length,?_,?_,?_⟩⟩,fun G=>?_⟩
   ·unfold aw;rw [e1];exact jX h1
   ·rw [h0];exact dn
   ·rw [h0];exact dn
   ·unfold g.gW Tt
    dsimp only
    simp only [hld,e1,l4,en]
    rw [uE (by omega)]
    repeat refine HS ?_
    rfl
  ·have e1:∀d,nth d wq d12.length=(some c,(some x,none)):=fun d=>bj h1
   have en:∀f:(Option Nat×(Option Nat×Option Nat))→_,nth (none,(none,none)) (aw (none,(none,none)) wq d12.length f) d12.length=f (some c,(some x,none)):=fun f=>by
    unfold aw;rw [e1];exact bj (jX h1)
   have TH:(List.replicate i ((0,(0,(-1,0))):Int×Int×Int×Int)).length=i:=List.length_replicate
   have xh:(List.replicate i ((0,0):Int×Int)).length=i:=List.length_replicate
   have sB:=jY h2
   have hxl:=jY h3
   refine ⟨Tt ((i+1:Nat):Int) (aw (none,(none,none)) wq d12.length (fun r=>(some (len (aT rj c none)),(some (len (aT rh x none)),r.2.2)))) (cat (aT rj c none) [some (cat (List.replicate i (0,(0,(-1,0)))) [(0,(0,(-1,0)))])]) (cat (aT rh x none) [some (cat (List.replicate i (0,0)) [(0,0)])]),by omega,⟨i+1,_,_,_,by omega,rfl,.inr ⟨by omega,len (aT rj c none),len (aT rh x none),?_,?_,?_⟩⟩,fun G=>?_⟩
   ·unfold aw;rw [e1];exact jX h1
   ·rw [List.replicate_succ'];exact dn
   ·rw [List.replicate_succ'];exact dn
   ·unfold g.gW Tt
    dsimp only
    simp only [hld,e1,l4,en]
    rw [uE (by omega)]
    repeat refine HS ?_
    rfl
 ·rcases qF with ⟨h0,h1⟩ | ⟨h0,c,x,h1,h2,h3⟩
  ·omega
  ·have hip:(i:Int)=p.1:=by omega
   obtain ⟨i',rfl⟩:∃i',i=i'+1:=⟨i-1,by omega⟩
   have e1:∀d,nth d wq d12.length=(some c,(some x,none)):=fun d=>bj h1
   have TH:(List.replicate (i'+1) ((0,(0,(-1,0))):Int×Int×Int×Int)).length=i'+1:=List.length_replicate
   have xh:(List.replicate (i'+1) ((0,0):Int×Int)).length=i'+1:=List.length_replicate
   have hpm:(p.1-1).toNat=i':=by omega
   refine .inl ⟨_,⟨⟨d12.length,c,x,d13.length,d16.length⟩,aw (none,(none,none)) wq d12.length (fun Aj=>(Aj.1,(Aj.2.1,(some d13.length)))),cat d13 [(p.1*64+p.2.2.1,some d16.length)],aT rj c (some (aT (List.replicate (i'+1) (0,(0,(-1,0)))) 0 (2,(1,(-1,0))))),aT rh x (some (aT (List.replicate (i'+1) (0,0)) 0 (p.1*64,p.2.2.1))),cat d16 [some (List.replicate (p.2.2.2 / 8).toNat true)],rfl,?_⟩,fun G=>?_⟩
   ·refine ⟨?_,?_,?_,?_,⟨_,dn,?_⟩⟩
    ·unfold aw;rw [e1];exact jX h1
    ·show (cat d13 _)[d13.length]?=_
     unfold cat;rw [zJ (by omega)];simp [M.fr,M.new]
    ·rw [aB h2]
     unfold M.new
     simp only [List.map_cons,List.map_replicate,hpm]
     rfl
    ·rw [aB h3]
     unfold M.new
     simp only [List.map_cons,List.map_replicate,hpm]
     rfl
    ·have:=SY (fr:=p.1*64+p.2.2.1) (sz:=p.2.2.2) (by omega)
     exact this
   ·unfold g.gW Tt
    dsimp only
    simp only [hld,e1]
    repeat refine HS ?_
    rfl
theorem Q3 {p:rA} (hp:dz p=true) (f:List (List iw)) (d11:l3) (d12:lG) (d13:kt) (d14:iK) (d15:T4) (d16:gT) (d17:lF) (d18:dQ) :
  ∃b HB wq Ly rj rh yb,g.hM p f d17 d18 d11 d12 d13 d14 d15 d16=some (((some d11.length),()),(HB,(wq,(Ly,(rj,(rh,(yb,())))))))∧YR d11.length (M.new p f) b HB wq Ly rj rh yb d17 d18∧b.O=[]:=by
 obtain ⟨y,wq,Ly,rj,rh,yb,hN,hY⟩:=AX hp d12 d13 d14 d15 d16 f
 have hpi:=cL.1 hp
 have BG:∀s:Int,(M.new p f).bA s=uI:=fun s=>by
  unfold M.bA M.new
  rw [zA,List.getElem?_replicate]
  split<;>rfl
 refine ⟨⟨y,none,[],[0,0,0,0,0,0,0,0],[0,0,0,0,0,0,0,0],[[0,0,0,0],[0,0,0,0],[0,0,0,0],[0,0,0,0]],[[],[],[],[]]⟩,cat d11 [(p,(f,(some y.s,(none,([0,0,0,0,0,0,0,0],([0,0,0,0,0,0,0,0],([[0,0,0,0],[0,0,0,0],[0,0,0,0],[0,0,0,0]],[[],[],[],[]])))))))],wq,Ly,rj,rh,yb,?_,⟨?_,hY,⟨fun o ho=>(by cases ho),fun s _ _=>(by rw [BG];rfl)⟩,Nat.zero_le _,.inl ⟨rfl,rfl⟩,fun q hq=>(by cases hq),List.Pairwise.nil,fun s h0 h1=>?_,fun s h0 h1=>?_,fun n h0 h1=>?_,fun n h0 h1=>?_⟩,rfl⟩
 ·unfold g.hM
  repeat refine HS ?_
  rfl
 ·show (cat d11 _)[d11.length]?=_
  unfold cat;rw [zJ (by omega)];simp [M.new]
 ·rw [BG]
  have h1:s<p.1:=h1
  have:s=0∨s=1∨s=2∨s=3∨s=4∨s=5∨s=6∨s=7:=by omega
  rcases this with rfl | rfl | rfl | rfl | rfl | rfl | rfl | rfl<;>rfl
 ·rw [BG]
  have h1:s<p.1:=h1
  have:s=0∨s=1∨s=2∨s=3∨s=4∨s=5∨s=6∨s=7:=by omega
  rcases this with rfl | rfl | rfl | rfl | rfl | rfl | rfl | rfl<;>rfl
 ·have hl:(M.new p f).th.length=p.2.1.toNat:=List.length_replicate
  have ht:(M.new p f).aA n=⟨[0,0,0,0],[]⟩:=by
   unfold M.aA
   show (List.replicate p.2.1.toNat _).getD _ _=_
   rw [zA,List.getElem?_replicate,if_pos (by omega)];rfl
  rw [ht]
  have:n=0∨n=1∨n=2∨n=3:=by omega
  rcases this with rfl | rfl | rfl | rfl<;>rfl
 ·have hl:(M.new p f).th.length=p.2.1.toNat:=List.length_replicate
  have ht:(M.new p f).aA n=⟨[0,0,0,0],[]⟩:=by
   unfold M.aA
   show (List.replicate p.2.1.toNat _).getD _ _=_
   rw [zA,List.getElem?_replicate,if_pos (by omega)];rfl
  rw [ht]
  have:n=0∨n=1∨n=2∨n=3:=by omega
  rcases this with rfl | rfl | rfl | rfl<;>rfl
end Go.Proofs.YtihiooaimdoapaaGreat
namespace Go.jG
open Go.Bm
end Go.jG
namespace Go.Proofs.YtihiooaimdoapaaGreat
open Go.Bm Go.jG
theorem PR (m:M) (aF:List cW) (v:Int) (scope:Int) (to:M) (h:to.p=m.p):(m.put aF v scope to).1.p=m.p:=by
 unfold M.put
 split
 ·exact h
 ·split
  ·rfl
  ·cases (m.check aF v).1 with
   | none=>rfl
   | some o=>
    dsimp only
    split
    ·rfl
    ·exact h
theorem Md (m:M) (n a:Int):(m.enter n a).1.p=m.p:=by
 unfold M.enter
 split
 ·rfl
 ·split
  ·rfl
  ·split<;>rfl
theorem Ew (m:M) (n s:Int) (l:List cW) (a:LF):(m.leave n s l a).1.p=m.p:=by
 unfold M.leave
 split<;>rfl
theorem Ra (m:M) (n:Int):(m.exit n).1.p=m.p:=by
 unfold M.exit
 cases (m.aA n).aF.getLast? with
 | none=>rfl
 | some x=>
  dsimp only
  split
  ·rfl
  ·split
   ·split
    ·rfl
    ·exact Ew _ _ _ _ _
   ·exact Ew _ _ _ _ _
theorem Q9 (m:M) (n a:Int):(m.oj n a).1.p=m.p:=by
 unfold M.oj
 split
 ·rfl
 ·split
  ·rfl
  ·split<;>rfl
theorem Me (m:M) (n r a b c:Int):(m.alloc n r a b c).1.p=m.p:=by
 unfold M.alloc
 split
 ·rfl
 ·split<;>rfl
theorem Q8 (m:M) (n r h b:Int):(m.load n r h b).1.p=m.p:=by
 unfold M.load
 split
 ·rfl
 ·cases (m.check (m.aA n).aF (m.cT n h)).1 with
  | none=>rfl
  | some o=>dsimp only;split<;>rfl
theorem Mc (m:M) (n h v b:Int):(m.store n h v b).1.p=m.p:=by
 unfold M.store
 split
 ·rfl
 ·cases (m.check (m.aA n).aF (m.cT n h)).1 with
  | none=>rfl
  | some o=>
   dsimp only
   split
   ·rfl
   ·exact PR _ _ _ _ _ rfl
theorem IN (m:M) (n r a:Int):(m.fX n r a).1.p=m.p:=by
 unfold M.fX
 split
 ·rfl
 ·split<;>rfl
theorem Q_ (m:M) (n v a:Int):(m.gate n v a).1.p=m.p:=by
 unfold M.gate
 split
 ·rfl
 ·split
  ·rfl
  ·exact PR _ _ _ _ _ rfl
theorem Yk (m:M) (n:Int) (c:qm):(m.act n c).1.p=m.p:=by
 obtain ⟨op,r,h,v,a,b,d⟩:=c
 unfold M.act
 dsimp only
 by_cases h0:op=0
 ·rw [if_pos h0];rfl
 rw [if_neg h0]
 by_cases h1:op=1
 ·rw [if_pos h1];rfl
 rw [if_neg h1]
 by_cases h2:op=2
 ·rw [if_pos h2]
 rw [if_neg h2]
 by_cases h3:op=3
 ·rw [if_pos h3];rfl
 rw [if_neg h3]
 by_cases h4:op=4
 ·rw [if_pos h4];exact Md _ _ _
 rw [if_neg h4]
 by_cases h5:op=5
 ·rw [if_pos h5];exact Ra _ _
 rw [if_neg h5]
 by_cases h6:op=6
 ·rw [if_pos h6];exact Q9 _ _ _
 rw [if_neg h6]
 by_cases h7:op=7
 ·rw [if_pos h7];exact Me _ _ _ _ _ _
 rw [if_neg h7]
 by_cases h8:op=8
 ·rw [if_pos h8];exact Q8 _ _ _ _ _
 rw [if_neg h8]
 by_cases h9:op=9
 ·rw [if_pos h9];exact Mc _ _ _ _ _
 rw [if_neg h9]
 by_cases CA:op=10
 ·rw [if_pos CA];exact IN _ _ _ _
 rw [if_neg CA]
 by_cases E4:op=11
 ·rw [if_pos E4];exact Q_ _ _ _ _
 rw [if_neg E4];rfl
theorem Q7 (m:M) (n:Int) (c:qm):(m.step n c).1.p=m.p:=by
 unfold M.step
 split
 ·rfl
 ·split
  ·rfl
  ·exact Yk m n c
theorem tB {α σ:Type} {f:(σ→Option α)→σ→Option α} (I:Nat→σ→Prop) (Q:Option α→Prop) (h:∀m s,I m s→∀g,(∀m' s',m' < m→I m' s'→Q (g s'))→Q (f g s)) {m:Nat} {s:σ} (hs:I m s) (hm:m<lD):Q (Go.Bm.loop f s):=by
 rw [qa]
 have key:∀n m s,m<n→I m s→Q (iter f n s):=by
  intro n
  induction n with
  | zero=>intro m s hm _;omega
  | succ n ih=>intro m s hm hI;exact h m s hI (iter f n) (fun m' s' GO Hz=>ih m' s' (by omega) Hz)
 exact key lD m s hm hs
abbrev Stp:Type:=Int×qm
def kl (m:M) (V:Int):List Int×Bool:=if (ay V).2≠0 then ([],false) else match m.find (ay V).1 with
 | none=>([],false)
 | some o=>(o.bg,true)
theorem v_ {m:M} {k:Nat} (hi:MI k m) {r:jl} (h:m.p.1≤r.1):m.find r=none:=by
 have TG:=hi.la
 unfold M.find M.bA
 rw [zA,zb (by omega)];rfl
section
variable {c0:T0} {c1:T1} {d0:T2} {d1:T3} {d2:T4} {d3:T5} {d4:T6} {d5:T7} {d6:T8} {d7:T9} {d8:dQ} {md:Nat} {m:M} {k:Nat}
theorem NT (h:St c0 c1 d0 d1 d2 d3 d4 d5 d6 d7 d8 md k m) {V:Int} (hV:u64 V) :
  g.fy md V c0 c1 d0 d1 d2 d3 d4 d5 d6 d7 d8=some (((kl m V).1,((kl m V).2,())),()):=by
 obtain ⟨⟨N,L,es,hm⟩,hi,hc⟩:=h
 have hU:=nV hV
 have b5:=wD hm
 have oJ:nth [] d5 N.mp=es:=bj hm.mp
 unfold kl
 by_cases h1:(ay V).2=0
 rotate_left
 ·rw [if_pos h1]
  unfold g.fy
  refine (Cg hU).trans ?_
  repeat refine HS ?_
  rfl
 rw [if_neg (by simpa using h1)]
 have h0:0≤(ay V).1.1:=(cS.1 (gH h1).1).1.1
 rcases hm.get hi (ay V).1 h0 with ⟨g1,g2⟩ | ⟨p,x,j,g1,g2,g3,g4,g6⟩
 ·rw [g1]
  rw [←oJ] at g2
  unfold g.fy
  refine (Cg hU).trans ?_
  repeat refine HS ?_
  refine Eq.trans (tZ g2) ?_
  rfl
 ·rw [g1]
  obtain ⟨q1,q2⟩:=hm.ob _ _ _ g4
  have hs:x.2.2.bg.length≤6:=by
   have qX:(ay V).1.1<m.p.1:=by
    rcases Int.lt_or_le (ay V).1.1 m.p.1 with h | h
    ·exact h
    ·rw [v_ hi h] at g1;cases g1
   have:=(hi.wO ⟨h0,qX⟩).2.ob x.2.2 (List.mem_of_find?_eq_some g1)
   exact this.2.2.2.2.2.2.1
  have e8:nth ((0,(0,0)),(0,(none,false))) d6 x.1=(x.2.2.ref,(x.2.2.tag,(some x.2.1,x.2.2.done))):=bj q1
  rw [←oJ] at g2
  have uD:g.g9 (some x.2.1) d8=some ((x.2.2.bg,()),()):=by
   unfold g.g9
   refine (ba).trans ?_
   refine (Cg q2).trans ?_
   unfold g.iA
   repeat refine HS ?_
   rfl
  unfold g.fy
  refine (Cg hU).trans ?_
  repeat refine HS ?_
  refine (rV g2).trans ?_
  repeat refine HS ?_
  rw [e8]
  repeat refine HS ?_
  rfl
end
section
variable {yd:Nat} {m:M} {b:YB} {d11:l3} {d12:lG} {d13:kt} {d14:iK} {d15:T4} {d16:gT} {d17:lF} {d18:dQ} {k:Nat}
theorem abv (N:Nat):∀(O:List RO) (K:Nat),(∀o∈O,0≤o.gp∧o.gp<(N:Int))→(∀s:Int,0≤s→s<N→(O.filter (oc s)).length≤K)→O.length≤N*K:=by
 induction N with
 | zero=>
  intro O K h1 _
  cases O with
  | nil=>simp
  | cons o l=>have:=h1 o (zV ..);omega
 | succ N ih=>
  intro O K h1 h2
  have hk:∀(l:List RO),l.length=(l.filter (oc (N:Int))).length+(l.filter fun o=>!oc (N:Int) o).length:=fun l=>by
   induction l with
   | nil=>rfl
   | cons o l Li=>
    cases hh:oc (N:Int) o with
    | true=>rw [List.filter_cons_of_pos hh,List.filter_cons_of_neg (by simp [hh]),zR,zR];omega
    | false=>rw [List.filter_cons_of_neg (by simp [hh]),List.filter_cons_of_pos (by simp [hh]),zR,zR];omega
  have h3:=hk O
  have h4:=h2 (N:Int) (by omega) (by omega)
  have h5:=ih (O.filter fun o=>!oc (N:Int) o) K (fun o ho=>by
   obtain ⟨o1,o2⟩:=List.mem_filter.1 ho
   have:=h1 o o1
   have h6:¬o.gp=(N:Int):=fun e=>by rw [fh.2 e] at o2;cases o2
   omega) (fun s h0 hs=>by
   have:=h2 s h0 (by omega)
   rw [List.filter_filter]
   refine Nat.le_trans ?_ this
   exact (List.Sublist.length_le (by
    have:((fun a=>oc s a && !oc (N:Int) a):RO→Bool)=fun a=>(fun a=>!oc (N:Int) a) a && oc s a:=by funext a;exact Bool.and_comm _ _
    rw [this,←List.filter_filter];exact List.filter_sublist)))
  rw [Nat.succ_mul]
  omega
theorem YR.adT (h:YR yd m b d11 d12 d13 d14 d15 d16 d17 d18) (hi:MI k m):b.O.length≤8*k:=by
 have hp:=hi.vI
 have:=abv m.p.1.toNat b.O k (fun o ho=>by have:=h.ob.rg o ho;omega) (fun s h0 h1=>by
  have h2:=h.ob.ob s h0 (by omega)
  have h3:=(hi.wO (i:=s) (by omega)).2.ol
  rw [←h2,zH] at h3;exact h3)
 have h2:m.p.1.toNat*k≤8*k:=zW k (by omega)
 omega
theorem Iv (h:YR yd m b d11 d12 d13 d14 d15 d16 d17 d18) (hi:MI k m) {V:Int} (hV:u64 V) :
  ∃x,g.cN yd V d11 d12 d13 d14 d15 d16 d17 d18=some ((x,((kl m V).2,())),())∧((x=none∧(kl m V).1=[])∨∃j,x=some j∧aE d18 j=some (kl m V).1):=by
 have hb:=h.nx
 have hU:=mf hV
 have Cw:=h.ol
 unfold kl
 by_cases h1:(ay V).2=0
 rotate_left
 ·rw [if_pos h1]
  refine ⟨none,?_,.inl ⟨rfl,rfl⟩⟩
  unfold g.cN
  repeat refine HS ?_
  rfl
 rw [if_neg (by simpa using h1)]
 have h0:0≤(ay V).1.1:=(cS.1 (gH h1).1).1.1
 by_cases h2:m.p.1≤(ay V).1.1
 ·rw [v_ hi h2]
  refine ⟨none,?_,.inl ⟨rfl,rfl⟩⟩
  unfold g.cN
  simp only [hb]
  repeat refine HS ?_
  rfl
 have hF:=DQ h hi (r:=(ay V).1) (by omega)
 cases hf:m.find (ay V).1 with
 | none=>
  rw [vZ h (by omega) hf] at hF
  refine ⟨none,?_,.inl ⟨rfl,rfl⟩⟩
  unfold g.cN
  simp only [hb]
  repeat refine HS ?_
  rfl
 | some o=>
  obtain ⟨i,q,q1,q2,q3,q4,q5,q6⟩:=vY h hi (r:=(ay V).1) (by omega) hf
  rw [q6] at hF
  have Y6:i<b.O.length:=(zB.1 q1).1
  have xh:(b.O.map ro).length=b.O.length:=zH ..
  obtain ⟨j,w1,w2⟩:∃j,b.o=some j∧aE d17 j=some (b.O.map ro):=by
   rcases h.ow with ⟨_,w2⟩ | w
   ·rw [w2] at q1;simp at q1
   ·exact w
  have JO:(nth (0,(0,(0,(none,false)))) (b.O.map ro) (nN (i:Int))).2.2.2.1=some q.nm:=by rw [K7 q1];rfl
  refine ⟨some q.nm,?_,.inr ⟨q.nm,rfl,by rw [h.sl q (zG q1),q5];rfl⟩⟩
  unfold g.cN
  simp only [hb,w1]
  repeat refine HS ?_
  rfl
end
end Go.Proofs.YtihiooaimdoapaaGreat
namespace Go.Bm
section
open Go.RowKit Go.ChangeShapes Go.WideShapes Go.Deep
def sm (W:World):Mem:=fun b o=>(W.cell? ⟨b,o,none⟩).filter (·.oneCell')
theorem Jb {W:World} {b o:Nat} {x:Value} (h:W.cell? ⟨b,o,none⟩=some x) (h1:x.oneCell'=true):sm W b o=some x:=by simp [sm,h,h1]
theorem He {W:World} {b o:Nat} {x:Value} (h:W.cell? ⟨b,o,none⟩=some x):∃cur ty fz,W.heap[b]?=some (.cells cur ty fz)∧cur[o]?=some x:=by
 unfold World.cell? at h
 split at h
 ·rename_i c ty fz hb
  simp at h
  exact ⟨c,ty,fz,hb,h⟩
 ·cases h
def inR (k:IntKind) (a:Int):Prop:=k.min≤a∧a≤k.max
def Hs:(t:Ty)→t.T→Prop
 | .int k,a=>inR k a
 | .bool,_=>True
 | .unit,_=>True
 | .pair a b,x=>Hs a x.1∧Hs b x.2
 | .arr n t,l=>List.length (α:=t.T) l=n∧∀x:t.T,List.Mem (α:=t.T) x l→Hs t x
 | .cB t,l=>List.length (α:=t.T) l≤maxLen∧∀x:t.T,List.Mem (α:=t.T) x l→Hs t x
 | _,_=>False
def K3 (P:Program) (W:World) (t:TypeId) (u:Ty):Prop:=
 ∀(H:Type) (enc:TypeId×Value→H) (n:Nat) (cs:List Value) (x:DataW H×List MemPlace),DataW.trod enc P W 0 (fun _=>true) true n t cs=some x→∃a:u.T,nh (sm W) (eH u a) cs∧Hs u a
theorem xK {α:Type} {Q:Nat→α→Prop}:∀n:Nat,(∀i,i<n→∃x,Q i x)→∃xs:List α,xs.length=n∧∀(i:Nat) (x:α),xs[i]?=some x→Q i x
 | 0,_=>⟨[],rfl,fun i x h=>by simp at h⟩
 | n+1,h=>by
  obtain ⟨xs,h1,h2⟩:=xK n (fun i hi=>h i (by omega))
  obtain ⟨x,hx⟩:=h n (by omega)
  refine ⟨xs++[x],by simp [h1],fun i y hy=>?_⟩
  by_cases hi:i<xs.length
  ·rw [zK hi] at hy;exact h2 i y hy
  ·rw [zJ (by omega)] at hy
   have:=(zB.1 hy).1
   have e:i-xs.length=0:=by simp at this;omega
   rw [e] at hy
   simp at hy
   subst hy
   rw [show i=n by omega];exact hx
theorem Hc {W:World} {base n:Nat} {a:Addr} {cs:List Value} (h:W.cells? base a n=some cs) (k:Nat) (x:Value) (hk:cs[k]?=some x):W.cell? (a.add k)=some x:=by
 unfold World.cells? at h
 split at h
 ·have hlen:=mapM_some_length h
  have dP:=(zB.1 hk).1
  rw [List.length_range] at hlen
  rw [←hk]
  exact mapM_some_get h k k (by rw [List.getElem?_range (by omega)])
 ·cases h
theorem AQ {α:Type} {M:Mem} {f:α→List D}:∀ps:List (α×List Value),(∀q∈ps,nh M (f q.1) q.2)→nh M (ps.map fun q=>f q.1).flatten (ps.map (·.2)).flatten
 | [],_=>⟨rfl,by simp⟩
 | q::ps,h=>by
  rw [List.map_cons,List.map_cons,List.flatten_cons,List.flatten_cons]
  exact (h q (zV ..)).append (AQ ps (fun r hr=>h r (zT _ hr)))
theorem AP {α:Type} {M:Mem} {b sz:Nat}:∀(ps:List (α×List Value)) (off:Nat),(∀(i:Nat) (q:α×List Value),ps[i]?=some q→q.2.length=sz∧∀(k:Nat) (x:Value),q.2[k]?=some x→M b (off+i*sz+k)=some x) →
  ∀(j:Nat) (x:Value),(ps.map (·.2)).flatten[j]?=some x→M b (off+j)=some x
 | [],_,_,j,x,h=>by simp at h
 | q::ps,off,h,j,x,hj=>by
  obtain ⟨h1,h2⟩:=h 0 q rfl
  rw [List.map_cons,List.flatten_cons] at hj
  by_cases dP:j<q.2.length
  ·rw [zK dP] at hj
   simpa using h2 j x hj
  ·rw [zJ (by omega)] at hj
   have:=AP ps (off+sz) (fun i r hr=>by
    obtain ⟨k1,k2⟩:=h (i+1) r (by simpa using hr)
    refine ⟨k1,fun k x hk=>?_⟩
    have:=k2 k x hk
    rwa [show off+sz+i*sz+k=off+(i+1)*sz+k by rw [Nat.add_mul];omega]) _ x hj
   rwa [show off+sz+(j-q.2.length)=off+j by omega] at this
theorem nh.qo {M:Mem} {d:D} {v:Value} (h:VD M d v):nh M [d] [v]:=⟨rfl,fun j c x k1 k2=>by
 cases j with
 | zero=>simp at k1 k2;subst k1 k2;exact h
 | succ j=>simp at k1⟩
theorem nh.cut {M:Mem} {ds es:List D} {cs:List Value} (n:Nat) (h1:nh M ds (cs.take n)) (h2:nh M es (cs.drop n)):nh M (ds++es) cs:=by
 have:=h1.append h2
 rwa [zP] at this
theorem nh.adI {M:Mem} {ds:List D} {vs:List Value} (h:nh M ds vs):∀x∈vs,x.oneCell'=true:=fun x hx=>by
 obtain ⟨j,hj⟩:=List.getElem?_of_mem hx
 have hl:=(zB.1 hj).1
 exact (h.2 j _ x (zD (by rw [h.1];exact hl)) hj).one
section
variable {P:Program} {W:World}
theorem mg {t:TypeId} {k:IntKind} (ht:P.underlying t=some (.int k)):K3 P W t (.int k):=by
 intro H enc n cs x h
 obtain ⟨a,rfl,_,hw⟩:=DataW.trod_int ht h
 refine ⟨a,.qo (.v _ rfl),?_⟩
 have hw:(decide (k.min≤a) && decide (a≤k.max))=true:=hw
 rw [zC] at hw
 exact ⟨of_decide_eq_true hw.1,of_decide_eq_true hw.2⟩
theorem It {t e:TypeId} {u:Ty} (ht:P.underlying t=some (.slice e)) (he:P.cellsOf e=u.size) (h0:0<u.size) (h:K3 P W e u):K3 P W t (.cB u):=by
 intro H enc n cs x hx
 rcases open_slice ht hx with ⟨rfl,_⟩ | ⟨a,len,cap,m,n',D',Pl,rfl,hb,hl,hm,hmm,_,zh⟩
 ·exact ⟨([]:List u.T),.qo (.wR u.size false none),Nat.zero_le _,fun x hx=>by cases hx⟩
 ·have GO:m=cap:=by simpa using hmm
  by_cases hc:cap=0
  ·subst hc
   have:len=0:=by omega
   subst this
   exact ⟨([]:List u.T),.qo (.wR u.size false _),Nat.zero_le _,fun x hx=>by cases hx⟩
  ·obtain ⟨b,off,sp⟩:=a
   have Ln:sp=none:=by
    obtain ⟨kq,k1,_⟩:=zh 0 (by omega)
    obtain ⟨_,hlen,E3⟩:=World.cells?_some k1
    have g0:=E3 0 (by omega)
    obtain ⟨c0,Lv⟩:∃c0,kq[0]?=some c0:=by
     cases kq with
     | nil=>simp at hlen;omega
     | cons c _=>exact ⟨c,rfl⟩
    rw [Lv] at g0
    simpa [Addr.add] using World.cell?_spot g0
   subst Ln
   obtain ⟨ps,h1,h2⟩:=xK (Q:=fun i (q:u.T×List Value)=>W.cells? 0 ((⟨b,off,none⟩:Addr).add (i*P.cellsOf e)) (P.cellsOf e)=some q.2∧nh (sm W) (eH u q.1) q.2∧Hs u q.1) len (fun i hi=>by
    obtain ⟨kq,k1,k2⟩:=zh i (by omega)
    obtain ⟨x,k3,k4⟩:=h H enc n' kq _ k2
    exact ⟨(x,kq),k1,k3,k4⟩)
   have GN:∀q∈ps,nh (sm W) (eH u q.1) q.2:=fun q hq=>by
    obtain ⟨i,hi⟩:=List.getElem?_of_mem hq
    exact (h2 i q hi).2.1
   refine ⟨ps.map (·.1),.qo ?_,?_,fun x su=>?_⟩
   ·have hlen:((ps.map (·.1)).map (eH u)).length=len:=by simp [h1]
    have hv:=AQ ps GN
    have xY:((ps.map (·.1)).map (eH u)).flatten=(ps.map fun q=>eH u q.1).flatten:=by rw [List.map_map];rfl
    have:=VD.sl (M:=sm W) u.size false ((ps.map (·.1)).map (eH u)) (some (b,off)) cap (ps.map (·.2)).flatten (by
     intro e' he'
     obtain ⟨x,_,rfl⟩:=List.mem_map.1 he'
     exact fO u x) (by rw [hlen];exact hl) (fun h=>by cases h) (fun h=>by cases h) hm (by rw [xY];exact hv.1) (fun p j x hp hj=>by
     cases hp
     refine AP (M:=sm W) (b:=b) (sz:=u.size) ps off (fun i q hq=>?_) j x hj
     obtain ⟨k1,k2,_⟩:=h2 i q hq
     refine ⟨by rw [←k2.1,fO],fun k x hk=>?_⟩
     refine Jb ?_ (k2.adI x (zG hk))
     have E3:=Hc k1 k x hk
     rw [he] at E3
     simpa [Addr.add_lit] using E3) (fun j c x e1 e2=>hv.2 j c x (by rw [←xY];exact e1) e2)
    rw [hlen] at this
    exact this
   ·show (ps.map (·.1)).length≤maxLen
    simp [h1];omega
   ·have su:x∈ps.map (·.1):=su
    obtain ⟨q,hq,rfl⟩:=List.mem_map.1 su
    obtain ⟨i,hi⟩:=List.getElem?_of_mem hq
    exact (h2 i q hi).2.2
inductive TX (P:Program) (W:World):List Field→Nat→Ty→Prop
 | one {fd:Field} {off:Nat} {a:Ty} (h:K3 P W fd.type a) (ho:fd.offset=off) (hs:P.cellsOf fd.type=a.size):TX P W [fd] off a
 | cons {fd:Field} {fs:List Field} {off:Nat} {a b:Ty} (h:K3 P W fd.type a) (ho:fd.offset=off) (hs:P.cellsOf fd.type=a.size) (k:TX P W fs (off+a.size) b):TX P W (fd::fs) off (.pair a b)
theorem TX.read {H:Type} {enc:TypeId×Value→H} {n:Nat} {cs:List Value} {fs:List Field} {off:Nat} {u:Ty} (h:TX P W fs off u):cs.length=off+u.size →
  (∀fd∈fs,∃x,DataW.trod enc P W 0 (fun _=>true) true n fd.type ((cs.drop fd.offset).take (P.cellsOf fd.type))=some x)→∃a:u.T,nh (sm W) (eH u a) (cs.drop off)∧Hs u a:=by
 induction h with
 | one h ho hs=>
  intro hl hx
  obtain ⟨x,YM⟩:=hx _ (zV ..)
  obtain ⟨a,a1,a2⟩:=h H enc n _ x YM
  refine ⟨a,?_,a2⟩
  rw [ho,hs,za (by simp;omega)] at a1
  exact a1
 | cons h ho hs k ih=>
  rename_i fd fs off a b
  intro hl hx
  have hl:cs.length=off+(a.size+b.size):=hl
  obtain ⟨x,YM⟩:=hx fd (zV ..)
  obtain ⟨y,a1,a2⟩:=h H enc n _ x YM
  obtain ⟨z,b1,b2⟩:=ih (by omega) (fun fd' hm=>hx fd' (zT _ hm))
  refine ⟨(y,z),?_,a2,b2⟩
  rw [ho,hs] at a1
  refine nh.cut (ds:=eH a y) (es:=eH b z) a.size a1 ?_
  rw [List.drop_drop];exact b1
theorem rS {t:TypeId} {fs:Array Field} {u:Ty} (ht:P.underlying t=some (.struct fs)) (hl:P.cellsOf t=u.size) (h:TX P W fs.toList 0 u):K3 P W t u:=by
 intro H enc n cs x hx
 obtain ⟨xs,m,_,_,sB,hxl,hf⟩:=DataW.trod_struct ht hx
 obtain ⟨a,d1,d2⟩:=h.read (H:=H) (enc:=enc) (n:=m) (cs:=cs) (by rw [sB,hl,Nat.zero_add]) (fun fd hm=>by
  obtain ⟨i,hi⟩:=List.getElem?_of_mem hm
  have Qe:fs[i]?=some fd:=by simpa using hi
  have h1:=hf i fd Qe
  have dP:i<fs.size:=(Array.getElem?_eq_some_iff.1 Qe).1
  exact ⟨xs[i]'(by omega), by rw [h1]; exact zD (by omega)⟩)
 rw [List.drop_zero] at d1
 exact ⟨a,d1,d2⟩
def Nd (W:World):G:=⟨fun _=>none,sm W,fun _=>none⟩
theorem Inv.start {S:Hp} (hS:∀o,S.ob o=none):Inv (Nd W) S W where
 cells:=fun o cs h=>by rw [hS] at h;cases h
 d_:=fun o x h=>by rw [hS] at h;cases h
 fresh:=fun _ _=>rfl
 lt:=fun o b s h=>by cases h
 inj:=fun o o' x x' b s s' h=>by rw [hS] at h;cases h
 mem:=fun b i x h=>by
  have h:(W.cell? ⟨b,i,none⟩).filter (·.oneCell')=some x:=h
  rw [Option.filter_eq_some_iff] at h
  exact He h.1
 o_:=fun o b s i x h=>by rw [hS] at h;cases h
 lp:=fun b l h=>by cases h
theorem Is {t:TypeId} {u:Ty} {H:Type} {enc:TypeId×Value→H} {v:Value} {dd:DataW H} {p:List MemPlace} (hr:K3 P W t u) (hd:u.data=true) (hc:v.cells.toList=[v]) (h:DataW.Trod enc P W 0 (fun _=>true) true t v dd p) :
  ∃a:u.T,V (Nd W) (da false u a) v∧Hs u a:=by
 obtain ⟨fuel,hf⟩:=h
 rw [hc] at hf
 obtain ⟨a,h1,h2⟩:=hr H enc fuel _ _ hf
 have h3:=nh.cells (g:=Nd W) u a _ hd h1
 refine ⟨a,?_,h2⟩
 show V (Nd W) (match aJ u a with | [c]=>c | _=>.dI) v
 obtain ⟨hl,h4⟩:=h3
 match he:aJ u a with
 | [c]=>exact (h4 0 c v (by rw [he];rfl) rfl).1
 | []=>exact .dI _
 | _::_::_=>exact .dI _
theorem L2 {t:TypeId} {u:Ty} {H:Type} {enc:TypeId×Value→H} {vs:Array Value} {dd:DataW H} {p:List MemPlace} (hr:K3 P W t u) (hd:u.data=true) (h:DataW.Trod enc P W 0 (fun _=>true) true t (.agg vs) dd p) :
  ∃a:u.T,V (Nd W) (da true u a) (.agg vs)∧Hs u a:=by
 obtain ⟨fuel,hf⟩:=h
 obtain ⟨a,h1,h2⟩:=hr H enc fuel _ _ hf
 have h3:=nh.cells (g:=Nd W) u a _ hd h1
 have h3:Vs (Nd W) (aJ u a) vs.toList:=by simpa [Value.cells] using h3
 exact ⟨a,by have:=h3.agg;simpa [da] using this,h2⟩
def emK:(k:RK)→k.T
 | .box t=>([]:List t.T)
 | .row t=>([]:List (Option (List t.T)))
 | .map _ tk _ tv=>([]:List (List (tk.T×tv.T)))
def G7:(l:List (Nat×RK))→wP l
 | []=>()
 | p::l=>(emK p.2,G7 l)
theorem Ip:∀(k:RK) (j:Nat),fp k (emK k) j=none
 | .box _,_=>rfl
 | .row _,_=>rfl
 | .map _ _ _ _,_=>rfl
theorem vh:∀(l:List (Nat×RK)) (r:Nat) (x:Rg),cj (eL l (G7 l)) r=some x→∀j,fp x.k x.c j=none
 | [],r,x,h,j=>by cases h
 | p::l,r,x,h,j=>by
  have h:(bif Nat.beq p.1 r then some (⟨p.1,p.2,emK p.2⟩:Rg) else cj (eL l (G7 l)) r)=some x:=h
  cases hp:Nat.beq p.1 r with
  | true=>rw [hp] at h;cases h;exact Ip p.2 j
  | false=>rw [hp] at h;exact vh l r x h j
theorem Nc (rl wl:List (Nat×RK)) (o:Nat):(hp (h0 rl wl (G7 rl) (G7 wl))).ob o=none:=by
 show (if o<dJ then ir .nil o else fq (eL wl (G7 wl)++eL rl (G7 rl)) o)=none
 split
 ·unfold ir;rw [Tr.get_nil]
 ·unfold fq
  rw [jM]
  cases h1:cj (eL wl (G7 wl)) (oM o) with
  | some x=>exact vh wl _ x h1 _
  | none=>
   simp only
   cases h2:cj (eL rl (G7 rl)) (oM o) with
   | some x=>exact vh rl _ x h2 _
   | none=>rfl
theorem Jk {f:FuncId} {sg:dR} {F:Plain sg} (h:bV P f sg F) (hrs:sg.rs=[(false,.bool)]) (x:mv sg.ps) {y:mv sg.rs} {d':wP sg.wg} (hF:F x (G7 sg.rg) (G7 sg.wg)=some (y,d')) (hy:wV sg.rs y = .v (.bool true)) {vs:List Value}
  (hl:(pK sg.ps x).length=vs.length) (hv:∀(i:Nat) (p:A) (v:Value),(pK sg.ps x)[i]?=some p→vs[i]?=some v→V (Nd W) p v) :
  Calls P f vs.toArray W fun e W'=>e = .returned (.bool true)∧Go.World.Since W.heap.size W W':=by
 obtain ⟨t,bF,lk,hp⟩:=h.pc x _ _ y d' hF
 refine (hp (Nd W) W vs (.start (Nc _ _)) hl hv).mono ?_
 rintro e W' ⟨v,g',rfl,h1,_,h3⟩
 rw [hy] at h1
 cases h1
 exact ⟨rfl,h3.os,h3.tape,h3.output,h3.size,fun k hk=>h3.frame k hk (by rintro ⟨o,s,x,_,e⟩;cases e)⟩
end
end
end Go.Bm
namespace Go.Proofs.YtihiooaimdoapaaGreat
open Go.Bm Go.jG
abbrev LwN:Type:=(((Option Nat)×(Int×Unit))×(T0×(T1×(T2×(T3×(T4×(T5×(T6×(T7×Unit)))))))))
abbrev LwD:Type:=(((Int×(Int×(List Int)))×(Int×Unit))×(T2×(T3×(T4×(T5×(T6×(T7×(T8×(T9×(dQ×Unit))))))))))
abbrev LwY:Type:=(((Option Nat)×Unit)×(l3×(lG×(kt×(iK×(T4×(gT×Unit)))))))
abbrev TZ:Type:=((Int×Unit)×(Unit×(Unit×(Unit×(T2×(T3×(T4×(T5×(T6×(T7×(T8×(T9×(dQ×(l3×(iK×(T4×(gT×(lF×(dQ×Unit)))))))))))))))))))
abbrev LwR:Type:=(Option ((Bool×Unit)×(T0×(T1×(T2×(T3×(T4×(T5×(T6×(T7×(T8×(T9×(dQ×(l3×(lG×(kt×(iK×(T4×(gT×(lF×(dQ×Unit)))))))))))))))))))))
def Tv (i:Int) (d0:T2) (d1:T3) (d2:T4) (d3:T5) (d4:T6) (d5:T7) (d6:T8) (d7:T9) (d8:dQ) (e:l3×(iK×(T4×(gT×(lF×(dQ×Unit)))))):TZ:=((i,()),((),((),((),(d0,(d1,(d2,(d3,(d4,(d5,(d6,(d7,(d8,e)))))))))))))
theorem LO {m:M} {n:Int} (hn:0≤n∧n<m.th.length) (c:qm):m.step n c=((if cC c=true then m.act n c else m.code 1).1,(if cC c=true then m.act n c else m.code 1).2,0):=by
 unfold M.step
 rw [if_neg (by rw [kh];omega)]
 cases h:cC c with
 | false=>rfl
 | true=>rfl
open Go.Bm
set_option maxRecDepth 1000000
set_option maxHeartbeats 0
open Go.Bm
def XS:dR:=⟨[(false,(.int .i64)),(true,(.pair (.int .i64) (.pair (.int .i64) (.pair (.int .i64) (.int .i64)))))],[(false,(.int .i64))],[],[]⟩
def g.eK (a0:Int) (a1:(Int×U4)):Av:=(br (cX 0 a0) (br (bw a0 1000) (gd (P4 a1.2.1) (some (((eg a0 a1.2.1),()),()))) (some ((a0,()),()))) (some ((a0,()),())))
def F32:Plain XS:=fun x c d=>g.eK x.1 x.2.1
theorem ahl:bV Tryz.prog 32 XS F32:=cw (aP) fun x c d=>by kernel_rfl
end Go.Proofs.YtihiooaimdoapaaGreat