/- Texts of one proof, put together: see each part. -/
import Derived.LoopNIn
import Derived.Test.YtklkjncibchelaaGreatRows
import Derived.Test.YtklkjncibchelaaGreatQB
set_option maxHeartbeats 2000000
noncomputable section
set_option linter.unusedVariables false
set_option linter.unusedSimpArgs false
namespace Go.Bm
section
open Go.RowKit
def vO {α:Type} (p:α→Bool):Option α→Bool
 | some x=>p x
 | none=>true
def tn {α:Type} (p:α→Bool) (t:Tr α):Bool:=
 Tr.rec (motive:=fun _=>Bool) true (fun _ v _ a b=>vO p v && a && b) t
theorem nf {α:Type} {p:α→Bool}:∀{t:Tr α} (_:tn p t=true) (i:Nat) (x:α),t.get i=some x→p x=true
 | .nil,_,i,x,e=>by rw [Tr.get_nil] at e;cases e
 | .node l v r,h,i,x,e=>by
  have h:(vO p v && tn p l && tn p r)=true:=h
  simp only [zC] at h
  cases i with
  | zero=>rw [Tr.kA] at e;subst e;exact h.1.1
  | succ i=>
   rw [Tr.ik] at e
   cases hb:Nat.beq (i%2) 0 with
   | true=>rw [hb] at e;exact nf h.1.2 _ x e
   | false=>rw [hb] at e;exact nf h.2 _ x e
def LG (N:Nat):gH→Bool
 | .cells cs=>cs.all (uE N 6)
 | .one _ _=>true
 | .row _ _=>true
 | .cX (.map es)=>es.all fun e=>uE N 6 e.1 && uE N 6 e.2
 | .cX .AV=>true
 | .cX (.loop _ _)=>true
theorem DF {N:Nat} {F:Tr A} (h:tn (uE N 6) F=true) (i:Nat):VP N (aX F.get i):=by
 unfold aX
 split
 ·rename_i p hp;exact gz 6 p (nf h i p hp)
 ·exact gz 1 _ rfl
theorem Ia {N:Nat} {x:gH} (h:LG N x=true):G1 N x.low:=by
 cases x with
 | cells cs=>
  have h:cs.all (uE N 6)=true:=h
  rw [List.all_eq_true] at h
  exact fun c hc=>gz 6 c (h c hc)
 | one t x=>exact jv t x
 | row t l=>exact fun c hc=>by obtain ⟨y,_,hy⟩:=List.mem_flatMap.1 hc;exact jv t y c hy
 | cX x=>
  cases x with
  | map es=>
   have h:(es.all fun e=>uE N 6 e.1 && uE N 6 e.2)=true:=h
   rw [List.all_eq_true] at h
   exact fun e he=>by have:=h e he;rw [zC] at this;exact ⟨gz 6 _ this.1,gz 6 _ this.2⟩
  | AV=>trivial
  | loop=>trivial
def ckT (k:Bool×Ty):Bool×Ty:=(false,match k.1 with | true=>.aF k.2 | false=>k.2)
def Mg (l:List (Bool×Ty)):List (Bool×Ty):=l.map ckT
def CB:List ((Nat×Option Nat)×List (Bool×Ty))→Type
 | []=>Unit
 | p::l=>kG (Mg p.2)×CB l
def ou:List (Bool×Ty)→Nat
 | []=>0
 | (true,_)::l=>ou l+1
 | (false,_)::l=>ou l
def qz:List ((Nat×Option Nat)×List (Bool×Ty))→Nat
 | []=>0
 | p::l=>ou p.2+qz l
def LH.S (H:LH):Type:=kG (H.n_.map (·.2))×kG (H.grow.map fun p=>(false,Ty.aF p.2))×kG (H.boxes.map fun p=>(false,p.2))×CB H.xu×q7 H.jz
def LH.m (H:LH):Nat:=H.grow.length+qz H.xu
section
variable {β:Type}
def EV:List Nat→Tr A→(Tr A→Option β)→Option β
 | [],F,k=>k F
 | i::l,F,k=>fg F i (some .cG) (fun F=>EV l F k)
def YO:(l:List (Nat×Bool×Ty))→kG (l.map (·.2))→Tr A→(Tr A→Option β)→Option β
 | [],_,F,k=>k F
 | p::l,x,F,k=>O1 (bO p.2.1 p.2.2 x.1) (fun c=>fg F p.1 (some c) (fun F=>YO l x.2 F k))
def ijW:List (Nat×Ty)→Nat→Tr A→(Tr A→Option β)→Option β
 | [],_,F,k=>k F
 | p::l,i,F,k=>fg F p.1 (some (.tw (.loc i) p.2.size)) (fun F=>ijW l (i+1) F k)
def F_:List Nat→Tr gH→(Tr gH→Option β)→Option β
 | [],t,k=>k t
 | i::l,t,k=>fg t i none (fun t=>F_ l t k)
def ijB:(l:List ((Nat×Option Nat)×Ty))→List Nat→kG (l.map fun p=>(false,p.2))→Tr gH→(Tr gH→Option β)→Option β
 | [],_,_,t,k=>k t
 | p::l,b::bs,x,t,k=>fg t b (some (.one p.2 x.1)) (fun t=>ijB l bs x.2 t k)
 | _::_,[],_,_,_=>none
def ijG:(l:List (Nat×Ty))→Nat→kG (l.map fun p=>(false,Ty.aF p.2))→Tr gH→(Tr gH→Option β)→Option β
 | [],_,_,t,k=>k t
 | p::l,i,x,t,k=>fg t i (some (.row p.2 x.1)) (fun t=>ijG l (i+1) x.2 t k)
def Oe:(ks:List (Bool×Ty))→kG (Mg ks)→Nat→List A
 | [],_,_=>[]
 | (true,t)::l,x,i=>.tw (.loc i) t.size::Oe l x.2 (i+1)
 | (false,t)::l,x,i=>bO false t x.1::Oe l x.2 i
def YP:(ks:List (Bool×Ty))→kG (Mg ks)→Nat→Tr gH→(Tr gH→Option β)→Option β
 | [],_,_,t,k=>k t
 | (true,u)::l,x,i,t,k=>fg t i (some (.row u x.1)) (fun t=>YP l x.2 (i+1) t k)
 | (false,_)::l,x,i,t,k=>YP l x.2 i t k
def ijC:(l:List ((Nat×Option Nat)×List (Bool×Ty)))→List Nat→Nat→CB l→Tr gH→(Tr gH→Option β)→Option β
 | [],_,_,_,t,k=>k t
 | p::l,b::bs,i,x,t,k=>fg t b (some (.cells (Oe p.2 x.1 i))) (fun t=>YP p.2 x.1 i t (fun t=>ijC l bs (i+ou p.2) x.2 t k))
 | _::_,[],_,_,_,_=>none
def Cn (H:LH) (lL bs cs dk:List Nat) (Fe:Tr A) (he:Go.Bm.H) (s:H.S) (k:Tr A→Go.Bm.H→Option β):Option β:=
 EV lL Fe (fun F=>YO H.n_ s.1 F (fun F=>ijW H.grow he.aR F (fun F=>F_ (dk++(bs++cs)) he.t (fun t=>ijB H.boxes bs s.2.2.1 t (fun t=>ijC H.xu cs (he.aR+H.grow.length) s.2.2.2.1 t (fun t=>ijG H.grow he.aR s.2.1 t (fun t=>k F ⟨t,he.aR+H.m,kJ H.jz s.2.2.2.2 he.rg,he.lk⟩)))))))
def YD (n:Nat):(l:List (Nat×Bool×Ty))→Tr A→Option (kG (l.map (·.2)))
 | [],_=>some ()
 | p::l,F=>bif Nat.blt p.1 n then (match lx p.2.1 p.2.2 (aX F.get p.1),YD n l F with
  | some x,some y=>some (x,y)
  | _,_=>none) else none
def HC (t:Ty) (h:Tr gH):A→Option (List t.T×Option Nat)
 | .tw (.loc o) z=>match h.get o with
  | some (.row t' l)=>bif Nat.beq z t.size && Nat.blt o 16777216 then (match fR (.aF t') (.aF t) l with
   | some l=>some (l,some o)
   | none=>none) else none
  | _=>none
 | .e0=>some ([],none)
 | .v (.slice none 0 0)=>some ([],none)
 | _=>none
def LA (n:Nat):(l:List (Nat×Ty))→Tr A→Tr gH→Option (kG (l.map fun p=>(false,Ty.aF p.2))×List (Option Nat))
 | [],_,_=>some ((),[])
 | p::l,F,t=>bif Nat.blt p.1 n then (match HC p.2 t (aX F.get p.1),LA n l F t with
  | some x,some y=>some ((x.1,y.1),x.2::y.2)
  | _,_=>none) else none
def YE:(l:List ((Nat×Option Nat)×Ty))→List Nat→Tr gH→Option (kG (l.map fun p=>(false,p.2)))
 | [],_,_=>some ()
 | p::l,b::bs,t=>match t.get b with
  | some (.one t' x)=>match fR t' p.2 x,YE l bs t with
   | some x,some y=>some (x,y)
   | _,_=>none
  | _=>none
 | _::_,[],_=>none
def ML:(ks:List (Bool×Ty))→List A→Tr gH→Option (kG (Mg ks)×List (Option Nat))
 | [],[],_=>some ((),[])
 | (true,u)::l,c::cs,t=>match HC u t c,ML l cs t with
  | some x,some y=>some ((x.1,y.1),x.2::y.2)
  | _,_=>none
 | (false,u)::l,c::cs,t=>match lx false u c,ML l cs t with
  | some x,some y=>some ((x,y.1),y.2)
  | _,_=>none
 | _,_,_=>none
def Eg:(l:List ((Nat×Option Nat)×List (Bool×Ty)))→List Nat→Tr gH→Option (CB l×List (Option Nat))
 | [],_,_=>some ((),[])
 | p::l,b::bs,t=>match t.get b with
  | some (.cells cs)=>match ML p.2 cs t,Eg l bs t with
   | some x,some y=>some ((x.1,y.1),x.2++y.2)
   | _,_=>none
  | _=>none
 | _::_,[],_=>none
def D1 (t:Tr gH) (q:Nat):Bool:=match t.get q with
 | some (.cX (.loop .ready none))=>true
 | _=>false
def Od (N:Nat) (bs dk:List Nat) (jz:List (Nat×RK)) (ws:List Nat):Bool:=
 ws.all fun q=>bif Nat.beq (q%2) 0 then Nat.ble N (q / 2) || bs.any (Nat.beq (q / 2)) || dk.any (Nat.beq (q / 2)) else jz.any fun p=>Nat.beq q (iF p.1)
def Y9:List Nat→List Nat→Bool
 | [],[]=>true
 | a::l,b::k=>Nat.beq a b && Y9 l k
 | _,_=>false
theorem FV:∀{l k:List Nat},Y9 l k=true→l=k
 | [],[],_=>rfl
 | a::l,b::k,h=>by
  have h:(Nat.beq a b && Y9 l k)=true:=h
  rw [zC] at h
  rw [beq_eq h.1,FV h.2]
def EB (q:Nat):Option Nat→Bool
 | some o=>Nat.beq q o
 | none=>false
def Ca (N:Nat) (dk:List Nat):List (Option Nat)→Bool
 | []=>true
 | none::l=>Ca N dk l
 | some o::l=>(Nat.ble N o || dk.any (Nat.beq o)) && !(l.any (EB o)) && Ca N dk l
def C7 (H:LH) (n N:Nat) (bs cs qs dk O2:List Nat) (F:Tr A) (h:Go.Bm.H) (ds:List Nat) (T:Fp):Option H.S:=
 bif Od N (bs++cs++qs) dk H.jz T.ws && Y9 ds O2 && qs.all (D1 h.t) then (match YD n H.n_ F,LA n H.grow F h.t,YE H.boxes bs h.t,Eg H.xu cs h.t,yT H.jz h.rg with
 | some v,some g,some b,some e,some c=>bif Ca N dk (g.2++e.2) then some (v,g.1,b,e.1,c) else none
 | _,_,_,_,_=>none) else none
def Mi:A→Option Nat
 | .tp (.loc b) []=>some b
 | .ptr b 0=>some b
 | _=>none
def Zj (F:Tr A) (p:Nat×Option Nat):Option Nat:=match p.2 with
 | none=>Mi (aX F.get p.1)
 | some j=>match aX F.get p.1 with
  | .sH _ _ F' _ _ _ _=>Mi (aX F'.get j)
  | _=>none
def NV:List (Nat×Option Nat)→Tr A→Option (List Nat)
 | [],_=>some []
 | p::l,F=>match Zj F p,NV l F with
  | some b,some bs=>some (b::bs)
  | _,_=>none
def Xh:List Nat→Tr A→Option (List Nat)
 | [],_=>some []
 | p::l,F=>match aX F.get p,Xh l F with
  | .sH q _ _ _ _ _ _,some bs=>some (q::bs)
  | _,_=>none
def NT:List (Nat×Ty)→Tr A→List Nat
 | [],_=>[]
 | p::l,F=>match aX F.get p.1 with
  | .tw (.loc o) _=>o::NT l F
  | _=>NT l F
def NS:List A→List Nat
 | []=>[]
 | .tw (.loc o) _::l=>o::NS l
 | _::l=>NS l
def NU (t:Tr gH):List Nat→List Nat
 | []=>[]
 | b::l=>match t.get b with
  | some (.cells cs)=>NS cs++NU t l
  | _=>NU t l
structure Hm where
 bs:List Nat
 cs:List Nat
 qs:List Nat
 dk:List Nat
def Ja (H:LH) (F:Tr A) (h:Go.Bm.H):Option Hm:=match NV (H.boxes.map (·.1)) F,NV (H.xu.map (·.1)) F,Xh H.loops F with
 | some bs,some cs,some qs=>some ⟨bs,cs,qs,NT H.grow F++NU h.t cs⟩
 | _,_,_=>none
def AU (H:LH) (E:Hm) (ds:List Nat) (F:Tr A) (h:Go.Bm.H):Bool:=
 tn (uE h.aR 6) F && tn (LG h.aR) h.t && Nat.ble (h.aR+H.m) 16777216 && (E.bs++E.cs).all (fun b=>Nat.blt b h.aR) && E.dk.all (fun b=>Nat.blt b h.aR) && ds.all (fun b=>Nat.blt b h.aR) && (E.bs++E.cs).all (fun b=>!(E.dk.any (Nat.beq b))) && E.qs.all (fun q=>D1 h.t q && !((E.dk++(E.bs++E.cs)).any (Nat.beq q))) && H.jz.all fun p=>Option.isSome (bq h.rg p.1)
def jT (H:LH) (N:Nat) (E:Hm):Fp:=⟨true,[],true,((E.bs++E.cs).map dz++E.dk.map dz)++((List.range H.m).map (fun k=>dz (N+k))++H.jz.map fun p=>iF p.1)⟩
variable {r:β}
theorem oQ {F F':Tr A} {d:Nat} {p:A} (e:F'.get=fun m=>if m=d then some p else F.get m) (i:Nat):aX F'.get i=if i=d then p else aX F.get i:=by
 unfold aX
 rw [e]
 by_cases h:i=d
 ·simp [h]
 ·simp [h]
theorem tK:∀(l:List Nat) (F:Tr A) (k:Tr A→Option β),EV l F k=some r→∃F',k F'=some r∧∀aU:Nat→A→Prop,(∀i∈l,aU i .cG)→(∀i,i∉l→aU i (aX F.get i))→∀i,aU i (aX F'.get i)
 | [],F,k,h=>⟨F,h,fun aU _ h2 i=>h2 i (by simp)⟩
 | d::l,F,k,h=>by
  obtain ⟨_,F1,k1,k2⟩:=bo h
  obtain ⟨F',q1,q2⟩:=tK l F1 k k1
  refine ⟨F',q1,fun aU h1 h2=>q2 aU (fun i hi=>h1 i (.tail _ hi)) (fun i hi=>?_)⟩
  rw [oQ k2]
  by_cases hd:i=d
  ·rw [if_pos hd];exact h1 i (by rw [hd];exact .head _)
  ·rw [if_neg hd];exact h2 i (by simp [hd,hi])
def Gy (aU:Nat→A→Prop):(l:List (Nat×Bool×Ty))→kG (l.map (·.2))→Prop
 | [],_=>True
 | p::l,x=>aU p.1 (bO p.2.1 p.2.2 x.1)∧Gy aU l x.2
def Gx (aU:Nat→A→Prop):List (Nat×Ty)→Nat→Prop
 | [],_=>True
 | p::l,i=>aU p.1 (.tw (.loc i) p.2.size)∧Gx aU l (i+1)
def GB (aU:Nat→Option Ob→Prop):(l:List ((Nat×Option Nat)×Ty))→List Nat→kG (l.map fun p=>(false,p.2))→Prop
 | [],_,_=>True
 | p::l,b::bs,x=>aU b (some (.cells (aA p.2 x.1)))∧GB aU l bs x.2
 | _::_,[],_=>True
def Gz (aU:Nat→Option Ob→Prop):(l:List (Nat×Ty))→Nat→kG (l.map fun p=>(false,Ty.aF p.2))→Prop
 | [],_,_=>True
 | p::l,i,x=>aU i (some (.cells (List.flatMap (α:=p.2.T) (aA p.2) x.1)))∧Gz aU l (i+1) x.2
def CY (aU:Nat→Option Ob→Prop):(ks:List (Bool×Ty))→kG (Mg ks)→Nat→Prop
 | [],_,_=>True
 | (true,u)::l,x,i=>aU i (some (.cells (List.flatMap (α:=u.T) (aA u) x.1)))∧CY aU l x.2 (i+1)
 | (false,_)::l,x,i=>CY aU l x.2 i
def GA (aU:Nat→Option Ob→Prop):(l:List ((Nat×Option Nat)×List (Bool×Ty)))→List Nat→Nat→CB l→Prop
 | [],_,_,_=>True
 | p::l,b::bs,i,x=>aU b (some (.cells (Oe p.2 x.1 i)))∧CY aU p.2 x.1 i∧GA aU l bs (i+ou p.2) x.2
 | _::_,[],_,_=>True
theorem AB:∀(l:List (Nat×Bool×Ty)) (x:kG (l.map (·.2))) (F:Tr A) (k:Tr A→Option β),YO l x F k=some r→∃F',k F'=some r∧∀aU:Nat→A→Prop,Gy aU l x→(∀i,aU i (aX F.get i))→∀i,aU i (aX F'.get i)
 | [],_,F,k,h=>⟨F,h,fun aU _ h2=>h2⟩
 | p::l,x,F,k,h=>by
  unfold YO at h
  rw [y0] at h
  obtain ⟨_,F1,k1,k2⟩:=bo h
  obtain ⟨F',q1,q2⟩:=AB l x.2 F1 k k1
  refine ⟨F',q1,fun aU h1 h2=>q2 aU h1.2 (fun i=>?_)⟩
  rw [oQ k2]
  by_cases hd:i=p.1
  ·rw [if_pos hd,hd];exact h1.1
  ·rw [if_neg hd];exact h2 i
theorem AA:∀(l:List (Nat×Ty)) (j:Nat) (F:Tr A) (k:Tr A→Option β),ijW l j F k=some r→∃F',k F'=some r∧∀aU:Nat→A→Prop,Gx aU l j→(∀i,aU i (aX F.get i))→∀i,aU i (aX F'.get i)
 | [],_,F,k,h=>⟨F,h,fun aU _ h2=>h2⟩
 | p::l,j,F,k,h=>by
  obtain ⟨_,F1,k1,k2⟩:=bo h
  obtain ⟨F',q1,q2⟩:=AA l (j+1) F1 k k1
  refine ⟨F',q1,fun aU h1 h2=>q2 aU h1.2 (fun i=>?_)⟩
  rw [oQ k2]
  by_cases hd:i=p.1
  ·rw [if_pos hd,hd];exact h1.1
  ·rw [if_neg hd];exact h2 i
theorem zw {t t':Tr gH} {d:Nat} {x:Option gH} (e:t'.get=fun m=>if m=d then x else t.get m) (i:Nat):fO t' i=if i=d then x.map gH.low else fO t i:=by
 unfold fO
 rw [e]
 by_cases h:i=d
 ·simp only [if_pos h];cases x<;>rfl
 ·simp only [if_neg h]
theorem tT:∀(l:List Nat) (t:Tr gH) (k:Tr gH→Option β),F_ l t k=some r→∃t',k t'=some r∧∀aU:Nat→Option Ob→Prop,(∀i∈l,aU i none)→(∀i,i∉l→aU i (fO t i))→∀i,aU i (fO t' i)
 | [],t,k,h=>⟨t,h,fun aU _ h2 i=>h2 i (by simp)⟩
 | d::l,t,k,h=>by
  obtain ⟨_,t1,k1,k2⟩:=bo h
  obtain ⟨t',q1,q2⟩:=tT l t1 k k1
  refine ⟨t',q1,fun aU h1 h2=>q2 aU (fun i hi=>h1 i (.tail _ hi)) (fun i hi=>?_)⟩
  rw [zw k2]
  by_cases hd:i=d
  ·rw [if_pos hd];exact h1 i (by rw [hd];exact .head _)
  ·rw [if_neg hd];exact h2 i (by simp [hd,hi])
theorem HN {t t1:Tr gH} {d:Nat} {x:gH} {aU:Nat→Option Ob→Prop} (e:t1.get=fun m=>if m=d then some x else t.get m) (h1:aU d (some x.low)) (h2:∀i,aU i (fO t i)) (i:Nat):aU i (fO t1 i):=by
 rw [zw e]
 by_cases hd:i=d
 ·rw [if_pos hd,hd];exact h1
 ·rw [if_neg hd];exact h2 i
theorem AF:∀(l:List ((Nat×Option Nat)×Ty)) (bs:List Nat) (x:kG (l.map fun p=>(false,p.2))) (t:Tr gH) (k:Tr gH→Option β),ijB l bs x t k=some r→∃t',k t'=some r∧∀aU:Nat→Option Ob→Prop,GB aU l bs x→(∀i,aU i (fO t i))→∀i,aU i (fO t' i)
 | [],_,_,t,k,h=>⟨t,h,fun aU _ h2=>h2⟩
 | p::l,b::bs,x,t,k,h=>by
  obtain ⟨_,t1,k1,k2⟩:=bo h
  obtain ⟨t',q1,q2⟩:=AF l bs x.2 t1 k k1
  exact ⟨t',q1,fun aU h1 h2=>q2 aU h1.2 (HN k2 h1.1 h2)⟩
 | _::_,[],_,_,_,h=>by cases h
theorem AD:∀(l:List (Nat×Ty)) (j:Nat) (x:kG (l.map fun p=>(false,Ty.aF p.2))) (t:Tr gH) (k:Tr gH→Option β),ijG l j x t k=some r→∃t',k t'=some r∧∀aU:Nat→Option Ob→Prop,Gz aU l j x→(∀i,aU i (fO t i))→∀i,aU i (fO t' i)
 | [],_,_,t,k,h=>⟨t,h,fun aU _ h2=>h2⟩
 | p::l,j,x,t,k,h=>by
  obtain ⟨_,t1,k1,k2⟩:=bo h
  obtain ⟨t',q1,q2⟩:=AD l (j+1) x.2 t1 k k1
  exact ⟨t',q1,fun aU h1 h2=>q2 aU h1.2 (HN k2 h1.1 h2)⟩
theorem uR:∀(ks:List (Bool×Ty)) (x:kG (Mg ks)) (j:Nat) (t:Tr gH) (k:Tr gH→Option β),YP ks x j t k=some r→∃t',k t'=some r∧∀aU:Nat→Option Ob→Prop,CY aU ks x j→(∀i,aU i (fO t i))→∀i,aU i (fO t' i)
 | [],_,_,t,k,h=>⟨t,h,fun aU _ h2=>h2⟩
 | (true,u)::l,x,j,t,k,h=>by
  obtain ⟨_,t1,k1,k2⟩:=bo h
  obtain ⟨t',q1,q2⟩:=uR l x.2 (j+1) t1 k k1
  exact ⟨t',q1,fun aU h1 h2=>q2 aU h1.2 (HN k2 h1.1 h2)⟩
 | (false,_)::l,x,j,t,k,h=>uR l x.2 j t k h
theorem AE:∀(l:List ((Nat×Option Nat)×List (Bool×Ty))) (bs:List Nat) (j:Nat) (x:CB l) (t:Tr gH) (k:Tr gH→Option β),ijC l bs j x t k=some r→∃t',k t'=some r∧∀aU:Nat→Option Ob→Prop,GA aU l bs j x→(∀i,aU i (fO t i))→∀i,aU i (fO t' i)
 | [],_,_,_,t,k,h=>⟨t,h,fun aU _ h2=>h2⟩
 | p::l,b::bs,j,x,t,k,h=>by
  obtain ⟨_,t1,k1,k2⟩:=bo h
  obtain ⟨t2,k3,k4⟩:=uR p.2 x.1 j t1 _ k1
  obtain ⟨t',q1,q2⟩:=AE l bs _ x.2 t2 k k3
  exact ⟨t',q1,fun aU h1 h2=>q2 aU h1.2.2 (k4 aU h1.2.1 (HN k2 h1.1 h2))⟩
 | _::_,[],_,_,_,_,h=>by cases h
structure pK (H:LH) (lL:List Nat) (E:Hm) (Fe:Tr A) (he:Go.Bm.H) (s:H.S) (Fc:Tr A) (hc:Go.Bm.H):Prop where
 F:∀aU:Nat→A→Prop,(∀i∈lL,aU i .cG)→(∀i,i∉lL→aU i (aX Fe.get i))→Gy aU H.n_ s.1→Gx aU H.grow he.aR→∀i,aU i (aX Fc.get i)
 t:∀aU:Nat→Option Ob→Prop,(∀i∈E.dk++(E.bs++E.cs),aU i none)→(∀i,i∉E.dk++(E.bs++E.cs)→aU i (fO he.t i))→GB aU H.boxes E.bs s.2.2.1→GA aU H.xu E.cs (he.aR+H.grow.length) s.2.2.2.1→Gz aU H.grow he.aR s.2.1→∀i,aU i (fO hc.t i)
 aR:hc.aR=he.aR+H.m
 rg:hc.rg=kJ H.jz s.2.2.2.2 he.rg
theorem wU {H:LH} {lL:List Nat} {E:Hm} {Fe:Tr A} {he:Go.Bm.H} {s:H.S} {k:Tr A→Go.Bm.H→Option β} (h:Cn H lL E.bs E.cs E.dk Fe he s k=some r):∃Fc hc,k Fc hc=some r∧pK H lL E Fe he s Fc hc:=by
 obtain ⟨F1,k1,f1⟩:=tK _ _ _ h
 obtain ⟨F2,k2,f2⟩:=AB _ _ _ _ k1
 obtain ⟨F3,k3,f3⟩:=AA _ _ _ _ k2
 obtain ⟨t1,k4,e1⟩:=tT _ _ _ k3
 obtain ⟨t2,k5,e2⟩:=AF _ _ _ _ _ k4
 obtain ⟨t3,k6,e3⟩:=AE _ _ _ _ _ _ k5
 obtain ⟨t4,k7,e4⟩:=AD _ _ _ _ _ k6
 exact ⟨F3,_,k7,fun aU a b c d=>f3 aU d (f2 aU c (f1 aU a b)),fun aU a b c d e=>e4 aU e (e3 aU d (e2 aU c (e1 aU a b))),rfl,rfl⟩
end
end
set_option linter.unusedVariables false
set_option linter.unusedSimpArgs false
section
open Go.RowKit
theorem any_beq {l:List Nat} {i:Nat}:l.any (Nat.beq i)=true↔i∈l:=by
 rw [List.any_eq_true]
 exact ⟨fun ⟨x,h1,h2⟩=>by rw [beq_eq h2];exact h1,fun h=>⟨i,h,Nat.beq_refl i⟩⟩
theorem xt {N:Nat} {bs dk:List Nat} {jz:List (Nat×RK)} {T:Fp} (h:Od N bs dk jz T.ws=true) {i:Nat} (hl:i<cI) (h1:i<N) (h2:i∉dk++bs):wt T i=false:=by
 cases hx:wt T i with
 | false=>rfl
 | true=>
  unfold wt at hx
  rw [zC] at hx
  obtain ⟨q,q1,q2⟩:=List.any_eq_true.1 hx.2
  obtain rfl:=beq_eq q2
  have:=List.all_eq_true.1 h _ q1
  rw [ni hl] at this
  unfold dz at this
  rw [show Nat.beq (2*i%2) 0=true by rw [show 2*i%2=0 by omega];rfl,show 2*i / 2=i by omega] at this
  simp only [cond_true,Bool.or_eq_true] at this
  rcases this with (this | this) | this
  ·have:=Nat.le_of_ble_eq_true this;omega
  ·exact absurd (zS _ (any_beq.1 this)) h2
  ·exact absurd (zQ _ (any_beq.1 this)) h2
theorem xr {N:Nat} {bs dk:List Nat} {jz:List (Nat×RK)} {T:Fp} (h:Od N bs dk jz T.ws=true) {i:Nat} (hl:¬i<cI) (h1:dt jz (mq i)=false):wt T i=false:=by
 cases hx:wt T i with
 | false=>rfl
 | true=>
  unfold wt at hx
  rw [zC] at hx
  obtain ⟨q,q1,q2⟩:=List.any_eq_true.1 hx.2
  obtain rfl:=beq_eq q2
  have:=List.all_eq_true.1 h _ q1
  rw [pW hl] at this
  unfold iF at this
  rw [show Nat.beq ((2*mq i+1)%2) 0=false by rw [show (2*mq i+1)%2=1 by omega];rfl] at this
  simp only [cond_false] at this
  obtain ⟨p,p1,p2⟩:=List.any_eq_true.1 this
  have e:p.1=mq i:=by have:=beq_eq p2;unfold iF at this;omega
  rw [show dt jz (mq i)=true from List.any_eq_true.2 ⟨p,p1,by rw [e];exact Nat.beq_refl _⟩] at h1
  cases h1
theorem Ee {n:Nat} {F:Tr A} {aU:Nat→A→Prop} (hg:∀i a t x,i<n→lx a t (aX F.get i)=some x→aU i (bO a t x)):∀(l:List (Nat×Bool×Ty)) (x:kG (l.map (·.2))),YD n l F=some x→Gy aU l x
 | [],_,_=>trivial
 | p::l,x,h=>by
  unfold YD at h
  obtain ⟨hn,h⟩:=af h
  split at h
  ·rename_i y z h1 h2
   cases h
   exact ⟨hg _ _ _ _ (aY hn) h1,Ee hg l z h2⟩
  ·cases h
def GF (t:Ty) (tt:Tr gH) (l:List t.T):Option Nat→Prop
 | some o=>o<cI∧fO tt o=some (.cells (l.flatMap (aA t)))
 | none=>l=[]
def xC (z:Nat) (a:A):Option Nat→Prop
 | some o=>a = .tw (.loc o) z
 | none=>∀g v,V g a v→∃ad,v = .slice ad 0 0
theorem uk {t:Ty} {tt:Tr gH} {a:A} {l:List t.T} {nm:Option Nat} (h:HC t tt a=some (l,nm)):GF t tt l nm∧xC t.size a nm:=by
 unfold HC at h
 split at h
 ·rename_i o z
  split at h
  ·rename_i t' l' h1
   obtain ⟨h2,h⟩:=af h
   rw [zC] at h2
   split at h
   ·rename_i l1 hl1
    obtain ⟨e,e2⟩:=cr hl1
    cases e
    cases e2
    simp only [zI,zU] at h
    obtain ⟨rfl,rfl⟩:=h
    refine ⟨⟨aY h2.2,?_⟩,by rw [beq_eq h2.1];rfl⟩
    unfold fO
    rw [h1];rfl
   ·cases h
  ·cases h
 ·simp only [zI,zU] at h
  obtain ⟨rfl,rfl⟩:=h
  exact ⟨rfl,fun g v hv=>by cases hv;exact ⟨_,rfl⟩⟩
 ·simp only [zI,zU] at h
  obtain ⟨rfl,rfl⟩:=h
  exact ⟨rfl,fun g v hv=>by cases hv;exact ⟨_,rfl⟩⟩
 ·cases h
theorem Ef {n:Nat} {F:Tr A} {tt:Tr gH}:∀(l:List (Nat×Ty)) (x:kG (l.map fun p=>(false,Ty.aF p.2))) (names:List (Option Nat)),LA n l F tt=some (x,names)→names.length=l.length ∧
  ∀(aU:Nat→A→Prop) (po:Nat→Option Ob→Prop) (j:Nat),
   (∀(k:Nat) (nm:Option Nat) (i z:Nat),names[k]?=some nm→i<n→xC z (aX F.get i) nm→aU i (.tw (.loc (j+k)) z)) →
   (∀(k:Nat) (nm:Option Nat) (t:Ty) (l:List t.T),names[k]?=some nm→GF t tt l nm→po (j+k) (some (.cells (l.flatMap (aA t)))))→Gx aU l j∧Gz po l j x
 | [],x,names,h=>by
  simp only [LA,zI,zU] at h
  obtain ⟨_,rfl⟩:=h
  exact ⟨rfl,fun _ _ _ _ _=>⟨trivial,trivial⟩⟩
 | p::l,x,names,h=>by
  unfold LA at h
  obtain ⟨hn,h⟩:=af h
  split at h
  ·rename_i y z h1 h2
   simp only [zI,zU] at h
   obtain ⟨rfl,rfl⟩:=h
   obtain ⟨q1,q2⟩:=Ef l z.1 z.2 h2
   obtain ⟨r1,r2⟩:=uk (l:=y.1) (nm:=y.2) h1
   refine ⟨by simp [q1],fun aU po j k1 k2=>?_⟩
   obtain ⟨u1,u2⟩:=q2 aU po (j+1) (fun k nm i z e=>by have:=k1 (k+1) nm i z (by simpa using e);rwa [show j+(k+1)=j+1+k by omega] at this) (fun k nm t l e=>by have:=k2 (k+1) nm t l (by simpa using e);rwa [show j+(k+1)=j+1+k by omega] at this)
   exact ⟨⟨k1 0 y.2 p.1 p.2.size rfl (aY hn) r2,u1⟩,⟨k2 0 y.2 p.2 y.1 rfl r1,u2⟩⟩
  ·cases h
theorem DW {n:Nat} {F:Tr A} {tt:Tr gH}:∀{l:List (Nat×Ty)} {x:kG (l.map fun p=>(false,Ty.aF p.2))} {names:List (Option Nat)},LA n l F tt=some (x,names)→∀(k o:Nat),names[k]?=some (some o)→o<cI
 | [],x,names,h,k,o,e=>by
  simp only [LA,zI,zU] at h
  obtain ⟨_,rfl⟩:=h
  simp at e
 | p::l,x,names,h,k,o,e=>by
  unfold LA at h
  obtain ⟨hn,h⟩:=af h
  split at h
  ·rename_i y z h1 h2
   simp only [zI,zU] at h
   obtain ⟨rfl,rfl⟩:=h
   cases k with
   | zero=>
    have e:y.2=some o:=by simpa using e
    have:=(uk (l:=y.1) (nm:=y.2) h1).1
    rw [e] at this
    exact this.1
   | succ k=>exact DW (x:=z.1) (names:=z.2) h2 k o (by simpa using e)
  ·cases h
theorem Eh {tt:Tr gH} {aU:Nat→Option Ob→Prop}:∀(l:List ((Nat×Option Nat)×Ty)) (bs:List Nat) (x:kG (l.map fun p=>(false,p.2))),(∀b t (y:t.T),b∈bs→fO tt b=some (.cells (aA t y))→aU b (some (.cells (aA t y))))→YE l bs tt=some x→GB aU l bs x
 | [],_,_,_,_=>trivial
 | p::l,b::bs,x,hg,h=>by
  unfold YE at h
  split at h
  ·rename_i t' y h1
   split at h
   ·rename_i y' z h2 h3
    cases h
    obtain ⟨e,e2⟩:=cr h2
    obtain ⟨p1,p2⟩:=p
    simp only at e
    subst e
    cases e2
    exact ⟨hg b t' y (.head _) (by unfold fO;rw [h1];rfl),Eh l bs z (fun b t y hb=>hg b t y (.tail _ hb)) h3⟩
   ·cases h
  ·cases h
 | _::_,[],_,_,h=>by cases h
theorem Vs.Dr {g:G} {c:A} {cs:List A} {vs:List Value} (h:Vs g (c::cs) vs):∃v us,vs=v::us∧V g c v∧v.oneCell'=true∧Vs g cs us:=by
 match vs,h with
 | [],h=>exact absurd h.1 (by simp)
 | v::us,h=>
  have h0:=h.2 0 c v rfl rfl
  exact ⟨v,us,rfl,h0.1,h0.2,by simpa using h.1,fun j c x e1 e2=>h.2 (j+1) c x (by simpa using e1) (by simpa using e2)⟩
theorem yo {tt:Tr gH}:∀(ks:List (Bool×Ty)) (cs:List A) (x:kG (Mg ks)) (names:List (Option Nat)),ML ks cs tt=some (x,names)→names.length=ou ks∧(∀(k o:Nat),names[k]?=some (some o)→o<cI)∧∀j,(Oe ks x j).length=cs.length ∧
  (∀(po:Nat→Option Ob→Prop),(∀(k:Nat) (nm:Option Nat) (t:Ty) (l:List t.T),names[k]?=some nm→GF t tt l nm→po (j+k) (some (.cells (l.flatMap (aA t)))))→CY po ks x j) ∧
  ∀(N:Nat) (g g':G),zp N g g'→(∀(k:Nat) (nm:Option Nat) (z:Nat) (c:A),names[k]?=some nm→xC z c nm→∀v,V g c v→V g' (.tw (.loc (j+k)) z) v)→∀vs,Vs g cs vs→Vs g' (Oe ks x j) vs
 | [],[],x,names,h=>by
  simp only [ML,zI,zU] at h
  obtain ⟨_,rfl⟩:=h
  exact ⟨rfl,fun k o e=>by simp at e,fun j=>⟨rfl,fun _ _=>trivial,fun N g g' _ _ vs hv=>⟨hv.1,fun j c x e=>by simp [Oe] at e⟩⟩⟩
 | (true,u)::l,c::cs,x,names,h=>by
  unfold ML at h
  split at h
  ·rename_i y z h1 h2
   simp only [zI,zU] at h
   obtain ⟨rfl,rfl⟩:=h
   obtain ⟨q1,Ub,q2⟩:=yo l cs z.1 z.2 h2
   obtain ⟨r1,r2⟩:=uk (l:=y.1) (nm:=y.2) h1
   refine ⟨by simp [q1,ou],fun k o e=>?_,fun j=>?_⟩
   ·cases k with
    | zero=>
     have e:y.2=some o:=by simpa using e
     rw [e] at r1
     exact r1.1
    | succ k=>exact Ub k o (by simpa using e)
   ·obtain ⟨u1,u2,u3⟩:=q2 (j+1)
    refine ⟨congrArg Nat.succ u1,fun po k2=>⟨k2 0 y.2 u y.1 rfl r1,u2 po (fun k nm t l e=>by have:=k2 (k+1) nm t l (by simpa using e);rwa [show j+(k+1)=j+1+k by omega] at this)⟩,fun N g g' hs hk vs hv=>?_⟩
    obtain ⟨v,us,rfl,v1,v2,v3⟩:=hv.Dr
    exact .cons (hk 0 y.2 u.size c rfl r2 v v1) v2 (u3 N g g' hs (fun k nm z c e=>by have:=hk (k+1) nm z c (by simpa using e);rwa [show j+(k+1)=j+1+k by omega] at this) us v3)
  ·cases h
 | (false,u)::l,c::cs,x,names,h=>by
  unfold ML at h
  split at h
  ·rename_i y z h1 h2
   simp only [zI,zU] at h
   obtain ⟨rfl,rfl⟩:=h
   obtain ⟨q1,Ub,q2⟩:=yo l cs z.1 z.2 h2
   refine ⟨by simp [q1,ou],Ub,fun j=>?_⟩
   obtain ⟨u1,u2,u3⟩:=q2 j
   refine ⟨congrArg Nat.succ u1,u2,fun N g g' hs hk vs hv=>?_⟩
   obtain ⟨v,us,rfl,v1,v2,v3⟩:=hv.Dr
   exact .cons (oY false u y g g' v hs (kq h1 v1)) v2 (u3 N g g' hs hk us v3)
  ·cases h
 | [],_::_,_,_,h=>by cases h
 | (true,_)::_,[],_,_,h=>by cases h
 | (false,_)::_,[],_,_,h=>by cases h
theorem Ad {tt:Tr gH}:∀(l:List ((Nat×Option Nat)×List (Bool×Ty))) (bs:List Nat) (x:CB l) (names:List (Option Nat)),Eg l bs tt=some (x,names)→names.length=qz l∧(∀(k o:Nat),names[k]?=some (some o)→o<cI) ∧
  ∀(N:Nat) (g g':G) (j:Nat) (aU:Nat→Option Ob→Prop),zp N g g' →
   (∀(k:Nat) (nm:Option Nat) (z:Nat) (c:A),names[k]?=some nm→xC z c nm→∀v,V g c v→V g' (.tw (.loc (j+k)) z) v) →
   (∀(k:Nat) (nm:Option Nat) (t:Ty) (l:List t.T),names[k]?=some nm→GF t tt l nm→aU (j+k) (some (.cells (l.flatMap (aA t))))) →
   (∀b cs cs',b∈bs→fO tt b=some (.cells cs)→cs'.length=cs.length→(∀vs,Vs g cs vs→Vs g' cs' vs)→aU b (some (.cells cs')))→GA aU l bs j x
 | [],_,x,names,h=>by
  simp only [Eg,zI,zU] at h
  obtain ⟨_,rfl⟩:=h
  exact ⟨rfl,fun k o e=>by simp at e,fun _ _ _ _ _ _ _ _ _=>trivial⟩
 | p::l,b::bs,x,names,h=>by
  unfold Eg at h
  split at h
  ·rename_i cs Hf
   split at h
   ·rename_i y z h1 h2
    simp only [zI,zU] at h
    obtain ⟨rfl,rfl⟩:=h
    obtain ⟨q1,Ub,q2⟩:=yo p.2 cs y.1 y.2 h1
    obtain ⟨r1,r1',r2⟩:=Ad l bs z.1 z.2 h2
    have ap:∀(k:Nat) (nm:Option Nat),y.2[k]?=some nm→(y.2++z.2)[k]?=some nm:=fun k nm e=>by rw [zK (zB.1 e).1];exact e
    have aq:∀(k:Nat) (nm:Option Nat),z.2[k]?=some nm→(y.2++z.2)[ou p.2+k]?=some nm:=fun k nm e=>by rw [zJ (by omega),q1,Nat.add_sub_cancel_left];exact e
    refine ⟨by simp [q1,r1,qz],fun k o e=>?_,fun N g g' j aU hs hk hr hb=>?_⟩
    ·by_cases hk:k<y.2.length
     ·rw [zK hk] at e;exact Ub k o e
     ·rw [zJ (by omega)] at e;exact r1' _ o e
    ·obtain ⟨u1,u2,u3⟩:=q2 j
     refine ⟨hb b cs _ (.head _) (by unfold fO;rw [Hf];rfl) u1 (u3 N g g' hs (fun k nm zz c e=>hk k nm zz c (ap k nm e))),u2 aU (fun k nm t l e=>hr k nm t l (ap k nm e)),?_⟩
     exact r2 N g g' (j+ou p.2) aU hs (fun k nm zz c e=>by have:=hk (ou p.2+k) nm zz c (aq k nm e);rwa [←Nat.add_assoc] at this) (fun k nm t l e=>by have:=hr (ou p.2+k) nm t l (aq k nm e);rwa [←Nat.add_assoc] at this) (fun b cs cs' hm=>hb b cs cs' (.tail _ hm))
   ·cases h
  ·cases h
 | _::_,[],_,_,h=>by cases h
theorem uF {N:Nat} {dk:List Nat}:∀{names:List (Option Nat)},Ca N dk names=true→(∀(k o:Nat),names[k]?=some (some o)→N≤o∨o∈dk)∧∀(k k' o:Nat),names[k]?=some (some o)→names[k']?=some (some o)→k=k'
 | [],_=>⟨fun k o h=>by simp at h,fun k k' o h=>by simp at h⟩
 | none::l,h=>by
  obtain ⟨h1,h2⟩:=uF (show Ca N dk l=true from h)
  refine ⟨fun k o e=>?_,fun k k' o e e'=>?_⟩
  ·cases k with
   | zero=>cases e
   | succ k=>exact h1 k o (by simpa using e)
  ·cases k with
   | zero=>cases e
   | succ k=>
    cases k' with
    | zero=>cases e'
    | succ k'=>rw [h2 k k' o (by simpa using e) (by simpa using e')]
 | some q::l,h=>by
  have h:((Nat.ble N q || dk.any (Nat.beq q)) && !(l.any (EB q)) && Ca N dk l)=true:=h
  simp only [zC,Bool.or_eq_true,Bool.not_eq_true'] at h
  obtain ⟨⟨ha,hb⟩,hc⟩:=h
  obtain ⟨h1,h2⟩:=uF hc
  have far:∀k,l[k]?=some (some q)→False:=fun k e=>by
   have:l.any (EB q)=true:=List.any_eq_true.2 ⟨some q,zG e,Nat.beq_refl q⟩
   rw [hb] at this;cases this
  refine ⟨fun k o e=>?_,fun k k' o e e'=>?_⟩
  ·cases k with
   | zero=>
    simp only [List.getElem?_cons_zero,zI] at e
    subst e
    exact ha.imp Nat.le_of_ble_eq_true any_beq.1
   | succ k=>exact h1 k o (by simpa using e)
  ·cases k with
   | zero=>
    simp only [List.getElem?_cons_zero,zI] at e
    subst e
    cases k' with
    | zero=>rfl
    | succ k'=>exact (far k' (by simpa using e')).elim
   | succ k=>
    cases k' with
    | zero=>
     simp only [List.getElem?_cons_zero,zI] at e'
     subst e'
     exact (far k (by simpa using e)).elim
    | succ k'=>rw [h2 k k' o (by simpa using e) (by simpa using e')]
structure sG (H:LH) (E:Hm) (ds:List Nat) (F:Tr A) (h:Go.Bm.H):Prop where
 slot:∀i,VP h.aR (aX F.get i)
 mem:∀i x,fO h.t i=some x→G1 h.aR x
 top:h.aR+H.m≤cI
 bsl:∀b∈E.bs++E.cs,b<h.aR
 del:∀b∈E.dk,b<h.aR
 dsl:∀b∈ds,b<h.aR
 apart:∀b∈E.bs++E.cs,b∉E.dk
 loop:∀q∈E.qs,D1 h.t q=true∧q∉E.dk++(E.bs++E.cs)
 jz:∀r,dt H.jz r=true→∃x,bq h.rg r=some x
theorem xm {H:LH} {E:Hm} {ds:List Nat} {F:Tr A} {h:Go.Bm.H} (k:AU H E ds F h=true):sG H E ds F h:=by
 unfold AU at k
 rw [zC,zC,zC,zC,zC,zC,zC,zC] at k
 obtain ⟨⟨⟨⟨⟨⟨⟨⟨k1,k2⟩,k3⟩,k4⟩,k5⟩,k6⟩,k7⟩,k9⟩,k8⟩:=k
 rw [List.all_eq_true] at k4 k5 k6 k7 k8 k9
 refine ⟨DF k1,fun i x e=>?_,Nat.le_of_ble_eq_true k3,fun b hb=>aY (k4 b hb),fun b hb=>aY (k5 b hb),fun b hb=>aY (k6 b hb),fun b hb hd=>?_,fun q hq=>?_,fun r hr=>?_⟩
 ·unfold fO at e
  split at e
  ·rename_i m hm
   cases e
   exact Ia (nf k2 i m hm)
  ·cases e
 ·have:=k7 b hb
  rw [any_beq.2 hd] at this;cases this
 ·have:=k9 q hq
  rw [zC] at this
  refine ⟨this.1,fun hm=>?_⟩
  have h2:=this.2
  rw [any_beq.2 hm] at h2;cases h2
 ·obtain ⟨p,p1,p2⟩:=List.any_eq_true.1 hr
  have:=k8 p p1
  rw [beq_eq p2] at this
  exact Option.isSome_iff_exists.1 this
theorem Aa {t:Tr gH} {q:Nat} (h:D1 t q=true):fO t q=some (.cX (.loop .ready none)):=by
 unfold D1 at h
 split at h
 ·rename_i hq;unfold fO;rw [hq];rfl
 ·cases h
section
variable {H:LH} {lL O2:List Nat} {E:Hm} {Fe:Tr A} {he:Go.Bm.H} {s:H.S} {Fc:Tr A} {hc:Go.Bm.H}
theorem vA {aU:Nat→Option Ob→Prop}:∀(l:List ((Nat×Option Nat)×Ty)) (bs:List Nat) (x:kG (l.map fun p=>(false,p.2))),(∀b∈bs,∀ob,aU b ob)→GB aU l bs x
 | [],_,_,_=>trivial
 | _::_,[],_,_=>trivial
 | p::l,b::bs,x,h=>⟨h b (.head _) _,vA l bs x.2 (fun b hb=>h b (.tail _ hb))⟩
theorem vu {aU:Nat→Option Ob→Prop} {m:Nat}:∀(l:List (Nat×Ty)) (j:Nat) (x:kG (l.map fun p=>(false,Ty.aF p.2))),j+l.length≤m→(∀i,j≤i→i<m→∀ob,aU i ob)→Gz aU l j x
 | [],_,_,_,_=>trivial
 | p::l,j,x,hm,h=>by
  have hm:j+(l.length+1)≤m:=hm
  exact ⟨h j (Nat.le_refl _) (by omega) _,vu l (j+1) x.2 (by omega) (fun i h1 h2=>h i (by omega) h2)⟩
theorem vt {aU:Nat→Option Ob→Prop} {m:Nat}:∀(ks:List (Bool×Ty)) (x:kG (Mg ks)) (j:Nat),j+ou ks≤m→(∀i,j≤i→i<m→∀ob,aU i ob)→CY aU ks x j
 | [],_,_,_,_=>trivial
 | (true,_)::l,x,j,hm,h=>by
  have hm:j+(ou l+1)≤m:=hm
  exact ⟨h j (Nat.le_refl _) (by omega) _,vt l x.2 (j+1) (by omega) (fun i h1 h2=>h i (by omega) h2)⟩
 | (false,_)::l,x,j,hm,h=>vt l x.2 j hm h
theorem vv {aU:Nat→Option Ob→Prop} {m:Nat}:∀(l:List ((Nat×Option Nat)×List (Bool×Ty))) (bs:List Nat) (j:Nat) (x:CB l),j+qz l≤m→(∀b∈bs,∀ob,aU b ob)→(∀i,j≤i→i<m→∀ob,aU i ob)→GA aU l bs j x
 | [],_,_,_,_,_,_=>trivial
 | _::_,[],_,_,_,_,_=>trivial
 | p::l,b::bs,j,x,hm,hb,h=>by
  have hm:j+(ou p.2+qz l)≤m:=hm
  exact ⟨hb b (.head _) _,vt p.2 x.1 j (by omega) h,vv l bs _ x.2 (by omega) (fun b L6=>hb b (.tail _ L6)) (fun i h1 h2=>h i (by omega) h2)⟩
theorem rT (EO:sG H E O2 Fe he) (J:pK H lL E Fe he s Fc hc):(∀i,i<he.aR→i∉E.dk++(E.bs++E.cs)→(hp hc).ob i=(hp he).ob i) ∧
  (∀i,¬i<cI→dt H.jz (mq i)=false→(hp hc).ob i=(hp he).ob i∧((hp hc).fr i↔(hp he).fr i)) ∧
  ∀i,wt (jT H he.aR E) i=false→(hp hc).ob i=(hp he).ob i∧((hp hc).fr i↔(hp he).fr i):=by
 have Yi:=EO.top
 have hm:H.m=H.grow.length+qz H.xu:=rfl
 have L1:∀i,i∉E.dk++(E.bs++E.cs)→(∀k,k<H.m→i≠he.aR+k)→fO hc.t i=fO he.t i:=fun i h1 h2=>by
  have X9:∀b∈E.bs++E.cs,∀ob,b∉E.dk++(E.bs++E.cs)→(∀k,k<H.m→b≠he.aR+k)→ob=fO he.t b:=fun b hb ob hn=>absurd (zS _ hb) hn
  have DV:∀i,he.aR≤i→i<he.aR+H.m→∀ob,i∉E.dk++(E.bs++E.cs)→(∀k,k<H.m→i≠he.aR+k)→ob=fO he.t i:=fun i q1 q2 ob _ hn=>absurd (show i=he.aR+(i-he.aR) by omega) (hn (i-he.aR) (by omega))
  exact J.t (fun i ob=>i∉E.dk++(E.bs++E.cs)→(∀k,k<H.m→i≠he.aR+k)→ob=fO he.t i) (fun i hi hn=>absurd hi hn) (fun i _ _ _=>rfl)
   (vA _ _ _ (fun b hb=>X9 b (zQ _ hb))) (vv (m:=he.aR+H.m) _ _ _ _ (by omega) (fun b hb=>X9 b (zS _ hb)) (fun i q1 q2=>DV i (by omega) q2)) (vu (m:=he.aR+H.m) _ _ _ (by omega) DV) i h1 h2
 have eH:∀i,¬i<cI→dt H.jz (mq i)=false→(hp hc).ob i=(hp he).ob i∧((hp hc).fr i↔(hp he).fr i):=fun i hl hk=>by
  rw [(fm hl).1,(fm hl).2,(fm hl).1,(fm hl).2]
  unfold dR gf
  rw [J.rg,lP _ _ _ EO.jz,hk,if_neg (by simp)]
  exact ⟨rfl,Iff.rfl⟩
 refine ⟨fun i h1 h2=>?_,eH,fun i hw=>?_⟩
 ·have hl:i<cI:=by omega
  show (if i<cI then fO hc.t i else _)=(if i<cI then fO he.t i else _)
  rw [if_pos hl,if_pos hl]
  exact L1 i h2 (fun k _=>by omega)
 ·have hw:(((E.bs++E.cs).map dz++E.dk.map dz)++((List.range H.m).map (fun k=>dz (he.aR+k))++H.jz.map fun p=>iF p.1)).any (Nat.beq (res i))=false:=hw
  rw [List.any_append,List.any_append,List.any_append] at hw
  simp only [Bool.or_eq_false_iff] at hw
  obtain ⟨⟨w1,w2⟩,w3,w4⟩:=hw
  by_cases hl:i<cI
  ·have nin:∀l:List Nat,(l.map dz).any (Nat.beq (res i))=false→i∉l:=fun l h hm=>by
    rw [any_beq.2 (by rw [ni hl];exact List.mem_map.2 ⟨i,hm,rfl⟩)] at h;cases h
   have n3:∀k,k<H.m→i≠he.aR+k:=fun k hk e=>by
    rw [any_beq.2 (by rw [ni hl,e];exact List.mem_map.2 ⟨k,List.mem_range.2 hk,rfl⟩)] at w3;cases w3
   refine ⟨?_,?_⟩
   ·show (if i<cI then fO hc.t i else _)=(if i<cI then fO he.t i else _)
    rw [if_pos hl,if_pos hl]
    exact L1 i (fun h=>(zX.1 h).elim (nin _ w2) (nin _ w1)) n3
   ·show (if i<cI then hc.aR≤i else _)↔(if i<cI then he.aR≤i else _)
    rw [if_pos hl,if_pos hl,J.aR]
    refine ⟨fun h=>by omega,fun h=>?_⟩
    rcases Nat.lt_or_ge i (he.aR+H.m) with h1 | h1
    ·exact absurd (show i=he.aR+(i-he.aR) by omega) (n3 (i-he.aR) (by omega))
    ·exact h1
  ·refine eH i hl ?_
   rw [pW hl,vr] at w4
   exact w4
theorem Lz {n:Nat} {F':Tr A} {h':Go.Bm.H} {jF:List Nat} {T:Fp} (EO:sG H E O2 Fe he) (ph:∀i,he.aR≤i→i<cI→fO he.t i=none) (U_:∀i,i∉lL→aX F'.get i=aX Fe.get i)
  (UO:∀i,i<he.aR→i∉E.dk++(E.bs++E.cs++E.qs)→(hp h').ob i=(hp he).ob i) (aaM:∀i,¬i<cI→dt H.jz (mq i)=false→(hp h').ob i=(hp he).ob i∧((hp h').fr i↔(hp he).fr i))
  (IJ:C7 H n he.aR E.bs E.cs E.qs E.dk O2 F' h' jF T=some s) (J:pK H lL E Fe he s Fc hc) {S0:Hp} {g0:G} {w0 w:World} {a:Act} (hf:∀o,he.aR≤o→o<cI→S0.fr o∧g0.bm o=none)
  (hR:R S0 g0 w0 (fp n F' jF (hp h')) a w):R S0 g0 w0 (fp n Fc O2 (hp hc)) a w:=by
 have Yi:=EO.top
 have hm:H.m=H.grow.length+qz H.xu:=rfl
 unfold C7 at IJ
 obtain ⟨Db,II⟩:=af IJ
 clear IJ
 rw [zC,zC] at Db
 obtain ⟨⟨_,Y3⟩,hqs⟩:=Db
 rw [List.all_eq_true] at hqs
 obtain rfl:=FV Y3
 split at II
 ·rename_i v gg b ee c hv hg hb Nx Hh
  obtain ⟨OS,aaQ⟩:=af II
  clear II
  cases aaQ
  obtain ⟨gr,nG⟩:=gg
  obtain ⟨er,nC⟩:=ee
  obtain ⟨n1,n2⟩:=uF OS
  obtain ⟨p1,p2⟩:=Ef _ _ _ hg
  obtain ⟨c1,c2,c3⟩:=Ad _ _ _ _ Nx
  obtain ⟨g,hI,hE,hD,hs,hV⟩:=hR
  have hV:∀i,i<n→V g (aX F'.get i) (a.tmps.getD i undef):=hV
  have Nq:(nG++nC).length=H.m:=by rw [zY,p1,c1];exact hm.symm
  have LI:∀(k o:Nat),(nG++nC)[k]?=some (some o)→o<cI:=fun k o e=>by
   by_cases hk:k<nG.length
   ·rw [zK hk] at e;exact DW hg k o e
   ·rw [zJ (by omega)] at e;exact c2 _ o e
  have gap:∀(k:Nat) (nm:Option Nat),nG[k]?=some nm→(nG++nC)[k]?=some nm:=fun k nm e=>by rw [zK (zB.1 e).1];exact e
  have cap:∀(k:Nat) (nm:Option Nat),nC[k]?=some nm→(nG++nC)[H.grow.length+k]?=some nm:=fun k nm e=>by rw [zJ (by omega),p1,Nat.add_sub_cancel_left];exact e
  have UW:∀(k o:Nat),(nG++nC)[k]?=some (some o)→he.aR≤o∨o∈E.dk:=n1
  have UU:∀(k k' o:Nat),(nG++nC)[k]?=some (some o)→(nG++nC)[k']?=some (some o)→k=k':=n2
  generalize uW:nG++nC=names at Nq LI gap cap UW UU
  have hlN:he.aR+names.length≤cI:=by rw [Nq];exact Yi
  have kY:=Fz he.aR names g
  have TX:∀(k:Nat) (nm:Option Nat) (z:Nat) (cc:A),names[k]?=some nm→xC z cc nm→∀v,V g cc v→V (gj he.aR names g) (.tw (.loc (he.aR+k)) z) v:=fun k nm z cc e G8 v hvi=>by
   cases nm with
   | some o=>
    have G8:cc = .tw (.loc o) z:=G8
    rw [G8] at hvi
    have bK:(gj he.aR names g).bm (he.aR+k)=g.bm o:=xa e hlN
    cases hvi with
    | te _ _ ad h1=>exact .te (.loc (he.aR+k)) z ad (bK.trans h1)
    | tw _ _ m b cap t h1 hn hx hp d hd=>exact .tw (.loc (he.aR+k)) z m b cap t (bK.trans h1) hn hx hp d hd
   | none=>
    obtain ⟨ad,h1⟩:=G8 g _ hvi
    rw [h1]
    exact .te (.loc (he.aR+k)) z ad (xa e hlN)
  have TY:∀(k:Nat) (nm:Option Nat) (t:Ty) (l:List t.T),names[k]?=some nm→GF t h'.t l nm→∀x,some (Ob.cells (l.flatMap (aA t)))=some x→(he.aR+k<he.aR→(((hp h').ob (he.aR+k)=some x∧G1 he.aR x)∨∃cs cs',(hp h').ob (he.aR+k)=some (.cells cs)∧x = .cells cs'∧cs'.length=cs.length∧∀vs,Vs g cs vs→Vs (gj he.aR names g) cs' vs)) ∧
    (he.aR≤he.aR+k→he.aR+k<cI→∃k' nm,he.aR+k=he.aR+k'∧names[k']?=some nm∧(∀o,nm=some o→(hp h').ob o=some x∧G1 he.aR x)∧(nm=none→x = .cells [])):=fun k nm t l e E8 x hx=>by
   cases hx
   refine ⟨fun eO=>by omega,fun _ eO=>⟨k,nm,rfl,e,fun o ho=>?_,fun ho=>?_⟩⟩
   ·subst ho
    have E8:o<cI∧fO h'.t o=some (.cells (l.flatMap (aA t))):=E8
    refine ⟨?_,fun c hc=>by obtain ⟨y,_,hy⟩:=List.mem_flatMap.1 hc;exact jv t y c hy⟩
    show (if o<cI then _ else _)=_
    rw [if_pos E8.1];exact E8.2
   ·subst ho
    have E8:l=[]:=E8
    subst E8;rfl
  have fe:∀i,i<cI→(hp h').ob i=fO h'.t i:=fun i hi=>if_pos hi
  have km:=p2 (fun i c=>i<n→V (gj he.aR names g) c (a.tmps.getD i undef)) (fun i ob=>∀x,ob=some x→(i<he.aR→(((hp h').ob i=some x∧G1 he.aR x)∨∃cs cs',(hp h').ob i=some (.cells cs)∧x = .cells cs'∧cs'.length=cs.length∧∀vs,Vs g cs vs→Vs (gj he.aR names g) cs' vs))∧(he.aR≤i→i<cI→∃k nm,i=he.aR+k∧names[k]?=some nm∧(∀o,nm=some o→(hp h').ob o=some x∧G1 he.aR x)∧(nm=none→x = .cells []))) he.aR
   (fun k nm i z e hi G8 _=>TX k nm z _ (gap k nm e) G8 _ (hV i hi)) (fun k nm t l e E8=>TY k nm t l (gap k nm e) E8)
  have hF:=J.F (fun i c=>i<n→V (gj he.aR names g) c (a.tmps.getD i undef)) (fun i _ _=>.cG _)
   (fun i hi hn=>by
    have:=hV i hn
    rw [U_ i hi] at this
    exact EO.slot i g _ _ kY this)
   (Ee (fun i ag t x hi hx _=>oY ag t x g _ _ kY (kq hx (hV i hi))) _ _ hv) km.1
  have hT:=J.t _ (fun i _ x hx=>by cases hx)
   (fun i hi x hx=>by
    refine ⟨fun eO=>.inl ?_,fun h1 h2=>by rw [ph i h1 h2] at hx;cases hx⟩
    have he1:(hp h').ob i=fO he.t i:=by
     by_cases hq:i∈E.qs
     ·rw [fe i (by omega),Aa (hqs i hq),Aa (EO.loop i hq).1]
     ·rw [UO i eO (fun h=>by
       rcases zX.1 h with h | h
       ·exact hi (zQ _ h)
       ·rcases zX.1 h with h | h
        ·exact hi (zS _ h)
        ·exact hq h)]
      exact if_pos (by omega)
    exact ⟨he1.trans hx,EO.mem i x hx⟩)
   (Eh (tt:=h'.t) _ _ _ (fun b t y hbm hbt x hx=>by
    cases hx
    have eO:=EO.bsl b (zQ _ hbm)
    exact ⟨fun _=>.inl ⟨by rw [fe b (by omega)];exact hbt,jv t y⟩,fun h=>by omega⟩) hb)
   (c3 he.aR g (gj he.aR names g) (he.aR+H.grow.length) _ kY (fun k nm z cc e G8 v hv=>by have:=TX (H.grow.length+k) nm z cc (cap k nm e) G8 v hv;rwa [←Nat.add_assoc] at this) (fun k nm t l e E8=>by have:=TY (H.grow.length+k) nm t l (cap k nm e) E8;rwa [←Nat.add_assoc] at this)
    (fun b cs cs' hbm hbt hl hcv x hx=>by
     cases hx
     have eO:=EO.bsl b (zS _ hbm)
     exact ⟨fun _=>.inr ⟨cs,cs',by rw [fe b (by omega)];exact hbt,rfl,hl,hcv⟩,fun h=>by omega⟩)) km.2
  have hDl:∀i,i∈E.dk→fO hc.t i=none:=fun i hi=>by
   have DV:∀i,he.aR≤i→i<he.aR+H.m→∀ob:Option Ob,i∈E.dk→ob=none:=fun i q1 _ ob hn=>by have:=EO.del _ hn;omega
   have X9:∀b∈E.bs++E.cs,∀ob:Option Ob,b∈E.dk→ob=none:=fun b hb ob hn=>absurd hn (EO.apart b hb)
   exact J.t (fun i ob=>i∈E.dk→ob=none) (fun _ _ _=>rfl) (fun i hn hd=>absurd (zQ _ hd) hn) (vA _ _ _ (fun b hb=>X9 b (zQ _ hb))) (vv (m:=he.aR+H.m) _ _ _ _ (by omega) (fun b hb=>X9 b (zS _ hb)) (fun i q1 q2=>DV i (by omega) q2)) (vu (m:=he.aR+H.m) _ _ _ (by omega) DV) i hi
  have Vf:=lB _ _ _ Hh
  have hRg:∀i,¬i<cI→(hp hc).ob i=(hp h').ob i∧((hp hc).fr i↔(hp h').fr i):=fun i hl=>by
   cases hk:dt H.jz (mq i) with
   | true=>
    obtain ⟨q1,_⟩:=Vf _ hk
    rw [(fm hl).1,(fm hl).2,(fm hl).1,(fm hl).2]
    unfold dR gf
    rw [J.rg,lP _ _ _ EO.jz,hk,if_pos rfl,q1]
    exact ⟨rfl,Iff.rfl⟩
   | false=>
    have e1:=(rT EO J).2.1 i hl hk
    have e2:=aaM i hl hk
    exact ⟨e1.1.trans e2.1.symm,e1.2.trans e2.2.symm⟩
  have Ny:∀i,i<cI→(hp hc).ob i=fO hc.t i:=fun i hi=>if_pos hi
  have AI:∀{i},¬stay he.aR i→he.aR≤i∧i<cI:=fun {i} h=>by unfold stay at h;omega
  have hrj:=MG (S':=hp hc) hlN (fun i x hi e=>?_) (fun i x hi e=>?_) UU (fun k o e hi=>?_) (fun i e=>⟨fun hi=>?_,fun hi=>?_⟩) hf hI hE
  ·refine ⟨_,hrj.1,hrj.2,⟨hD.1,fun i d e e1 e2=>?_⟩,hs,fun i hi=>hF i hi⟩
   have hdl:=EO.dsl d (zG e1)
   refine ⟨fun hd=>?_,fun hd=>absurd hd (by have:cI=16777216:=rfl;omega)⟩
   obtain ⟨b',s',q1,q2⟩:=(hD.2 i d e e1 e2).1 hd
   exact ⟨b',s',(kY.bm d (.inl hdl)).trans q1,q2⟩
  ·rcases hi with hi | hi
   ·rw [Ny i (by omega)] at e
    exact (hT i x e).1 hi
   ·refine .inl ⟨(hRg i hi).1.symm.trans e,?_⟩
    rw [(fm hi).1] at e
    unfold dR at e
    split at e
    ·exact DZ e
    ·cases e
  ·obtain ⟨h1,h2⟩:=AI hi
   rw [Ny i h2] at e
   exact (hT i x e).2 h1 h2
  ·have hol:=LI k o e
   rcases UW k o e with h1 | h1
   ·rcases hi with hi | hi
    ·omega
    ·exact absurd hol hi
   ·rw [Ny o hol];exact hDl o h1
  ·obtain ⟨h1,h2⟩:=AI hi
   have e:(if i<cI then hc.aR≤i else _):=e
   rw [if_pos h2,J.aR] at e
   rw [Nq];exact e
  ·rcases hi with hi | hi
   ·have e:(if i<cI then hc.aR≤i else _):=e
    rw [if_pos (show i<cI by omega),J.aR] at e
    omega
   ·exact (hRg i hi).2.1 e
 ·cases II
end
end
set_option linter.unusedVariables false
set_option linter.unusedSimpArgs false
section
open Go.RowKit
theorem Inv.DM {g:G} {S:Hp} {w:World} (h:Inv g S w) {q b:Nat} {s:Nat×Nat} {st st':LoopState} {pe pe':Option Code} {rr:Loop} (ho:S.ob q=some (.cX (.loop st pe))) (hg:g.bm q=some (some b,s)) (hr:w.heap[b]?=some (.loop rr)) :
  Inv g (S.set q (.cX (.loop st' pe'))) (w.putObj b (.loop { rr with state:=st',pending:=pe' }))∧Ext S g w (S.set q (.cX (.loop st' pe'))) g (w.putObj b (.loop { rr with state:=st',pending:=pe' })):=by
 have hb:b<w.heap.size:=(Array.getElem?_eq_some_iff.1 hr).1
 refine h.Dl ho hg (by simp) (fun k hk=>World.putObj_heap_other hk) rfl rfl rfl ⟨_,World.putObj_heap_same hb,_,rfl,rfl,rfl⟩ (fun l e=>⟨_,World.putObj_heap_same hb,?_⟩)
 obtain ⟨r,k1,k2⟩:=h.lp b l e
 rw [hr] at k1
 cases k1
 exact k2
theorem Inv.Ut {g:G} {S:Hp} {w:World} (h:Inv g S w) {q:Nat} (hf:S.fr q) (rr:Loop) :
  ∃g',Inv g' (S.new q (.cX (.loop rr.state rr.pending))) (w.alloc (.loop rr))∧Ext S g w (S.new q (.cX (.loop rr.state rr.pending))) g' (w.alloc (.loop rr))∧g'.bm q=some (some w.heap.size,(0,0))∧g'.lp w.heap.size=some (uJ rr):=by
 obtain ⟨i1,x1⟩:=h.alloc (s:=(0,0)) hf (x:=.cX (.loop rr.state rr.pending)) (ob:=.loop rr) ⟨_,heap_alloc_new w _,rr,rfl,rfl,rfl⟩
 have LX:(j5 g q (some w.heap.size,(0,0))).lp w.heap.size=none:=by
  cases hl:(j5 g q (some w.heap.size,(0,0))).lp w.heap.size with
  | none=>rfl
  | some l=>
   obtain ⟨r,k1,_⟩:=h.lp _ l hl
   have:=(Array.getElem?_eq_some_iff.1 k1).1
   omega
 have bK:=cg (g:=g) (o:=q) (p:=(some w.heap.size,(0,0)))
 generalize j5 g q (some w.heap.size,(0,0))=g1 at i1 x1 LX bK
 have hle:Le g1 ⟨g1.bm,g1.mem,fun k=>if k=w.heap.size then some (uJ rr) else g1.lp k⟩:=⟨fun _ _ e=>e,fun _ _ _ e=>e,fun b l e=>by
  show (if b=w.heap.size then _ else g1.lp b)=some l
  split
  ·rename_i hb;rw [hb,LX] at e;cases e
  ·exact e⟩
 refine ⟨⟨g1.bm,g1.mem,fun k=>if k=w.heap.size then some (uJ rr) else g1.lp k⟩,⟨fun o cs e=>(i1.cells o cs e).imp id fun ⟨b,t,k1,cur,ty,k2,k3,k4⟩=>⟨b,t,k1,cur,ty,k2,k3,k4.mono hle⟩,fun o x e=>?_,i1.fresh,i1.lt,i1.inj,i1.mem,i1.ly,fun b l e=>?_⟩,⟨x1.le.trans hle,x1.os,x1.tape,x1.output,x1.size,x1.frame,fun k ⟨o,s,x,e1,e2⟩=>x1.own k ⟨o,s,x,e1,e2⟩,x1.Jd,x1.fr,x1.rR,fun b l e=>?_⟩,bK,if_pos rfl⟩
 ·obtain ⟨b,s,ob,k1,k2,k3⟩:=i1.cX o x e
  exact ⟨b,s,ob,k1,k2,k3.mono hle⟩
 ·have e:(if b=w.heap.size then some (uJ rr) else g1.lp b)=some l:=e
  split at e
  ·rename_i hb;cases e;exact ⟨rr,by rw [hb];exact heap_alloc_new w _,rfl⟩
  ·exact i1.lp b l e
 ·have e:(if b=w.heap.size then some (uJ rr) else g1.lp b)=some l:=e
  split at e
  ·rename_i hb;exact .inr (by omega)
  ·exact x1.lpo b l e
section
variable {β:Type}
theorem zy {h:H} {q:Nat} {x:gH} {t':Tr gH} (hq:q<16777216) (ht:t'.get=fun m=>if m=q then some x else h.t.get m):nM h { h with t:=t' } (.wr [dz q])∧∀S,Agree (.wr [dz q]) (hp h) S→iU (.wr [dz q]) (hp { h with t:=t' }) S=S.set q x.low:=by
 have e:=qf (h:=h) (x:=x) hq ht
 have hT:∀u∈[Up.set q x.low],touch (.wr [dz q]) u.id=true:=fun u hu=>by rcases zF.1 hu with rfl;exact aB (o:=q) hq (.head _)
 have out:∀i,touch (.wr [dz q]) i=false→(hp { h with t:=t' }).ob i=(hp h).ob i∧((hp { h with t:=t' }).fr i↔(hp h).fr i):=fun i hi=>by
  rw [e];exact dj _ _ i (fun u hu hh=>by rw [hh,hT u hu] at hi;cases hi)
 exact ⟨⟨out,fun i hi=>out i (td hi)⟩,fun S hA=>by rw [e,hP hT hA];rfl⟩
theorem AW {h:H} {q:Nat} {t':Tr gH} (hq:q<16777216) (ht:t'.get=fun m=>if m=q then none else h.t.get m):nM h { h with t:=t' } (.wr [dz q])∧∀S,Agree (.wr [dz q]) (hp h) S→iU (.wr [dz q]) (hp { h with t:=t' }) S=S.del q:=by
 have e:hp { h with t:=t' }=app [.del q] (hp h):=Hp.ext' (fun i=>by
  show (if i<cI then fO t' i else _)=if i=q then none else (if i<cI then fO h.t i else _)
  unfold fO
  rw [ht]
  by_cases hi:i=q
  ·subst hi;rw [if_pos (show i<cI from hq),if_pos rfl];simp
  ·simp only [if_neg hi]) (fun i=>Iff.rfl)
 have hT:∀u∈[Up.del q],touch (.wr [dz q]) u.id=true:=fun u hu=>by rcases zF.1 hu with rfl;exact aB (o:=q) hq (.head _)
 have out:∀i,touch (.wr [dz q]) i=false→(hp { h with t:=t' }).ob i=(hp h).ob i∧((hp { h with t:=t' }).fr i↔(hp h).fr i):=fun i hi=>by
  rw [e];exact dj _ _ i (fun u hu hh=>by rw [hh,hT u hu] at hi;cases hi)
 exact ⟨⟨out,fun i hi=>out i (td hi)⟩,fun S hA=>by rw [e,hP hT hA];rfl⟩
theorem Am {h:H} {x:gH} {t':Tr gH} (hq:h.aR<16777216) (ht:t'.get=fun m=>if m=h.aR then some x else h.t.get m):nM h { h with t:=t',aR:=h.aR+1 } (.wr [dz h.aR])∧∀S,Agree (.wr [dz h.aR]) (hp h) S→iU (.wr [dz h.aR]) (hp { h with t:=t',aR:=h.aR+1 }) S=S.new h.aR x.low:=by
 have e:=Ff (h:=h) (x:=x) hq ht
 have hT:∀u∈[Up.new h.aR x.low],touch (.wr [dz h.aR]) u.id=true:=fun u hu=>by rcases zF.1 hu with rfl;exact aB (o:=h.aR) hq (.head _)
 have out:∀i,touch (.wr [dz h.aR]) i=false→(hp { h with t:=t',aR:=h.aR+1 }).ob i=(hp h).ob i∧((hp { h with t:=t',aR:=h.aR+1 }).fr i↔(hp h).fr i):=fun i hi=>by
  rw [e];exact dj _ _ i (fun u hu hh=>by rw [hh,hT u hu] at hi;cases hi)
 exact ⟨⟨out,fun i hi=>out i (td hi)⟩,fun S hA=>by rw [e,hP hT hA];rfl⟩
theorem M7 {h:H} {q:Nat} {x:gH} (hq:q<16777216) (hx:h.t.get q=some x):(hp h).ob q=some x.low:=by
 show (if q<cI then _ else _)=_
 rw [if_pos (show q<cI from hq)];unfold fO;rw [hx]
theorem A9 {h:H} {q:Nat} {S:Hp} {x:gH} {l:List Nat} {w:Bool} {s:List Nat} (hq:q<16777216) (hx:h.t.get q=some x) (hA:Agree ⟨false,l,w,s⟩ (hp h) S) (hm:dz q∈l):S.ob q=some x.low:=(hA q (aB hq hm)).1.trans (M7 hq hx)
def EX:Option Code→Option Exit
 | none=>some .normal
 | some .ret=>some .ret
 | some (.exit id)=>some (.exit id)
 | _=>none
def Ng:LoopState→Bool
 | .busy=>true
 | _=>false
def TZ:Exit→Option (Option Code)
 | .normal=>some none
 | .ret=>some (some .ret)
 | .exit id=>some (some (.exit id))
 | _=>none
def DX:Option Code→LoopState
 | none=>.ready
 | some _=>.done
theorem EW {pe:Option Code} {e:Exit} (h:EX pe=some e):(pe=none∧e = .normal)∨(pe=some .ret∧e = .ret)∨∃id,pe=some (.exit id)∧e = .exit id:=by
 unfold EX at h
 split at h
 ·cases h;exact .inl ⟨rfl,rfl⟩
 ·cases h;exact .inr (.inl ⟨rfl,rfl⟩)
 ·cases h;exact .inr (.inr ⟨_,rfl,rfl⟩)
 ·cases h
def ye:Tr A→List Tmp→List A→(Tr A→Option β)→Option β
 | F,[],[],k=>k F
 | F,t::ts,a::aa,k=>fg F t (some a) (fun F=>ye F ts aa k)
 | _,_,_,_=>none
theorem tx {r:β}:∀(ps:List Tmp) (aa:List A) (F:Tr A) (k:Tr A→Option β),ye F ps aa k=some r→∃F1,k F1=some r∧aa.length=ps.length∧∀(g:G) (n:Nat) (vs:List Value) (tmps:Array Value),aa.length=vs.length→(∀(i:Nat) (p:A) (v:Value),aa[i]?=some p→vs[i]?=some v→V g p v)→tmps.size=n→(∀i,i<n→V g (aX F.get i) (tmps.getD i undef)) →
  ((ps.zip vs).foldl (fun tmps x=>tmps.setIfInBounds x.1 x.2) tmps).size=n∧∀i,i<n→V g (aX F1.get i) (((ps.zip vs).foldl (fun tmps x=>tmps.setIfInBounds x.1 x.2) tmps).getD i undef)
 | [],[],F,k,h=>⟨F,h,rfl,fun g n vs tmps hl hv hs hF=>⟨by simpa using hs,by simpa using hF⟩⟩
 | t::ts,a::aa,F,k,h=>by
  obtain ⟨_,F',k1,k2⟩:=bo h
  obtain ⟨F1,q1,q2,q3⟩:=tx ts aa F' k k1
  refine ⟨F1,q1,by simp [q2],fun g n vs tmps hl hv hs hF=>?_⟩
  cases vs with
  | nil=>simp at hl
  | cons v vs=>
   refine q3 g n vs (tmps.setIfInBounds t v) (by simpa using hl) (fun i p v k1 k2=>hv (i+1) p v (by simpa using k1) (by simpa using k2)) (by simpa using hs) (fun i hi=>?_)
   rw [oQ k2]
   by_cases hit:i=t
   ·subst hit
    rw [if_pos rfl,show (tmps.setIfInBounds i v).getD i undef=v by simp [Array.getD,show i<tmps.size by omega]]
    exact hv 0 a v rfl rfl
   ·rw [if_neg hit,show (tmps.setIfInBounds t v).getD i undef=tmps.getD i undef by
     simp only [Array.getD_eq_getD_getElem?]
     rw [Array.getElem?_setIfInBounds_ne (fun h=>hit h.symm)]]
    exact hF i hi
 | [],_::_,_,_,h=>by cases h
 | _::_,[],_,_,h=>by cases h
theorem Uy {g:G} {fi ca:List A} {x:A} {fv cv:List Value} {v:Value} (hf:fi.length=fv.length) (h1:∀(i:Nat) (c:A) (x:Value),fi[i]?=some c→fv[i]?=some x→V g c x) (hx:V g x v) (h2:∀(i:Nat) (c:A) (x:Value),ca[i]?=some c→cv[i]?=some x→V g c x) :
  ∀(i:Nat) (p:A) (u:Value),(fi++x::ca)[i]?=some p→(fv++v::cv)[i]?=some u→V g p u:=by
 intro i p u k1 k2
 rcases Nat.lt_trichotomy i fi.length with c1 | c1 | c1
 ·rw [zK c1] at k1
  rw [zK (by omega)] at k2
  exact h1 i p u k1 k2
 ·rw [zJ (by omega)] at k1 k2
  rw [c1,Nat.sub_self] at k1
  rw [c1,hf,Nat.sub_self] at k2
  simp at k1 k2;subst k1 k2;exact hx
 ·rw [zJ (by omega)] at k1 k2
  rw [←hf] at k2
  obtain ⟨d,hd⟩:∃d,i-fi.length=d+1:=⟨i-fi.length-1,by omega⟩
  rw [hd] at k1 k2
  exact h2 d p u (by simpa using k1) (by simpa using k2)
end
end
set_option linter.unusedVariables false
set_option linter.unusedSimpArgs false
section
open Go.RowKit
section
variable {P:Program} {E:Env} {cx:Cx} {n:Nat} {β:Type} {r:β}
abbrev KC (β:Type):=Exit→Tr A→H→List Nat→Fp→Option β
def MB (K1:Tr A→H→List Nat→Fp→Option β) (K:KC β):KC β:=fun e F h ds U=>match e with
 | .normal=>K1 F h ds U
 | e=>K e F h ds U
def adC (id:Nat) (K:KC β):KC β:=fun e F h ds U=>match e with
 | .exit i=>bif Nat.beq i id then K .normal F h ds U else K (.exit i) F h ds U
 | e=>K e F h ds U
def scC (K:KC β):KC β:=fun e F h ds U=>match e with
 | .goto _=>none
 | e=>K e F h ds U
def N_ (n:Nat) (F:Tr A) (c:Operand) (k:Tr A→Bool→Option β):Option β:=match c with
 | .tmp d=>match Aj n F (.tmp d) with
  | .v (.bool b)=>br b (fg F d (some (.v (.bool true))) (fun F'=>k F' true)) (fg F d (some (.v (.bool false))) (fun F'=>k F' false))
  | _=>none
 | .const (.bool b)=>k F b
 | _=>none
theorem Jh {F:Tr A} {c:Operand} {k:Tr A→Bool→Option β} (h:N_ n F c k=some r):∃F' b,k F' b=some r∧(∀ds S,fp n F' ds S=fp n F ds S)∧Aj n F c = .v (.bool b):=by
 unfold N_ at h
 split at h
 ·rename_i d
  split at h
  ·rename_i b hb
   have same:∀(F':Tr A) (c:Bool),b=c→F'.get=(fun m=>if m=d then some (.v (.bool c)) else F.get m)→∀ds S,fp n F' ds S=fp n F ds S:=fun F' c hc e ds S=>by
    have:aX F'.get=aX F.get:=by
     funext i
     by_cases hi:i=d
     ·subst hi
      rw [Ai hb (by intro h;cases h),hc]
      unfold aX
      rw [e];simp
     ·unfold aX
      rw [e];simp [hi]
    unfold fp
    rw [this]
   rcases la h with ⟨rfl,h1⟩ | ⟨rfl,h1⟩
   ·obtain ⟨_,F',k1,k2⟩:=bo h1
    exact ⟨F',true,k1,same F' true rfl k2,hb⟩
   ·obtain ⟨_,F',k1,k2⟩:=bo h1
    exact ⟨F',false,k1,same F' false rfl k2,hb⟩
  ·cases h
 ·rename_i b
  exact ⟨F,b,h,fun ds S=>rfl,rfl⟩
 ·cases h
def l6:av→List Nat
 | .region _ ops _=>qQ ops
 | .seq x y=>l6 x++l6 y
 | .cut H x y=>(l6 x++(H.n_.map (·.1)++H.grow.map (·.1)))++l6 y
 | .cond _ x y=>l6 x++l6 y
 | .block _ x=>l6 x
 | .scope x=>l6 x
 | .loop H x=>l6 x++(H.n_.map (·.1)++H.grow.map (·.1))
 | .NI l x=>l.map (·.1)++l6 x
 | _=>[]
def yv {σ:Type} (pj:Tr A→H→List Nat→Fp→Option σ) (k:σ→Option β) (K:KC β):KC β:=fun e F h ds T=>match e with
 | .normal=>(match pj F h ds T with
  | some s=>k s
  | none=>none)
 | e=>K e F h ds T
def CW (U:Fp) (K:KC β):KC β:=fun e F h ds T=>K e F h ds (U.cat T)
abbrev Pa (β:Type):=Nat→List Oper→Tr A→H→Fp→(Tr A→H→Fp→Option β)→Option β
def zu (J:LH):Option Nat:=match J.loops with
 | [k]=>bif Nat.ble 1000000 k then some (k-1000000) else none
 | _=>none
def O3:List Oper→Option (Nat×Nat×Nat)
 | [o1,o2]=>match o1.op,o1.dst,o1.guard,o2.op,o2.guard,o2.dst with
  | .move (.tmp s),some a,none,.defer c,none,none=>match c.callee,c.args.toList with
   | .value (.func f),[.tmp b]=>bif Nat.beq a b then some (s,a,f) else none
   | _,_=>none
  | _,_,_,_,_,_=>none
 | _=>none
def Y_ {β:Type} (n:Nat) (x:Nat×Nat×Nat) (F:Tr A) (h:H) (ds:List Nat) (U:Fp) (K:Tr A→H→List Nat→Fp→Option β):Option β:=match aX F.get x.1 with
 | .ptr q off=>bif Nat.beq off 0 && Nat.blt q 16777216 && Nat.blt x.1 n && Nat.blt x.2.1 n then fg F x.2.1 (some (.ptr q 0)) (fun F1=>K F1 h ((q+16777216*(x.2.2+1))::ds) U) else none
 | _=>none
def Y7 {β:Type} (n:Nat):List (Nat×Ty)→Tr A→H→List Nat→(Tr A→H→List Nat→Option β)→Option β
 | [],F,h,T,k=>k F h T
 | p::l,F,h,T,k=>bif Nat.blt p.1 n then (match FK false p.2 (aX F.get p.1) h with
  | some (v,h',T')=>fg F p.1 (some v) (fun F'=>Y7 n l F' h' (T++T') k)
  | none=>none) else none
theorem FD {β:Type} {n:Nat} {r:β} {k:Tr A→H→List Nat→Option β}:∀(l:List (Nat×Ty)) (F:Tr A) (h:H) (T:List Nat),Y7 n l F h T k=some r →
  ∃F' h' T',k F' h' (T++T')=some r∧Kp (l.map (·.1)) F F'∧nM h h' (Fp.wr T')∧∀S0 g0 w0 ds S2 a w,Agree (Fp.wr T') (hp h) S2→R S0 g0 w0 (fp n F ds S2) a w→R S0 g0 w0 (fp n F' ds (iU (Fp.wr T') (hp h') S2)) a w
 | [],F,h,T,hr=>⟨F,h,[],by rw [List.append_nil];exact hr,.refl _ F,⟨fun _ _=>⟨rfl,Iff.rfl⟩,fun _ _=>⟨rfl,Iff.rfl⟩⟩,fun S0 g0 w0 ds S2 a w hA hR=>by
  have:iU (Fp.wr []) (hp h) S2=S2:=hP (us:=[]) (fun u hu=>by cases hu) hA
  rw [this];exact hR⟩
 | p::l,F,h,T,hr=>by
  obtain ⟨G_,hr⟩:=af (show (bif Nat.blt p.1 n then _ else none)=some r from hr)
  have G_:=aY G_
  split at hr
  ·rename_i v h1 T1 hf
   obtain ⟨_,F1,hr,uV⟩:=bo hr
   obtain ⟨us,c1,c2,c3⟩:=vf hf
   obtain ⟨F',h',T2,q1,q2,q3,q4⟩:=FD l F1 h1 (T++T1) hr
   have f1:nM h h1 (Fp.wr T1):=⟨fun i hi=>by rw [c1];exact dj us _ i (fun u hu e=>by rw [e,c2 u hu] at hi;cases hi),fun i hi=>by
    rw [c1];exact dj us _ i (fun u hu e=>by
     have:=c2 u hu
     rw [←e] at this
     exact absurd hi (by
      unfold touch at this
      unfold wt
      simpa [Fp.wr] using this))⟩
   refine ⟨F',h',T1++T2,by rw [←List.append_assoc];exact q1,?_,f1.trans q3,fun S0 g0 w0 ds S2 a w hA hR=>?_⟩
   ·intro i hi
    have h1:i≠p.1:=fun e=>hi (by rw [e];exact .head _)
    have h2:i∉l.map (·.1):=fun e=>hi (.tail _ e)
    rw [q2 i h2];unfold aX;rw [uV];simp [h1]
   ·have qM:Agree ((Fp.wr T1).cat (Fp.wr T2)) (hp h) S2:=hA
    have e1:iU (Fp.wr T1) (hp h1) S2=app us S2:=by rw [c1];exact hP c2 (by exact qM.left)
    have hov:=fU (T:=Fp.wr T1) (S2:=S2) q3
    have yQ:=Agree.right f1 qM
    have Vq:R S0 g0 w0 (fp n F1 ds (iU (Fp.wr T1) (hp h1) S2)) a w:=by
     obtain ⟨g,hI,hx,hd,hs,hv⟩:=hR
     rw [e1]
     obtain ⟨g',k1,k2,k3⟩:=c3 g S2 w _ hI qM.left (hv p.1 G_)
     refine ⟨g',k1,hx.trans k2,hd.mono k2.le,hs,fun i hi=>?_⟩
     show V g' (aX F1.get i) _
     by_cases hip:i=p.1
     ·subst hip
      unfold aX;rw [uV];simpa using k3
     ·have:aX F1.get i=aX F.get i:=by unfold aX;rw [uV];simp [hip]
      rw [this];exact (hv i hi).mono k2.le
    have:=q4 S0 g0 w0 ds _ a w yQ Vq
    rw [hov] at this
    exact this
  ·cases hr
def sj (E:Env) (cx:Cx) (inr:Bool) (n:Nat) (dr:Pa β):av→Tr A→H→List Nat→Fp→KC β→Option β
 | .skip,F,h,ds,U,K=>K .normal F h ds U
 | .ret,F,h,ds,U,K=>K .ret F h ds U
 | .exit id,F,h,ds,U,K=>K (.exit id) F h ds U
 | .bad _,_,_,_,_,_=>none
 | .region id ops d,F,h,ds,U,K=>bif d then dr id ops F h U (fun F h U=>K .normal F h ds U) else match O3 ops with
  | some x=>bif inr then none else Y_ n x F h ds U (fun F h ds U=>K .normal F h ds U)
  | none=>wk E cx n ops ops F h U (fun F h U=>K .normal F h ds U)
 | .seq x y,F,h,ds,U,K=>sj E cx inr n dr x F h ds U (MB (fun F h ds U=>sj E cx inr n dr y F h ds U K) K)
 | .cut J x y,F,h,ds,U,K=>match Ja J F h with
  | some e=>bif AU J e ds F h then
    jn (fun k=>sj E cx inr n dr x F h ds .no (yv (C7 J n h.aR e.bs e.cs e.qs e.dk ds) k (CW U K)))
     (fun s=>Cn J (l6 x++(J.n_.map (·.1)++J.grow.map (·.1))) e.bs e.cs e.dk F h s (fun Fc hc=>sj E cx inr n dr y Fc hc ds .no (CW (U.cat (jT J h.aR e)) K)))
   else none
  | none=>none
 | .cond c x y,F,h,ds,U,K=>N_ n F c (fun F b=>bif b then sj E cx inr n dr x F h ds U K else sj E cx inr n dr y F h ds U K)
 | .block id x,F,h,ds,U,K=>sj E cx inr n dr x F h ds U (adC id K)
 | .scope x,F,h,ds,U,K=>sj E cx inr n dr x F h ds U (scC K)
 | .label _,F,h,ds,U,K=>K .normal F h ds U
 | .NI l x,F,h,ds,U,K=>Y7 n l F h [] (fun F h T=>sj E cx inr n dr x F h ds (U.cat (Fp.wr T)) K)
 | .loop J x,F,h,ds,U,K=>match zu J with
  | some m=>Nat.rec (motive:=fun _=>Tr A→H→List Nat→Fp→Option β) (fun _ _ _ _=>none) (fun _ ih F h ds U=>sj E cx inr n dr x F h ds U (MB ih K)) m F h ds U
  | none=>match Ja J F h with
  | some e=>bif AU J e ds F h then (match C7 J n h.aR e.bs e.cs e.qs e.dk ds F h ds .no with
   | some s0=>loop (fun k s=>Cn J (l6 x++(J.n_.map (·.1)++J.grow.map (·.1))) e.bs e.cs e.dk F h s (fun Fc hc=>sj E cx inr n dr x Fc hc ds .no (yv (C7 J n h.aR e.bs e.cs e.qs e.dk ds) k (CW (U.cat (jT J h.aR e)) K)))) s0
   | none=>none) else none
  | none=>none
 | .range g ps J aa bd,F,h,ds,U,K=>bif inr then none else match Aj n F g with
  | .fn f fi ca=>bif Nat.blt h.aR 16777214 then fg h.t h.aR (some (.cX .AV)) (fun t1=>fg t1 (h.aR+1) (some (.cX (.loop .ready none))) (fun t2=>cx.call β f (fi ++ .sH (h.aR+1) n F ps J aa bd::ca) { h with t:=t2,aR:=h.aR+1+1 } (fun _ h3 T3=>match h3.t.get (h.aR+1) with
   | some (.cX (.loop st pe))=>bif Ng st then none else fg h3.t (h.aR+1) none (fun t4=>match EX pe with
    | some e=>K e F { h3 with t:=t4 } (h.aR::ds) (U.cat (((Fp.wr [dz h.aR]).cat (.wr [dz (h.aR+1)])).cat (T3.cat (.wr [dz (h.aR+1)]))))
    | none=>none)
   | _=>none))) else none
  | _=>none
def Does (P:Program) (inr:Bool) (n:Nat) (c:Code) (F:Tr A) (h:H) (ds:List Nat) (e:Exit) (F':Tr A) (h':H) (jF:List Nat) (T:Fp):Prop:=
 nM h h' T∧∀ro,(inr=false→ro=none)→∀S0 g0 w0,GN F h F' h' n T (fun Q st=>pw P ro S0 g0 w0 c Q st) e ds jF
def C3 (P:Program) (n:Nat) (dr:Pa β):Prop:=
 ∀id ops F h U K (r:β),dr id ops F h U K=some r→∃F' h' T,K F' h' (U.cat T)=some r∧Kp (qQ ops) F F'∧∀inr ds,Does P inr n (.region id ops.toArray true) F h ds .normal F' h' ds T
theorem all_eq {S S2:Hp} {l m:List Nat} {w:Bool} (h:Agree ⟨true,l,w,m⟩ S S2):S2=S:=Hp.ext' (fun i=>(h i rfl).1) (fun i=>(h i rfl).2)
theorem Af {S S2:Hp} {l m:List Nat} {w:Bool}:iU ⟨true,l,w,m⟩ S S2=S:=Hp.ext' (fun i=>by
 show (if touch ⟨true,l,w,m⟩ i=true then S.ob i else S2.ob i)=S.ob i
 rw [if_pos (show touch ⟨true,l,w,m⟩ i=true from rfl)]) (fun i=>by
 show (if touch ⟨true,l,w,m⟩ i=true then S.fr i else S2.fr i)↔S.fr i
 rw [if_pos (show touch ⟨true,l,w,m⟩ i=true from rfl)])
theorem E0 (J:LH) (N:Nat) (e:Hm) (T:Fp):∃l m w,(jT J N e).cat T=⟨true,l,w,m⟩:=⟨_,_,_,rfl⟩
theorem R.entry {n:Nat} {F:Tr A} {h:H} {ds:List Nat} {S0:Hp} {g0:G} {w0 w:World} {a:Act} (hR:R S0 g0 w0 (fp n F ds (hp h)) a w):(∀i,h.aR≤i→i<cI→fO h.t i=none)∧∀o,h.aR≤o→o<cI→S0.fr o∧g0.bm o=none:=by
 obtain ⟨g,hI,hE,_⟩:=hR
 have hI:Inv g (hp h) w:=hI
 have hE:Ext S0 g0 w0 (hp h) g w:=hE
 have fr:∀o,h.aR≤o→o<cI→(hp h).fr o:=fun o h1 h2=>by show (if o<cI then _ else _);rw [if_pos h2];exact h1
 refine ⟨fun i h1 h2=>?_,fun o h1 h2=>⟨hE.fr o (fr o h1 h2),?_⟩⟩
 ·cases hx:fO h.t i with
  | none=>rfl
  | some x=>
   have fe:(hp h).ob i=some x:=by show (if i<cI then _ else _)=_;rw [if_pos h2];exact hx
   have bK:=hI.fresh i (fr i h1 h2)
   cases x with
   | cells cs=>
    rcases hI.cells i cs fe with ⟨k,_⟩ | ⟨b,t,k,_⟩
    ·rw [bK] at k;cases k
    ·rw [bK] at k;cases k
   | cX x=>
    obtain ⟨b,s,ob,k,_⟩:=hI.cX i x fe
    rw [bK] at k;cases k
 ·have bK:=hI.fresh o (fr o h1 h2)
  cases hx:g0.bm o with
  | none=>rfl
  | some p=>rw [hE.le.bm o p hx] at bK;cases bK
section
variable {J:LH} {lL ds:List Nat} {En:Hm} {F:Tr A} {h:H}
theorem yG {s:J.S} {Fc:Tr A} {hc:H} (k:pK J lL En F h s Fc hc) (hv:∀i,i∈J.n_.map (·.1)++J.grow.map (·.1)→i∈lL):Kp lL F Fc:=by
 have aV:∀(l:List (Nat×Bool×Ty)) (x:kG (l.map (·.2))),(∀i∈l.map (·.1),i∈lL)→Gy (fun i c=>i∉lL→c=aX F.get i) l x:=fun l=>by
  induction l with
  | nil=>exact fun _ _=>trivial
  | cons p l ih=>exact fun x hh=>⟨fun hn=>absurd (hh p.1 (.head _)) hn,ih x.2 (fun i hi=>hh i (.tail _ hi))⟩
 have aW:∀(l:List (Nat×Ty)) (j:Nat),(∀i∈l.map (·.1),i∈lL)→Gx (fun i c=>i∉lL→c=aX F.get i) l j:=fun l=>by
  induction l with
  | nil=>exact fun _ _=>trivial
  | cons p l ih=>exact fun j hh=>⟨fun hn=>absurd (hh p.1 (.head _)) hn,ih (j+1) (fun i hi=>hh i (.tail _ hi))⟩
 exact k.F (fun i c=>i∉lL→c=aX F.get i) (fun i h1 h2=>absurd h1 h2) (fun i _ _=>rfl) (aV _ _ (fun i hi=>hv i (zQ _ hi))) (aW _ _ (fun i hi=>hv i (zS _ hi)))
theorem Ux {n:Nat} {s s':J.S} {Fc O_ F1:Tr A} {hc Hh h1:H} {mz:List Nat} {T1:Fp} (E:sG J En ds F h) (k:pK J lL En F h s Fc hc) (k':pK J lL En F h s' O_ Hh) (hv:∀i,i∈J.n_.map (·.1)++J.grow.map (·.1)→i∈lL)
  (hkp:Kp lL Fc F1) (oH:nM hc h1 T1) (IJ:C7 J n h.aR En.bs En.cs En.qs En.dk ds F1 h1 mz T1=some s') {S0:Hp} {g0:G} {w0 w:World} {a:Act} (ph:∀i,h.aR≤i→i<cI→fO h.t i=none) (hf:∀o,h.aR≤o→o<cI→S0.fr o∧g0.bm o=none)
  (hR:R S0 g0 w0 (fp n F1 mz (hp h1)) a w):R S0 g0 w0 (fp n O_ ds (hp Hh)) a w:=by
 obtain ⟨j1,j2,_⟩:=rT E k
 have hw:=IJ
 unfold C7 at hw
 obtain ⟨Db,_⟩:=af hw
 rw [zC,zC] at Db
 have aaF:=E.top
 exact Lz E ph (fun i hi=>(hkp i hi).trans (yG k hv i hi)) (fun i hi hn=>(oH.rd i (xt Db.1.1 (by omega) hi hn)).1.trans (j1 i hi (fun h=>hn (by
   rcases zX.1 h with h | h
   ·exact zQ _ h
   ·exact zS _ (zQ _ h)))))
  (fun i hl hk=>by
   have e1:=oH.rd i (xr Db.1.1 hl hk)
   have e2:=j2 i hl hk
   exact ⟨e1.1.trans e2.1,e1.2.trans e2.2⟩) IJ k' hf hR
theorem L7 {n:Nat} {s':J.S} {O_ F1:Tr A} {Hh h1:H} {mz:List Nat} {T1:Fp} (E:sG J En ds F h) (k':pK J lL En F h s' O_ Hh)
  (hkp:Kp lL F F1) (oH:nM h h1 T1) (IJ:C7 J n h.aR En.bs En.cs En.qs En.dk ds F1 h1 mz T1=some s') {S0:Hp} {g0:G} {w0 w:World} {a:Act} (ph:∀i,h.aR≤i→i<cI→fO h.t i=none) (hf:∀o,h.aR≤o→o<cI→S0.fr o∧g0.bm o=none)
  (hR:R S0 g0 w0 (fp n F1 mz (hp h1)) a w):R S0 g0 w0 (fp n O_ ds (hp Hh)) a w:=by
 have hw:=IJ
 unfold C7 at hw
 obtain ⟨Db,_⟩:=af hw
 rw [zC,zC] at Db
 have aaF:=E.top
 exact Lz E ph (fun i hi=>hkp i hi) (fun i hi hn=>(oH.rd i (xt Db.1.1 (by omega) hi hn)).1) (fun i hl hk=>oH.rd i (xr Db.1.1 hl hk)) IJ k' hf hR
theorem E3 {s:J.S} {Fc:Tr A} {hc:H} (E:sG J En ds F h) (k:pK J lL En F h s Fc hc):nM h hc (jT J h.aR En):=⟨fun i hi=>(by cases hi),(rT E k).2.2⟩
theorem wP {σ:Type} {pj:Tr A→H→List Nat→Fp→Option σ} {k:σ→Option β} {K:KC β} {e:Exit} {T:Fp} (hr:yv pj k K e F h ds T=some r):(e = .normal∧∃s,pj F h ds T=some s∧k s=some r)∨(e≠.normal∧K e F h ds T=some r):=by
 unfold yv at hr
 split at hr
 ·split at hr
  ·rename_i s hs;exact .inl ⟨rfl,s,hs,hr⟩
  ·cases hr
 ·rename_i lf;exact .inr ⟨lf,hr⟩
theorem Ao {inr:Bool} {n:Nat} {x:av} {dr:Pa β} {E:Env} {cx:Cx} {K:KC β} {U:Fp} (hx:∀(F:Tr A) (h:H) (ds:List Nat) (U:Fp) (K:KC β),sj E cx inr n dr x F h ds U K=some r→∃e F' h' jF T,K e F' h' jF (U.cat T)=some r∧Kp (l6 x) F F'∧Does P inr n x.code F h ds e F' h' jF T)
  (EO:sG J En ds F h) (hv:∀i,i∈J.n_.map (·.1)++J.grow.map (·.1)→i∈lL) (ha:∀i,i∈l6 x→i∈lL):∀(m:Nat) (s:J.S),iter (fun k s=>Cn J lL En.bs En.cs En.dk F h s (fun Fc hc=>sj E cx inr n dr x Fc hc ds .no (yv (C7 J n h.aR En.bs En.cs En.qs En.dk ds) k (CW (U.cat (jT J h.aR En)) K)))) m s=some r →
  ∃Fc hc,pK J lL En F h s Fc hc∧∃e F' h' jF T,K e F' h' jF (U.cat ((jT J h.aR En).cat T))=some r∧Kp lL F F'∧nM h h' ((jT J h.aR En).cat T) ∧
   ∀ro,(inr=false→ro=none)→∀S0 g0 w0,(∀i,h.aR≤i→i<cI→fO h.t i=none)→(∀o,h.aR≤o→o<cI→S0.fr o∧g0.bm o=none)→∀Q:Exit→St→Prop,Q e (fp n F' jF (hp h'))→∀a w,R S0 g0 w0 (fp n Fc ds (hp hc)) a w→Code.roundsIn (FR ro) 0 P x.code (lift S0 g0 w0 Q) m a w
 | 0,s,hr=>by cases hr
 | m+1,s,hr=>by
  obtain ⟨Fc,hc,k1,k2⟩:=wU (show Cn J lL En.bs En.cs En.dk F h s (fun Fc hc=>sj E cx inr n dr x Fc hc ds .no (yv (C7 J n h.aR En.bs En.cs En.qs En.dk ds) (iter (fun k s=>Cn J lL En.bs En.cs En.dk F h s (fun Fc hc=>sj E cx inr n dr x Fc hc ds .no (yv (C7 J n h.aR En.bs En.cs En.qs En.dk ds) k (CW (U.cat (jT J h.aR En)) K)))) m) (CW (U.cat (jT J h.aR En)) K)))=some r from hr)
  obtain ⟨e1,F1,h1,mz,T1,k3,k4,k5,k6⟩:=hx Fc hc ds .no _ k1
  rw [Fp.p_] at k3
  refine ⟨Fc,hc,k2,?_⟩
  rcases wP k3 with ⟨rfl,s',q1,q2⟩ | ⟨lf,q1⟩
  ·obtain ⟨O_,Hh,u1,e,F',h',jF,T,u2,u3,u4,u5⟩:=Ao hx EO hv ha m s' q2
   refine ⟨e,F',h',jF,T,u2,u3,u4,fun ro j_ S0 g0 w0 ph hf Q hq a w hR=>?_⟩
   rw [roundsIn_succ]
   refine wpIn_mono (k6 ro j_ S0 g0 w0 (hp hc) Agree.self (fun e st=>e = .normal∧st=fp n F1 mz (hp h1)) ⟨rfl,by rw [qU k5]⟩ a w hR) ?_
   rintro e2 a2 w2 ⟨st,NC,rfl,rfl⟩
   exact u5 ro j_ S0 g0 w0 ph hf Q hq a2 w2 (Ux EO k2 u1 hv (k4.mono ha) k5 q1 ph hf NC)
  ·refine ⟨e1,F1,h1,mz,T1,by rw [←Fp.jr];exact q1,(yG k2 hv).trans k4 (fun i hi=>hi) ha,(E3 EO k2).trans k5,fun ro j_ S0 g0 w0 ph hf Q hq a w hR=>?_⟩
   rw [roundsIn_succ]
   refine wpIn_mono (k6 ro j_ S0 g0 w0 (hp hc) Agree.self (fun e st=>e=e1∧st=fp n F1 mz (hp h1)) ⟨rfl,by rw [qU k5]⟩ a w hR) ?_
   rintro e2 a2 w2 ⟨st,NC,rfl,rfl⟩
   have hl:lift S0 g0 w0 Q e2 a2 w2:=⟨_,NC,hq⟩
   cases e2 with
   | normal=>exact absurd rfl lf
   | _=>exact hl
end
theorem Dq {inr:Bool} {n:Nat} {x:av} {dr:Pa β} {E:Env} {cx:Cx} {K:KC β} {r:β} (hx:∀(F:Tr A) (h:H) (ds:List Nat) (U:Fp) (K:KC β),sj E cx inr n dr x F h ds U K=some r→∃e F' h' jF T,K e F' h' jF (U.cat T)=some r∧Kp (l6 x) F F'∧Does P inr n x.code F h ds e F' h' jF T) :
  ∀(m:Nat) (F:Tr A) (h:H) (ds:List Nat) (U:Fp),Nat.rec (motive:=fun _=>Tr A→H→List Nat→Fp→Option β) (fun _ _ _ _=>none) (fun _ ih F h ds U=>sj E cx inr n dr x F h ds U (MB ih K)) m F h ds U=some r →
  ∃e F' h' jF T,K e F' h' jF (U.cat T)=some r∧Kp (l6 x) F F'∧nM h h' T∧∀ro,(inr=false→ro=none)→∀S0 g0 w0 S2,Agree T (hp h) S2→∀Q:Exit→St→Prop,Q e (fp n F' jF (iU T (hp h') S2))→∀a w,R S0 g0 w0 (fp n F ds S2) a w→Code.roundsIn (FR ro) 0 P x.code (lift S0 g0 w0 Q) m a w
 | 0,F,h,ds,U,hr=>by cases hr
 | m+1,F,h,ds,U,hr=>by
  obtain ⟨e1,F1,h1,mz,T1,k1,kp,k2,k3⟩:=hx F h ds U _ hr
  by_cases lf:e1 = .normal
  ·subst lf
   obtain ⟨e,F2,h2,xP,T2,q1,qp,q2,q3⟩:=Dq hx m F1 h1 mz _ k1
   refine ⟨e,F2,h2,xP,T1.cat T2,by rw [←Fp.jr];exact q1,kp.trans qp (fun i hi=>hi) (fun i hi=>hi),k2.trans q2,fun ro j_ S0 g0 w0 S2 hA Q hq a w hR=>?_⟩
   rw [roundsIn_succ]
   refine wpIn_mono (k3 ro j_ S0 g0 w0 S2 hA.left (fun e st=>e = .normal∧st=fp n F1 mz (iU T1 (hp h1) S2)) ⟨rfl,rfl⟩ a w hR) ?_
   rintro e2 a2 w2 ⟨st,NC,rfl,rfl⟩
   exact q3 ro j_ S0 g0 w0 _ (Agree.right k2 hA) Q (by rw [fU q2];exact hq) a2 w2 NC
  ·have k4:K e1 F1 h1 mz (U.cat T1)=some r:=by
    cases e1 with
    | normal=>exact absurd rfl lf
    | _=>exact k1
   refine ⟨e1,F1,h1,mz,T1,k4,kp,k2,fun ro j_ S0 g0 w0 S2 hA Q hq a w hR=>?_⟩
   rw [roundsIn_succ]
   refine wpIn_mono (k3 ro j_ S0 g0 w0 S2 hA (fun e st=>e=e1∧st=fp n F1 mz (iU T1 (hp h1) S2)) ⟨rfl,rfl⟩ a w hR) ?_
   rintro e2 a2 w2 ⟨st,NC,rfl,rfl⟩
   have hl:lift S0 g0 w0 Q e2 a2 w2:=⟨_,NC,hq⟩
   cases e2 with
   | normal=>exact absurd rfl lf
   | _=>exact hl
theorem NY {l:List Oper} {x:Nat×Nat×Nat} (h:O3 l=some x):∃o1 o2 c,l=[o1,o2]∧o1.op = .move (.tmp x.1)∧o1.dst=some x.2.1∧o1.guard=none∧o2.op = .defer c∧o2.guard=none∧o2.dst=none∧c.callee = .value (.func x.2.2)∧c.args.toList=[.tmp x.2.1]:=by
 unfold O3 at h
 split at h
 ·rename_i o1 o2
  split at h
  ·rename_i s a c e1 e2 e3 e4 e5 e6
   split at h
   ·rename_i f b e7 e8
    obtain ⟨e9,h⟩:=af h
    have e9:=beq_eq e9
    cases h
    exact ⟨o1,o2,c,rfl,e1,e2,e3,e4,e5,e6,e7,by rw [e8,e9]⟩
   ·cases h
  ·cases h
 ·cases h
theorem NZ {P:Program} {n:Nat} (id:Nat) {ops:List Oper} {x:Nat×Nat×Nat} {F:Tr A} {h:H} {ds:List Nat} {U:Fp} {K:Tr A→H→List Nat→Fp→Option β} {r:β} (hd:O3 ops=some x) (hr:Y_ n x F h ds U K=some r) :
  ∃F' jF,K F' h jF U=some r∧Kp (qQ ops) F F'∧∀S0 g0 w0 Q S2,Q .normal (fp n F' jF S2)→pw P none S0 g0 w0 (.region id ops.toArray false) Q (fp n F ds S2):=by
 obtain ⟨s,a,f⟩:=x
 obtain ⟨o1,o2,c,rfl,e1,e2,e3,e4,e5,e6,e7,e8⟩:=NY hd
 simp only at e1 e2 e7 e8
 unfold Y_ at hr
 simp only at hr
 split at hr
 ·rename_i q off hs
  obtain ⟨hq,tL⟩:=af hr
  clear hr
  simp only [zC] at hq
  have h0:=beq_eq hq.1.1.1
  have hq0:=aY hq.1.1.2
  have G8:=aY hq.1.2
  have han:=aY hq.2
  subst h0
  obtain ⟨_,F1,hr,uV⟩:=bo tL
  have qL:∀S2:Hp,(fp n F ds S2).put (some a) (.ptr q 0)=fp n F1 ds S2:=fun S2=>by
   simp only [St.put,fp]
   congr 1
   funext i
   simp only [aX,uV]
   by_cases hi:i=a
   ·rw [if_pos hi,if_pos hi]
   ·rw [if_neg hi,if_neg hi]
  refine ⟨F1,_,hr,?_,fun S0 g0 w0 Q S2 hQ=>tB (wu (pv:=.ptr q 0) (S':=S2) 0 e3 ?_ ?_)⟩
  ·intro i hi
   have hi:i≠a:=fun hh=>hi (by subst hh;simp [qQ,e2,e6])
   simp only [aX,uV,if_neg hi]
  ·have e:(fp n F ds S2).vK 0 (.tmp s) = .ptr q 0:=(show (if s<n then aX F.get s else A.cG)=_ from (if_pos G8).trans hs)
   have:=wD (P:=P) (S:=S2) (ρ:=(fp n F ds S2).vK 0) e1
   rw [e] at this
   exact this.LD (by rw [e1];intro c e;cases e)
  ·intro act w hR
   rw [e2,qL] at hR
   have hR:R S0 g0 w0 (fp n F1 ds S2) act w:=hR
   obtain ⟨g,h0,h1,h2,h3,h4⟩:=hR
   refine wpListIn_plain e5 (fun K hK=>⟨fun _ _=>trivial,?_⟩)
   have hv:=h4 a (show a<n from han)
   have hv:V g (aX F1.get a) (act.tmps.getD a undef):=hv
   rw [show aX F1.get a = .ptr q 0 by simp only [aX,uV,if_pos]] at hv
   have eL:(Oper.semAt (FR none).round act.eval o2).run P w = .ok (.defer (zc (q+16777216*(f+1)) (act.tmps.getD a undef))) w:=by
    show (execOp act.eval o2).run P w=_
    have ed:(q+16777216*(f+1)) / 16777216-1=f:=by omega
    obtain ⟨cal,args,tys⟩:=c
    simp only at e7 e8
    subst e7
    have ea:args = #[.tmp a]:=by apply Array.ext';simpa using e8
    subst ea
    simp [execOp,e4,resolve,zc,ed,Act.eval,Deferred.ofValue]
   rw [eL]
   refine hK _ _ ?_
   rw [e6]
   refine ⟨fp n F1 ((q+16777216*(f+1))::ds) S2,⟨g,h0,h1,⟨?_,fun i d e k1 k2=>?_⟩,h3,h4⟩,hQ⟩
   ·have:=h2.1;simp only [fp,Act.put,zR] at this ⊢;omega
   ·cases i with
    | zero=>
     simp [fp,Act.put] at k1 k2
     subst k1 k2
     refine ⟨fun hd=>absurd hd (by omega),fun _=>⟨_,?_,rfl⟩⟩
     rw [show (q+16777216*(f+1))%16777216=q by omega]
     simpa using hv
    | succ i=>exact h2.2 i d e (by simpa [fp] using k1) (by simpa [Act.put] using k2)
 ·cases hr
theorem iz {inr:Bool} {dr:Pa β} (hE:bT P E) (hx:lK P cx) (sc:C3 P n dr):∀(c:av) (F:Tr A) (h:H) (ds:List Nat) (U:Fp) (K:KC β),sj E cx inr n dr c F h ds U K=some r →
  ∃e F' h' jF T,K e F' h' jF (U.cat T)=some r∧Kp (l6 c) F F'∧Does P inr n c.code F h ds e F' h' jF T
 | .skip,F,h,ds,U,K,hr=>⟨.normal,F,h,ds,.no,by rw [Fp.qk];exact hr,.refl _ F,.refl h,fun ro j_ S0 g0 w0 S2 hA Q hq=>by rw [pY] at hq;exact HK hq⟩
 | .ret,F,h,ds,U,K,hr=>⟨.ret,F,h,ds,.no,by rw [Fp.qk];exact hr,.refl _ F,.refl h,fun ro j_ S0 g0 w0 S2 hA Q hq=>by rw [pY] at hq;exact MK hq⟩
 | .exit id,F,h,ds,U,K,hr=>⟨.exit id,F,h,ds,.no,by rw [Fp.qk];exact hr,.refl _ F,.refl h,fun ro j_ S0 g0 w0 S2 hA Q hq=>by rw [pY] at hq;exact HL hq⟩
 | .bad _,F,h,ds,U,K,hr=>by cases hr
 | .region id ops d,F,h,ds,U,K,hr=>by
  cases d with
  | true=>
   obtain ⟨F',h',T,k1,kp,k2⟩:=sc id ops F h U _ r hr
   exact ⟨.normal,F',h',ds,T,k1,kp,k2 inr ds⟩
  | false=>
   have hr:(match O3 ops with
    | some x=>bif inr then none else Y_ n x F h ds U (fun F h ds U=>K .normal F h ds U)
    | none=>wk E cx n ops ops F h U (fun F h U=>K .normal F h ds U))=some r:=hr
   cases hdf:O3 ops with
   | some x=>
    rw [hdf] at hr
    cases inr with
    | true=>cases hr
    | false=>
     obtain ⟨F',jF,k1,kp,k3⟩:=NZ (P:=P) id hdf hr
     exact ⟨.normal,F',h,jF,.no,by rw [Fp.qk];exact k1,kp,.refl h,fun ro j_ S0 g0 w0 S2 hA Q hq=>by
      rw [pY] at hq
      obtain rfl:=j_ rfl
      exact k3 S0 g0 w0 Q S2 hq⟩
   | none=>
   rw [hdf] at hr
   obtain ⟨F',h',T,k1,kp,k2,k3⟩:=um hE hx ops F h U _ hr
   exact ⟨.normal,F',h',ds,T,k1,kp,k2,fun ro j_ S0 g0 w0 S2 hA Q hq=>tB (k3 ro S0 g0 w0 ds S2 hA Q hq)⟩
 | .seq x y,F,h,ds,U,K,hr=>by
  obtain ⟨e,F1,h1,mz,T1,k1,kp,k2,k3⟩:=iz hE hx sc x F h ds U _ hr
  cases e with
  | normal=>
   obtain ⟨e,F2,h2,xP,T2,q1,qp,q2,q3⟩:=iz hE hx sc y F1 h1 mz _ K k1
   refine ⟨e,F2,h2,xP,T1.cat T2,by rw [←Fp.jr];exact q1,kp.trans qp (fun i hi=>zQ _ hi) (fun i hi=>zS _ hi),k2.trans q2,fun ro j_ S0 g0 w0 S2 hA Q hq=>?_⟩
   refine uq (k3 ro j_ S0 g0 w0 S2 hA.left _ ?_)
   refine q3 ro j_ S0 g0 w0 _ (Agree.right k2 hA) Q ?_
   rw [fU q2];exact hq
  | _=>exact ⟨_,F1,h1,mz,T1,k1,kp.mono (fun i hi=>zQ _ hi),k2,fun ro j_ S0 g0 w0 S2 hA Q hq=>uq (k3 ro j_ S0 g0 w0 S2 hA _ hq)⟩
 | .cut J x y,F,h,ds,U,K,hr=>by
  have hr:(match Ja J F h with | some e=>_ | none=>none)=some r:=hr
  split at hr
  ·rename_i En Vm
   obtain ⟨ho,hr⟩:=af hr
   have EO:=xm ho
   have hv:∀i,i∈J.n_.map (·.1)++J.grow.map (·.1)→i∈l6 x++(J.n_.map (·.1)++J.grow.map (·.1)):=fun i hi=>zS _ hi
   obtain ⟨e1,F1,h1,mz,T1,k1,kp,k2,k3⟩:=iz hE hx sc x F h ds .no _ (show sj E cx inr n dr x F h ds .no _=some r from (gQ _ _).symm.trans hr)
   rw [Fp.p_] at k1
   rcases wP k1 with ⟨rfl,s,q1,q2⟩ | ⟨lf,q1⟩
   ·obtain ⟨Fc,hc,u1,u2⟩:=wU q2
    obtain ⟨e,F2,h2,xP,T2,u3,u4,u5,u6⟩:=iz hE hx sc y Fc hc ds .no _ u1
    rw [Fp.p_] at u3
    have u3:K e F2 h2 xP ((U.cat (jT J h.aR En)).cat T2)=some r:=u3
    refine ⟨e,F2,h2,xP,(jT J h.aR En).cat T2,by rw [←Fp.jr];exact u3,(yG u2 hv).trans u4 (fun i hi=>zQ _ hi) (fun i hi=>zS _ hi),(E3 EO u2).trans u5,fun ro j_ S0 g0 w0 S2 hA Q hq=>?_⟩
    obtain ⟨l,m,w,ej⟩:=E0 J h.aR En T2
    rw [ej] at hA hq
    rw [Af] at hq
    rw [all_eq hA]
    intro a w hR
    obtain ⟨ph,hf⟩:=hR.entry
    refine uq (k3 ro j_ S0 g0 w0 (hp h) Agree.self _ ?_) a w hR
    rw [qU k2]
    intro a1 w1 Vq
    refine u6 ro j_ S0 g0 w0 (hp hc) Agree.self Q ?_ a1 w1 (L7 EO u2 (kp.mono (fun i hi=>zQ _ hi)) k2 q1 ph hf Vq)
    rw [qU u5];exact hq
   ·refine ⟨e1,F1,h1,mz,T1,q1,kp.mono (fun i hi=>zQ _ (zQ _ hi)),k2,fun ro j_ S0 g0 w0 S2 hA Q hq=>uq (k3 ro j_ S0 g0 w0 S2 hA _ ?_)⟩
    cases e1 with
    | normal=>exact absurd rfl lf
    | _=>exact hq
  ·cases hr
 | .cond c x y,F,h,ds,U,K,hr=>by
  obtain ⟨F1,b,k1,k2,k3⟩:=Jh hr
  cases b with
  | true=>
   obtain ⟨e,F2,h2,xP,T2,q1,qp,q2,q3⟩:=iz hE hx sc x F1 h ds U K k1
   refine ⟨e,F2,h2,xP,T2,q1,(Kp.of (l:=[]) k2).trans qp (fun i hi=>by cases hi) (fun i hi=>zQ _ hi),q2,fun ro j_ S0 g0 w0 S2 hA Q hq=>?_⟩
   refine Ac (b:=true) (by rw [←pZ];exact k3) (fun _=>?_) (fun h=>by cases h)
   rw [←k2]
   exact q3 ro j_ S0 g0 w0 S2 hA Q hq
  | false=>
   obtain ⟨e,F2,h2,xP,T2,q1,qp,q2,q3⟩:=iz hE hx sc y F1 h ds U K k1
   refine ⟨e,F2,h2,xP,T2,q1,(Kp.of (l:=[]) k2).trans qp (fun i hi=>by cases hi) (fun i hi=>zS _ hi),q2,fun ro j_ S0 g0 w0 S2 hA Q hq=>?_⟩
   refine Ac (b:=false) (by rw [←pZ];exact k3) (fun h=>by cases h) (fun _=>?_)
   rw [←k2]
   exact q3 ro j_ S0 g0 w0 S2 hA Q hq
 | .block id x,F,h,ds,U,K,hr=>by
  obtain ⟨e,F1,h1,mz,T1,k1,kp,k2,k3⟩:=iz hE hx sc x F h ds U _ hr
  cases e with
  | exit i=>
   have kk:(bif Nat.beq i id then K .normal F1 h1 mz (U.cat T1) else K (.exit i) F1 h1 mz (U.cat T1))=some r:=k1
   cases hb:Nat.beq i id with
   | true=>
    rw [hb] at kk
    obtain rfl:=beq_eq hb
    refine ⟨.normal,F1,h1,mz,T1,kk,kp,k2,fun ro j_ S0 g0 w0 S2 hA Q hq=>rH (k3 ro j_ S0 g0 w0 S2 hA _ ?_)⟩
    show (if i=i then Q .normal _ else _)
    rw [if_pos rfl];exact hq
   | false=>
    rw [hb] at kk
    refine ⟨.exit i,F1,h1,mz,T1,kk,kp,k2,fun ro j_ S0 g0 w0 S2 hA Q hq=>rH (k3 ro j_ S0 g0 w0 S2 hA _ ?_)⟩
    show (if i=id then _ else Q (.exit i) _)
    rw [if_neg (fun e=>by rw [e,Nat.beq_refl] at hb;cases hb)];exact hq
  | _=>exact ⟨_,F1,h1,mz,T1,k1,kp,k2,fun ro j_ S0 g0 w0 S2 hA Q hq=>rH (k3 ro j_ S0 g0 w0 S2 hA _ hq)⟩
 | .scope x,F,h,ds,U,K,hr=>by
  obtain ⟨e,F1,h1,mz,T1,k1,kp,k2,k3⟩:=iz hE hx sc x F h ds U _ hr
  cases e with
  | goto l=>cases k1
  | _=>exact ⟨_,F1,h1,mz,T1,k1,kp,k2,fun ro j_ S0 g0 w0 S2 hA Q hq=>D7 (k3 ro j_ S0 g0 w0 S2 hA _ hq)⟩
 | .label l,F,h,ds,U,K,hr=>⟨.normal,F,h,ds,.no,by rw [Fp.qk];exact hr,.refl _ F,.refl h,fun ro j_ S0 g0 w0 S2 hA Q hq=>by rw [pY] at hq;exact D8 hq⟩
 | .NI l x,F,h,ds,U,K,hr=>by
  obtain ⟨F1,h1,T1,k1,k2,k3,k4⟩:=FD l F h [] (show Y7 n l F h [] _=some r from hr)
  obtain ⟨e,F2,h2,xP,T2,q1,qp,q2,q3⟩:=iz hE hx sc x F1 h1 ds _ K k1
  refine ⟨e,F2,h2,xP,(Fp.wr T1).cat T2,by rw [←Fp.jr];exact q1,k2.trans qp (fun i hi=>zQ _ hi) (fun i hi=>zS _ hi),k3.trans q2,fun ro j_ S0 g0 w0 S2 hA Q hq a w hR=>?_⟩
  refine q3 ro j_ S0 g0 w0 _ (Agree.right k3 hA) Q (by rw [fU q2];exact hq) a w (k4 S0 g0 w0 ds S2 a w hA.left hR)
 | .loop J x,F,h,ds,U,K,hr=>by
  have hr:(match zu J with | some m=>_ | none=>(match Ja J F h with | some e=>_ | none=>none))=some r:=hr
  split at hr
  ·rename_i m _
   obtain ⟨e,F',h',jF,T,u2,u3,u4,u5⟩:=Dq (P:=P) (fun F h ds U K hr=>iz hE hx sc x F h ds U K hr) m F h ds U hr
   exact ⟨e,F',h',jF,T,u2,u3.mono (fun i hi=>zQ _ hi),u4,fun ro j_ S0 g0 w0 S2 hA Q hq a w hR=>wpIn_loop_rounds m (u5 ro j_ S0 g0 w0 S2 hA Q hq a w hR)⟩
  split at hr
  ·rename_i En Vm
   obtain ⟨ho,hr⟩:=af hr
   split at hr
   ·rename_i s0 hs0
    have EO:=xm ho
    have hv:∀i,i∈J.n_.map (·.1)++J.grow.map (·.1)→i∈l6 x++(J.n_.map (·.1)++J.grow.map (·.1)):=fun i hi=>zS _ hi
    obtain ⟨Fc,hc,u1,e,F',h',jF,T,u2,u3,u4,u5⟩:=Ao (P:=P) (fun F h ds U K hr=>iz hE hx sc x F h ds U K hr) EO hv (fun i hi=>zQ _ hi) kQ s0 ((o7 _ _).symm.trans hr)
    refine ⟨e,F',h',jF,_,u2,u3,u4,fun ro j_ S0 g0 w0 S2 hA Q hq=>?_⟩
    obtain ⟨l,m,w,ej⟩:=E0 J h.aR En T
    rw [ej] at hA hq
    rw [Af] at hq
    rw [all_eq hA]
    intro a w hR
    obtain ⟨ph,hf⟩:=hR.entry
    exact wpIn_loop_rounds kQ (u5 ro j_ S0 g0 w0 ph hf Q hq a w (L7 (T1:=.no) EO u1 (.refl _ F) (.refl h) hs0 ph hf hR))
   ·cases hr
  ·cases hr
 | .range g ps J aa bd,F,h,ds,U,K,hr=>by
  have hr:(bif inr then none else _)=some r:=hr
  obtain ⟨aba,hr⟩:=jH hr
  split at hr
  ·rename_i f fi ca hf
   obtain ⟨hn,hr⟩:=af hr
   have hn:=aY hn
   obtain ⟨_,t1,hr,UM⟩:=bo hr
   obtain ⟨_,t2,hr,ht2⟩:=bo hr
   obtain ⟨pv,h3,T3,hr,k2⟩:=hx.call β f _ _ _ r hr
   split at hr
   ·rename_i st pe h3q
    obtain ⟨hb,hr⟩:=jH hr
    obtain ⟨_,t4,hr,ht4⟩:=bo hr
    split at hr
    ·rename_i e hj
     obtain ⟨f1,v1⟩:=Am (h:=h) (x:=.cX .AV) (by omega) UM
     obtain ⟨f2,v2⟩:=Am (h:={ h with t:=t1,aR:=h.aR+1 }) (x:=.cX (.loop .ready none)) (show h.aR+1<16777216 by omega) ht2
     have f3:nM { h with t:=t2,aR:=h.aR+1+1 } h3 T3:=⟨k2.out,k2.rd⟩
     obtain ⟨f4,v4⟩:=AW (h:=h3) (q:=h.aR+1) (by omega) ht4
     have f12:=f1.trans f2
     have f34:=f3.trans f4
     refine ⟨e,F,{ h3 with t:=t4 },h.aR::ds,_,hr,.refl _ F,f12.trans f34,fun ro j_ S0 g0 w0 S2 hA Q hq=>?_⟩
     obtain rfl:=j_ aba
     have Fw:=hA.left
     have yP:=Agree.right f12 hA
     rw [←fU f34,←fU f4] at hq
     rw [←fU f2] at yP hq
     have A1:=Fw.left
     have A2:=Agree.right f1 Fw
     have A3:=yP.left
     have A4:=Agree.right f3 yP
     have IQ:S2.fr h.aR:=(A1 h.aR (aB (o:=h.aR) (by omega) (.head _))).2.2 (by show (if h.aR<cI then h.aR≤h.aR else _);rw [if_pos (show h.aR<cI by unfold cI;omega)];exact Nat.le_refl _)
     have Ve:(iU (.wr [dz h.aR]) (hp { h with t:=t1,aR:=h.aR+1 }) S2).fr (h.aR+1):=(A2 (h.aR+1) (aB (o:=h.aR+1) (by omega) (.head _))).2.2 (by show (if h.aR+1<cI then h.aR+1≤h.aR+1 else _);rw [if_pos (show h.aR+1<cI by unfold cI;omega)];exact Nat.le_refl _)
     have wY:=A9 (x:=.cX (.loop st pe)) (by omega) h3q A4 (.head _)
     rw [v2 _ A2] at A3 A4 wY hq
     rw [v4 _ A4] at hq
     rw [v1 _ A1] at Ve A3 A4 wY hq
     rintro a w ⟨gg,hI,hxx,hd,hs,hv⟩
     have hI:Inv gg S2 w:=hI
     have hs:a.tmps.size=n:=hs
     refine wpIn_rangeFunc (fun fn _=>?_)
     obtain ⟨i1,x1⟩:=hI.alloc (s:=(0,0)) IQ (x:=.cX .AV) (ob:=.deferred (some [])) ⟨_,heap_alloc_new w _,rfl⟩
     have q1:=cg (g:=gg) (o:=h.aR) (p:=(some w.heap.size,(0,0)))
     generalize j5 gg h.aR (some w.heap.size,(0,0))=g1 at i1 x1 q1
     obtain ⟨rr,E7⟩:∃rr:Loop,rr={ state:=.ready,pending:=none,fn,tmps:=a.tmps,params:=ps.toArray,assign:=aa.code,body:=bd.code,defers:=w.heap.size }:=⟨_,rfl⟩
     obtain ⟨g2,i2,x2,q2,l2⟩:=i1.Ut Ve rr
     have pa:(w.alloc (.deferred (some []))).heap.size=w.heap.size+1:=Array.size_push _
     rw [pa] at q2 l2
     have hu:=xA (st:=fp n F ds S2) hs hv 0 g
     rw [←pZ,hf] at hu
     generalize hev:a.eval g=u at hu
     cases hu with
     | fn _ _ _ fv cv Nv OZ h1 h2=>
     obtain ⟨w1,LR⟩:∃w1,w1=(w.alloc (.deferred (some []))).alloc (.loop rr):=⟨_,rfl⟩
     rw [←LR] at i2 x2
     rw [show rr.state = .ready by rw [E7],show rr.pending=none by rw [E7]] at i2 x2
     refine ⟨w.heap.size+1,[{ target:=.collected w.heap.size,args:=#[] }],w1,{ target:=.fn (.func f) cv,args:=fv ++ #[.func (.yield (w.heap.size+1)) #[] #[]] },w1,f,(fv.toList ++ .func (.yield (w.heap.size+1)) #[] #[]::cv.toList).toArray,w1,?_,?_,fun f' _=>trivial,?_,fun h=>by simp [FR,Fence.wide] at h,sA ?_⟩
     ·rw [LR,E7];exact run_enterLoop_outer fn a.tmps ps.toArray aa.code bd.code
     ·simp only [resolve,hev,Deferred.ofValue,Sem.run_pure]
      congr 3
      simp [Act.eval]
     ·have h2:=k2.fn.run ((fv.toList ++ .func (.yield (w.heap.size+1)) #[] #[]::cv.toList).toArray) w1
      simp only [invoke]
      rw [show fv ++ #[.func (.yield (w.heap.size+1)) #[] #[]]++cv=(fv.toList ++ .func (.yield (w.heap.size+1)) #[] #[]::cv.toList).toArray by apply Array.ext';simp]
      exact h2
     ·have hle:=x1.le.trans x2.le
      refine (k2.ok _ A3 g2 w1 (fv.toList ++ .func (.yield (w.heap.size+1)) #[] #[]::cv.toList) i2 (by simp [Nv,OZ]) (Uy (by simp [Nv]) (fun i c x e1 e2=>(h1 i c x e1 (by simpa using e2)).mono hle)
       (.sH _ n F ps J aa bd _ _ _ q2 l2 (by rw [E7];rfl) (by rw [E7];rfl) (by rw [E7];rfl) (by rw [E7];exact hs) (fun i hi=>by rw [E7];exact (hv i hi).mono hle)) (fun i c x e1 e2=>(h2 i c x e1 (by simpa using e2)).mono hle))).mono ?_
      rintro e1 w3 ⟨v,g3,rfl,_,i3,x3⟩
      obtain ⟨b3,s3,ob3,k1,pO,k3⟩:=i3.cX (h.aR+1) _ wY
      have hb3:=x3.le.bm _ _ q2
      rw [k1] at hb3
      obtain ⟨rfl,rfl⟩:b3=w.heap.size+1∧s3=(0,0):=by simpa using hb3
      obtain ⟨r3,rfl,r1,r2⟩:=k3
      have yM:=run_endLoop (P:=P) pO (by rw [r1];intro hh;rw [hh] at hb;cases hb)
      obtain ⟨i4,x4⟩:=i3.DM (st':=.exhausted) (pe':=r3.pending) wY k1 pO
      have w9:∀(S:Hp) o ob,(S.del (h.aR+1)).ob o=some ob→(S.set (h.aR+1) (.cX (.loop .exhausted r3.pending))).ob o=some ob:=fun S o ob e=>by
       have e:(if o=h.aR+1 then none else S.ob o)=some ob:=e
       show (if o=h.aR+1 then _ else S.ob o)=some ob
       by_cases ho:o=h.aR+1
       ·rw [if_pos ho] at e;cases e
       ·rw [if_neg ho] at e;rw [if_neg ho];exact e
      have i4:=i4.less (w9 _) (fun _ e=>e)
      have x4:=x4.trans (Ext.less (w9 _) (fun _ e=>e))
      have yI:=((x1.trans (LR▸x2)).trans x3).trans x4
      have hR:∀S5,Inv g3 S5 (w3.putObj (w.heap.size+1) (.loop { r3 with state:=.exhausted,pending:=r3.pending }))→Ext S2 gg w S5 g3 (w3.putObj (w.heap.size+1) (.loop { r3 with state:=.exhausted,pending:=r3.pending }))→R S0 g0 w0 (fp n F (h.aR::ds) S5) { a with defers:=[{ target:=.collected w.heap.size,args:=#[] }]++a.defers } (w3.putObj (w.heap.size+1) (.loop { r3 with state:=.exhausted,pending:=r3.pending })):=by
       intro S5 i4 yI
       refine ⟨g3,i4,hxx.trans yI,⟨by have:=hd.1;simp [fp] at this ⊢;exact this,fun i d el e1 e2=>?_⟩,hs,fun i hi=>(hv i hi).mono yI.le⟩
       cases i with
       | zero=>
        simp [fp] at e1 e2;subst e1 e2
        exact ⟨fun _=>⟨w.heap.size,(0,0),(x2.le.trans x3.le).bm _ _ q1,rfl⟩,fun hd=>absurd hd (by omega)⟩
       | succ i=>exact (hd.mono yI.le).2 i d el (by simpa [fp] using e1) (by simpa using e2)
      have hR:=hR _ i4 yI
      have yM:(Instr.endLoop (w.heap.size+1)).run P w3 = .ok r3.pending (w3.putObj (w.heap.size+1) (.loop { r3 with state:=.exhausted,pending:=r3.pending })):=yM
      generalize w3.putObj (w.heap.size+1) (.loop { r3 with state:=.exhausted,pending:=r3.pending })=w4 at hR yM
      refine ⟨r3.pending,_,yM,?_⟩
      rw [r2]
      rcases EW hj with ⟨h5,h6⟩ | ⟨h5,h6⟩ | ⟨id,h5,h6⟩
      ·rw [h6] at hq;rw [h5];exact ⟨_,hR,hq⟩
      ·rw [h6] at hq;rw [h5];exact wpIn_ret ⟨_,hR,hq⟩
      ·rw [h6] at hq;rw [h5];exact wpIn_exit ⟨_,hR,hq⟩
    ·cases hr
   ·cases hr
  ·cases hr
end
end
set_option linter.unusedVariables false
set_option linter.unusedSimpArgs false
section
open Go.RowKit
abbrev Mp:=(β:Type)→Pa β
def tU:Nat→List A→Option (Tr A)
 | _,[]=>some .nil
 | i,p::ps=>match tU (i+1) ps with
  | some F=>O1 p (fun p=>fg F i (some p) some)
  | none=>none
def sQ {β:Type} (E:Env) (n:Nat) (F:Tr A) (h:H):List ResultVar→(List A→List Nat→Option β)→Option β
 | [],k=>k [] []
 | .tmp i::r,k=>bif Nat.blt i n then sQ E n F h r (fun ps l=>k (aX F.get i::ps) l) else none
 | .cell a T::r,k=>bif Nat.blt a n then Na E T (aX F.get a) h (fun v _ T1=>sQ E n F h r (fun ps l=>k (v::ps) (T1.rs++l))) else none
def xp {β:Type}:Tr gH→List Nat→(Tr gH→Option β)→Option β
 | t,[],k=>k t
 | t,d::ds,k=>match t.get d with
  | some (.cX .AV)=>bif Nat.blt d 16777216 then fg t d none (fun t=>xp t ds k) else none
  | _=>none
def Aw:Exit→Bool
 | .normal=>true
 | .ret=>true
 | _=>false
abbrev FT:=Nat→Option (Func×av)
structure aM (P:Program) (f:Nat) (fn:Func) (x:av):Prop where
 bm:P.funcs[f]?=some fn
 body:fn.body=some x.code
 name : (fn.name == "runtime.NumGoroutine") = false
def xF (P:Program) (fns:FT):Prop:=∀f fn x,fns f=some (fn,x)→aM P f fn x
def NX (E:Env) (fns:FT) (dr:Cx→Nat→Mp) (cx:Cx) {β:Type} (fn:Func) (F:Tr A) (h:H) (ds:List Nat) (U:Fp) (K:A→H→Fp→Option β):Option β:=match ds with
 | []=>sQ E fn.ntmps F h fn.results.toList (fun ps l=>K (yi ps) h (U.cat (.rd l)))
 | [d]=>bif Nat.ble 16777216 d then (match fns (d / 16777216-1) with
  | some (gn,x)=>match tU 0 [.ptr (d%16777216) 0],fn.results.toList,gn.results.toList with
   | some G,[],[]=>bif Nat.ble 1 gn.ntmps then sj E cx false gn.ntmps (dr cx gn.ntmps β) x G h [] U (fun e _ h' jF U'=>bif Aw e && jF.isEmpty then K (yi []) h' U' else none) else none
   | _,_,_=>none
  | none=>none) else xp h.t [d] (fun t'=>sQ E fn.ntmps F { h with t:=t' } fn.results.toList (fun ps l=>K (yi ps) { h with t:=t' } ((U.cat (.wr ([d].map dz))).cat (.rd l))))
 | ds=>xp h.t ds (fun t'=>sQ E fn.ntmps F { h with t:=t' } fn.results.toList (fun ps l=>K (yi ps) { h with t:=t' } ((U.cat (.wr (ds.map dz))).cat (.rd l))))
def fnK (E:Env) (fns:FT) (dr:Cx→Nat→Mp) (cx:Cx) (β:Type) (f:FuncId) (aa:List A) (h:H) (K:A→H→Fp→Option β):Option β:=match fns f with
 | some (fn,x)=>match tU 0 aa with
  | some F=>bif Nat.ble aa.length fn.ntmps then sj E cx false fn.ntmps (dr cx fn.ntmps β) x F h [] .no (fun e F' h' ds U=>bif Aw e then NX E fns dr cx fn F' h' ds U K else none) else none
  | none=>none
 | none=>none
def MF (E:Env) (dr:Cx→Nat→Mp) (cx:Cx) (β:Type) (y:A) (aa:List A) (h:H) (K:A→H→Fp→Option β):Option β:=match y with
 | .sH q n F ps _ lL bd=>match h.t.get q with
  | some (.cX (.loop .ready _))=>bif Nat.blt q 16777216 then ye F ps aa (fun F1=>sj E cx true n (dr cx n β) lL F1 h [] .no (fun e1 Fa ha mz T1=>match e1 with
   | .normal=>match ha.t.get q with
    | some (.cX (.loop .ready pe))=>fg ha.t q (some (.cX (.loop .busy pe))) (fun t2=>sj E cx true n (dr cx n β) bd Fa { ha with t:=t2 } mz .no (fun e2 _ hb _ T2=>match hb.t.get q,TZ e2 with
     | some (.cX (.loop _ _)),some jump=>fg hb.t q (some (.cX (.loop (DX jump) jump))) (fun t3=>K (.v (.bool jump.isNone)) { hb with t:=t3 } ((T1.cat (.wr [dz q])).cat (T2.cat (.wr [dz q]))))
     | _,_=>none))
    | _=>none
   | _=>none)) else none
  | _=>none
 | _=>none
def x_ (E:Env) (fns:FT) (dr:Cx→Nat→Mp) (hm:List (Nat×Nat)) (cx:Cx):Cx:=⟨fnK E fns dr cx,hm,MF E dr cx⟩
def Di (hm:List (Nat×Nat)):Cx:=⟨fun _ _ _ _ _=>none,hm,fun _ _ _ _ _=>none⟩
section
variable {P:Program} {E:Env} {n:Nat}
theorem xy:∀(aa:List A) (i:Nat) (F:Tr A),tU i aa=some F→∀j,aX F.get j=if i≤j then aa.getD (j-i) .un else .un
 | [],i,F,h,j=>by
  cases h
  simp [aX,Tr.get_nil]
 | p::ps,i,F,h,j=>by
  simp only [tU] at h
  split at h
  ·rename_i F1 h1
   have ih:=xy ps (i+1) F1 h1 j
   rw [y0] at h
   obtain ⟨_,F2,hF,hg⟩:=bo h
   cases hF
   have e:aX F.get j=if j=i then p else aX F1.get j:=by
    simp only [aX,hg]
    by_cases hj:j=i
    ·rw [if_pos hj,if_pos hj]
    ·rw [if_neg hj,if_neg hj]
   rw [e,ih]
   by_cases hj:j=i
   ·subst hj;simp
   ·rw [if_neg hj]
    by_cases hk:i≤j
    ·rw [if_pos hk,if_pos (by omega),show j-i=(j-(i+1))+1 by omega,List.getD_cons_succ]
    ·rw [if_neg hk,if_neg (by omega)]
  ·cases h
theorem EL {P:Program} {T:Nat} {u v:Value} {ad:Addr} {w w':World} {a:Act} {o:Oper} (ho:o.op = .load T (.const u)) (hu:u = .pointer (some ad)) (h:(execOp a.eval o).run P w = .ok (.value v) w'):(loadVar T ad).run P w = .ok v w':=by
 simp only [execOp,ho,Act.eval,hu,Instr.loadAt,Instr.sureAddr,pure_bind] at h
 simp only [Sem.run_bind] at h
 generalize (loadVar T ad).run P w=res at h
 cases res with
 | ok x w1=>
  simp only [Result.andThen_ok,Sem.run_pure,Result.ok.injEq,Next.value.injEq] at h
  obtain ⟨rfl,rfl⟩:=h
  rfl
 | halt x w1=>cases h
theorem Iv {β:Type} {E:Env} {T:Nat} {px:A} {h:H} {K:A→H→Fp→Option β} {r:β} (hr:Na E T px h K=some r) {g:G} {u:Value} (hv:V g px u):∃ad,u = .pointer (some ad):=by
 unfold Na at hr
 split at hr
 ·split at hr
  ·cases hv;exact ⟨_,rfl⟩
  ·cases hv;exact ⟨_,rfl⟩
  ·cases hv;exact ⟨_,rfl⟩
  ·cases hr
 ·cases hr
theorem qS {β:Type} {r:β} (hE:bT P E) {F:Tr A} {h:H}:∀(OK:List ResultVar) (k:List A→List Nat→Option β),sQ E n F h OK k=some r →
  ∃ps l,k ps l=some r∧∀S2,Agree (.rd l) (hp h) S2→∀(g:G) (w:World) (tmps:Array Value),Inv g S2 w→(∀i,i<n→V g (aX F.get i) (tmps.getD i undef)) →
   ∃vs:List Value,(OK.mapM (fun rv=>wc rv tmps)).run P w = .ok vs w∧ps.length=vs.length∧∀(i:Nat) (p:A) (v:Value),ps[i]?=some p→vs[i]?=some v→V g p v
 | [],k,hk=>⟨[],[],hk,fun S2 _ g w tmps _ _=>⟨[],rfl,rfl,by simp⟩⟩
 | .tmp i::OK,k,hk=>by
  simp only [sQ] at hk
  obtain ⟨hi,hk⟩:=af hk
  obtain ⟨ps,l,k1,k2⟩:=qS hE OK _ hk
  refine ⟨_,l,k1,fun S2 hA g w tmps hI hv=>?_⟩
  obtain ⟨vs,q1,q2,q3⟩:=k2 S2 hA g w tmps hI hv
  refine ⟨tmps.getD i undef::vs,?_,by simp [q2],fun k q x e1 e2=>?_⟩
  ·have:(wc (.tmp i) tmps).run P w = .ok (tmps.getD i undef) w:=rfl
   rw [List.mapM_cons]
   simp only [Sem.run_bind,this,Result.andThen_ok]
   rw [q1]
   simp only [Result.andThen_ok,Sem.run_pure]
  ·cases k with
   | zero=>
    simp only [List.getElem?_cons_zero,zI] at e1 e2
    subst e1 e2
    exact hv i (aY hi)
   | succ k=>exact q3 k q x (by simpa using e1) (by simpa using e2)
 | .cell a T::OK,k,hk=>by
  simp only [sQ] at hk
  obtain ⟨hi,hk⟩:=af hk
  obtain ⟨v,l1,k0,kv⟩:=EM hE hk
  obtain ⟨ps,l,k1,k2⟩:=qS hE OK _ k0
  refine ⟨_,_,k1,fun S2 hA g w tmps hI hv=>?_⟩
  have hA:Agree (.rd (l1++l)) (hp h) S2:=hA
  obtain ⟨vs,q1,q2,q3⟩:=k2 S2 (hA.mono fun i hi=>zS _ hi) g w tmps hI hv
  have hva:=hv a (aY hi)
  obtain ⟨ad,had⟩:=Iv hk hva
  obtain ⟨x, u1, u2⟩ := kv S2 (hA.mono fun i hi => zQ _ hi) { dst := none, op := .load T (.const (tmps.getD a undef)), type := 0, pos := "", after := #[], guard := none } (fun _ => aX F.get a) (.const (tmps.getD a undef)) rfl rfl g w { tmps := #[], defers := [] } hI (fun y hy => by
   simp only [Op.operands,Array.mem_singleton] at hy
   subst hy;exact hva)
  have eL:(wc (.cell a T) tmps).run P w = .ok x w:=by
   have:=EL rfl had u1
   show (do loadVar T (←asAddr (tmps.getD a undef)):Sem Value).run P w=_
   rw [had]
   exact this
  refine ⟨x::vs,?_,by simp [q2],fun k q y e1 e2=>?_⟩
  ·rw [List.mapM_cons]
   simp only [Sem.run_bind,eL,Result.andThen_ok]
   rw [q1]
   simp only [Result.andThen_ok,Sem.run_pure]
  ·cases k with
   | zero=>
    simp only [List.getElem?_cons_zero,zI] at e1 e2
    subst e1 e2
    exact u2
   | succ k=>exact q3 k q y (by simpa using e1) (by simpa using e2)
theorem Inv.drop {g:G} {S:Hp} {w:World} (h:Inv g S w) {d b:Nat} {s:Nat×Nat} (ho:S.ob d=some (.cX .AV)) (hg:g.bm d=some (some b,s)) :
  w.heap[b]?=some (.deferred (some []))∧Inv g (S.del d) (w.putObj b (.deferred none))∧Ext S g w (S.del d) g (w.putObj b (.deferred none)):=by
 obtain ⟨b1,s1,ob,k1,k2,k3⟩:=h.cX d _ ho
 rw [hg] at k1
 obtain ⟨rfl,rfl⟩:b=b1∧s=s1:=by simpa using k1
 have k3:ob = .deferred (some []):=k3
 subst k3
 have kY:∀{i x},(S.del d).ob i=some x→i≠d∧S.ob i=some x:=fun {i x} e=>by
  have e:(if i=d then none else S.ob i)=some x:=e
  split at e
  ·cases e
  ·exact ⟨by assumption,e⟩
 have Fg:∀k,k≠b→(w.putObj b (.deferred none)).heap[k]?=w.heap[k]?:=fun k lf=>World.putObj_heap_other lf
 refine ⟨k2,⟨fun i cs e=>?_,fun i x e=>?_,fun i e=>h.fresh i e,fun i b' s' e=>by rw [World.putObj_size];exact h.lt i b' s' e,fun i j x y b1 s1 s2 e1 e2=>h.inj i j _ _ b1 s1 s2 (kY e1).2 (kY e2).2,fun b' i x e=>?_,fun i b' s' j x e k=>h.ly i b' s' j _ (kY e).2 k,fun b' l e=>?_⟩,
  ⟨.refl g,rfl,rfl,rfl,by rw [World.putObj_size];exact Nat.le_refl _,fun k _ hn=>Fg k (fun hh=>hn ⟨d,s,_,ho,by rw [hh];exact hg⟩),fun k ⟨i,s',x,e1,e2⟩=>.inl ⟨i,s',x,(kY e1).2,e2⟩,fun _ _ e=>.inl e,fun _ e=>e,fun _ _ _ e=>.inl e,fun _ _ e=>.inl e⟩⟩
 ·obtain ⟨lf,e⟩:=kY e
  refine (h.cells i cs e).imp id fun ⟨b1,t,q1,cur,ty,q2,q3⟩=>⟨b1,t,q1,cur,ty,?_,q3⟩
  rw [Fg b1 (fun hb=>by subst hb;rw [k2] at q2;cases q2)];exact q2
 ·obtain ⟨lf,e⟩:=kY e
  obtain ⟨b1,s1,o1,q1,q2,q3⟩:=h.cX i x e
  exact ⟨b1,s1,o1,q1,by rw [Fg b1 (fun hb=>by subst hb;exact lf (h.inj i d _ _ b1 s1 s e ho q1 hg))];exact q2,q3⟩
 ·obtain ⟨cur,ty,fz,q1,q2⟩:=h.mem b' i x e
  exact ⟨cur,ty,fz,by rw [Fg b' (fun hb=>by subst hb;rw [k2] at q1;cases q1)];exact q1,q2⟩
 ·obtain ⟨r,q1,q2⟩:=h.lp b' l e
  exact ⟨r,by rw [Fg b' (fun hb=>by subst hb;rw [k2] at q1;cases q1)];exact q1,q2⟩
theorem xo {β:Type} {r:β} {h:H}:∀(ds:List Nat) (t:Tr gH) (k:Tr gH→Option β),xp t ds k=some r→∃t',k t'=some r∧nM { h with t:=t } { h with t:=t' } (.wr (ds.map dz)) ∧
  ∀(fn:Func) (tmps:Array Value) (Rr:Ending→World→Prop) S2,Agree (.wr (ds.map dz)) (hp { h with t:=t }) S2→∀(g:G) (w:World) (l:List Deferred),Inv g S2 w→n9 g ds l →
   (∀w',Inv g (iU (.wr (ds.map dz)) (hp { h with t:=t' }) S2) w'→Ext S2 g w (iU (.wr (ds.map dz)) (hp { h with t:=t' }) S2) g w'→∃v,(results fn tmps).run P w' = .ok v w'∧Rr (.returned v) w')→LeavesInM (FR none) 0 P fn tmps Rr l .returning w
 | [],t,k,hk=>⟨t,hk,⟨fun _ _=>⟨rfl,Iff.rfl⟩,fun _ _=>⟨rfl,Iff.rfl⟩⟩,fun fn tmps Rr S2 hA g w l hI hd K=>by
  obtain rfl:l=[]:=List.length_eq_zero_iff.1 (by have:=hd.1;simpa using this.symm)
  have e:iU (.wr (List.map dz [])) (hp { h with t:=t }) S2=S2:=mI hA
  rw [e] at K
  exact K w hI (.refl _ g w)⟩
 | d::ds,t,k,hk=>by
  have hk:(match t.get d with | some (.cX .AV)=>_ | _=>none)=some r:=hk
  split at hk
  ·rename_i fe
   obtain ⟨Vk,hk⟩:=af hk
   have Vk:=aY Vk
   obtain ⟨_,t1,k1,UM⟩:=bo hk
   obtain ⟨t',q1,q2,q3⟩:=xo (h:=h) ds t1 k k1
   obtain ⟨f1,v1⟩:=AW (h:={ h with t:=t }) Vk UM
   have ec:(Fp.wr [dz d]).cat (.wr (ds.map dz)) = .wr ((d::ds).map dz):=rfl
   have f1:nM { h with t:=t } { h with t:=t1 } (.wr [dz d]):=f1
   refine ⟨t',q1,ec▸f1.trans q2,fun fn tmps Rr S2 hA g w l hI hd K=>?_⟩
   rw [←ec] at hA K
   rw [←fU q2] at K
   have A1:=hA.left
   have A2:=Agree.right f1 hA
   have v1:=v1 S2 A1
   have v1:iU (.wr [dz d]) (hp { h with t:=t1 }) S2=S2.del d:=v1
   rw [v1] at A2 K
   cases l with
   | nil=>have:=hd.1;simp at this
   | cons el l=>
    obtain ⟨b,s,hg,rfl⟩:=(hd.2 0 d el rfl rfl).1 Vk
    obtain ⟨u1,u2,u3⟩:=hI.drop (A9 (x:=.cX .AV) Vk fe A1 (.head _)) hg
    refine ⟨by simp,.inl ⟨b,_,rfl,run_takeDeferred u1,?_⟩⟩
    exact q3 fn tmps Rr _ A2 g _ l u2 ⟨by have:=hd.1;simpa using this,fun i d el e1 e2=>hd.2 (i+1) d el (by simpa using e1) (by simpa using e2)⟩ (fun w' z1 z2=>K w' z1 (u3.trans z2))
  ·cases hk
theorem Yb {g:G} {aa:List A} {vs:List Value} {F:Tr A} {N:Nat} (hFa:tU 0 aa=some F) (hl:aa.length=vs.length) (hn:aa.length≤N) (hv:∀(i:Nat) (p:A) (v:Value),aa[i]?=some p→vs[i]?=some v→V g p v) {S2:Hp} {w:World} (hI:Inv g S2 w) :
  R S2 g w (fp N F [] S2) { tmps:=vs.toArray++Array.replicate (N-vs.toArray.size) undef,defers:=[] } w:=by
 have pa:(vs.toArray++Array.replicate (N-vs.toArray.size) undef).size=N:=by simp;omega
 refine ⟨g,hI,.refl _ g w,⟨rfl,fun i d el e1=>by simp [fp] at e1⟩,pa,fun i hi=>?_⟩
 show V g (aX F.get i) ((vs.toArray++Array.replicate (N-vs.toArray.size) undef).getD i undef)
 rw [xy aa 0 F hFa i,if_pos (Nat.zero_le i),Nat.sub_zero,Array.getD_eq_getD_getElem?]
 by_cases hia:i<aa.length
 ·rw [Array.getElem?_append_left (by simp;omega)]
  have h1:aa[i]?=some aa[i]:=zD hia
  have h2 : vs[i]? = some (vs[i]'(by omega)) := zD (by omega)
  have:=hv i _ _ h1 h2
  simpa [List.getD,h1,h2] using this
 ·rw [Array.getElem?_append_right (by simp;omega)]
  have h1:aa[i]?=none:=zb (by omega)
  have h2:(Array.replicate (N-vs.toArray.size) undef)[i-vs.toArray.size]?.getD undef=undef:=by
   cases hx:(Array.replicate (N-vs.toArray.size) undef)[i-vs.toArray.size]? with
   | none=>rfl
   | some x=>
    obtain ⟨eO,oz⟩:=Array.getElem?_eq_some_iff.1 hx
    rw [←oz];simp
  rw [h2]
  simp only [List.getD,h1,Option.getD_none]
  exact .un
structure GR (P:Program) (fn:Func) (F:Tr A) (h:H) (ds:List Nat) (h':H) (T:Fp) (pv:A):Prop where
 fr:nM h h' T
 ok:∀S2,Agree T (hp h) S2→∀(g:G) (w:World) (a:Act),Inv g S2 w→n9 g ds a.defers→(∀i,i<fn.ntmps→V g (aX F.get i) (a.tmps.getD i undef)) →
  LeavesInM (FR none) 0 P fn a.tmps (fun e w2=>∃v g',e = .returned v∧V g' pv v∧Inv g' (iU T (hp h') S2) w2∧Ext S2 g w (iU T (hp h') S2) g' w2) a.defers .returning w
theorem FY (hE:bT P E) {β:Type} {fn:Func} {F':Tr A} {h':H} {jF:List Nat} {U:Fp} {K:A→H→Fp→Option β} {r:β}
  (k1:xp h'.t jF (fun t'=>sQ E fn.ntmps F' { h' with t:=t' } fn.results.toList (fun ps l=>K (yi ps) { h' with t:=t' } ((U.cat (.wr (jF.map dz))).cat (.rd l))))=some r) :
  ∃pv h2 T,K pv h2 (U.cat T)=some r∧GR P fn F' h' jF h2 T pv:=by
 obtain ⟨t',k5,k6,k7⟩:=xo (P:=P) (h:=h') jF h'.t _ k1
 obtain ⟨ps,l,k8,k9⟩:=qS (P:=P) hE _ _ k5
 have f3:nM { h' with t:=t' } { h' with t:=t' } (.rd l):=⟨fun _ _=>⟨rfl,Iff.rfl⟩,fun _ _=>⟨rfl,Iff.rfl⟩⟩
 have k6:nM h' { h' with t:=t' } (.wr (jF.map dz)):=k6
 refine ⟨_,_,(Fp.wr (jF.map dz)).cat (.rd l),by rw [←Fp.jr];exact k8,k6.trans f3,fun S2 hA g w a hI hd hv=>?_⟩
 have A2:Agree (.wr (jF.map dz)) (hp h') S2:=hA.left
 have A3:=Agree.right k6 hA
 rw [←fU f3,mI A3]
 refine k7 fn a.tmps _ _ A2 g w a.defers hI hd (fun w2 i2 x2=>?_)
 obtain ⟨us,u1,u2,u3⟩:=k9 _ A3 g w2 a.tmps i2 hv
 have eL:=kI (P:=P) (fn:=fn) u1
 refine ⟨_,eL,_,g,rfl,?_,i2,x2⟩
 match ps,us,u2,u3 with
 | [p],[u],_,u3=>exact u3 0 p u rfl rfl
 | [],[],_,_=>exact .jy [] #[] rfl (by simp)
 | p::q::ps,u::v::us,u2,u3=>
  rw [dif_neg (by simp)]
  exact .jy _ _ (by simpa using u2) (fun i c x e1 e2=>u3 i c x e1 (by simpa using e2))
theorem NW (hE:bT P E) {β:Type} {fn:Func} {F':Tr A} {h':H} {U:Fp} {K:A→H→Fp→Option β} {r:β}
  (k1:sQ E fn.ntmps F' h' fn.results.toList (fun ps l=>K (yi ps) h' (U.cat (.rd l)))=some r) :
  ∃pv h2 T,K pv h2 (U.cat T)=some r∧GR P fn F' h' [] h2 T pv:=by
 obtain ⟨ps,l,k8,k9⟩:=qS (P:=P) hE _ _ k1
 have f3:nM h' h' (.rd l):=⟨fun _ _=>⟨rfl,Iff.rfl⟩,fun _ _=>⟨rfl,Iff.rfl⟩⟩
 refine ⟨_,_,.rd l,k8,f3,fun S2 hA g w a hI hd hv=>?_⟩
 rw [mI hA]
 have tM:a.defers=[]:=List.length_eq_zero_iff.1 (by have:=hd.1;simpa using this.symm)
 rw [tM]
 obtain ⟨us,u1,u2,u3⟩:=k9 _ hA g w a.tmps hI hv
 have eL:=kI (P:=P) (fn:=fn) u1
 refine ⟨_,eL,_,g,rfl,?_,hI,.refl _ g w⟩
 match ps,us,u2,u3 with
 | [p],[u],_,u3=>exact u3 0 p u rfl rfl
 | [],[],_,_=>exact .jy [] #[] rfl (by simp)
 | p::q::ps,u::v::us,u2,u3=>
  rw [dif_neg (by simp)]
  exact .jy _ _ (by simpa using u2) (fun i c x e1 e2=>u3 i c x e1 (by simpa using e2))
theorem Jb (hE:bT P E) {fns:FT} (hF:xF P fns) {dr:Cx→Nat→Mp} {cx:Cx} (hx:lK P cx) (sc:∀n β,C3 P n (dr cx n β)) {β:Type} {fn:Func} {F':Tr A} {h':H} {jF:List Nat} {U:Fp} {K:A→H→Fp→Option β} {r:β}
  (k1:NX E fns dr cx fn F' h' jF U K=some r):∃pv h2 T,K pv h2 (U.cat T)=some r∧GR P fn F' h' jF h2 T pv:=by
 unfold NX at k1
 split at k1
 ·exact NW hE k1
 ·rename_i d
  cases hb:Nat.ble 16777216 d with
  | false=>rw [hb] at k1;exact FY hE k1
  | true=>
   rw [hb] at k1
   have hb:=Nat.le_of_ble_eq_true hb
   simp only [cond_true] at k1
   split at k1
   ·rename_i gn x hg
    have Vd:=hF _ gn x hg
    split at k1
    ·rename_i Gt hGa tL wX
     obtain ⟨hn,k1⟩:=af k1
     have hn:=Nat.le_of_ble_eq_true hn
     obtain ⟨e,F2,h2,xP,T,k2,_,k3,k4⟩:=iz hE hx (sc gn.ntmps β) x Gt h' [] _ _ k1
     obtain ⟨k5,k6⟩:=af k2
     clear k2
     simp only [zC] at k5
     obtain rfl:xP=[]:=by simpa using k5.2
     refine ⟨_,_,T,k6,k3,fun S2 hA g w a hI hd hv=>?_⟩
     match aik:a.defers,hd with
     | [el],hd=>
      obtain ⟨v,v1,v2⟩:=(hd.2 0 d el rfl rfl).2 hb
      subst v2
      refine ⟨by simp,.inr ⟨fun h=>by simp [FR,Fence.wide] at h,.func (d / 16777216-1),#[],d / 16777216-1,#[v],rfl,?_,fun _ _=>trivial,?_⟩⟩
      ·have hfn:vG P (d / 16777216-1):=⟨gn,Vd.bm,Vd.name,by rw [Vd.body];rfl⟩
       show (callFunc (d / 16777216-1) (#[v] ++ #[])).run P w=_
       exact hfn.run _ w
      ·refine CallsDIn.mono (callsDIn_of_wp (R:=fun e w2=>e = .returned (.tuple #[])∧∃g',Inv g' (iU T (hp h2) S2) w2∧Ext S2 g w (iU T (hp h2) S2) g' w2) Vd.bm Vd.body trivial ?_) ?_
       ·have d0:=k4 none (fun _=>rfl) S2 g w S2 hA (fun e1 st=>e1=e∧st=fp gn.ntmps F2 [] (iU T (hp h2) S2)) ⟨rfl,rfl⟩
        have hR0:=Yb (g:=g) (vs:=[v]) hGa rfl (by simpa using hn) (fun i p u e1 e2=>by
         cases i with
         | zero=>cases e1;cases e2;exact v1
         | succ i=>cases e1) hI
        refine wpIn_mono (d0 _ w hR0) ?_
        rintro e1 a2 w2 ⟨st,hR,rfl,rfl⟩
        obtain ⟨g1,i1,x1,d1,s1,_⟩:=hR
        have tM:a2.defers=[]:=List.length_eq_zero_iff.1 (by have:=d1.1;simpa [fp] using this.symm)
        have IH:(results gn a2.tmps).run P w2 = .ok (.tuple #[]) w2:=by
         have:=kI (P:=P) (fn:=gn) (tmps:=a2.tmps) (vs:=[]) (w:=w2) (by rw [wX];rfl)
         exact this
        cases e1 with
        | normal=>exact ⟨tM,_,IH,rfl,g1,i1,x1⟩
        | ret=>exact ⟨tM,_,IH,rfl,g1,i1,x1⟩
        | _=>exact absurd k5.1 (by simp [Aw])
       ·rintro e1 u' w2 ⟨rfl,rfl,g',i1,x1⟩
        have IH:(results fn a.tmps).run P w2 = .ok (.tuple #[]) w2:=by
         have:=kI (P:=P) (fn:=fn) (tmps:=a.tmps) (vs:=[]) (w:=w2) (by rw [tL];rfl)
         exact this
        exact ⟨_,IH,_,g',rfl,.jy [] #[] rfl (by simp),i1,x1⟩
     | [],hd=>exact absurd hd.1 (by simp)
     | _::_::_,hd=>exact absurd hd.1 (by simp)
    ·cases k1
   ·cases k1
 ·exact FY hE k1
theorem iN {F:Fence} {n:Nat} {fn:Func} {tmps:Array Value} {R R':Ending→World→Prop} (hr:∀e w,R e w→R' e w):∀(ds:List Deferred) (u:FrameMode) (w:World),LeavesInM F n P fn tmps R ds u w→LeavesInM F n P fn tmps R' ds u w
 | [],u,w,h=>by
  cases u with
  | run=>exact h
  | returning=>obtain ⟨v,h1,h2⟩:=h;exact ⟨v,h1,hr _ _ h2⟩
  | panicking c=>exact hr _ _ h
 | d::ds,u,w,h=>by
  obtain ⟨h0,h⟩:=h
  refine ⟨h0,?_⟩
  rcases h with ⟨r,w',h1,h2,h3⟩ | ⟨h1,fv,cap,f,args,h2,h3,h4,h5⟩
  ·exact .inl ⟨r,w',h1,h2,iN hr ds u w' h3⟩
  ·refine .inr ⟨h1,fv,cap,f,args,h2,h3,h4,h5.mono ?_⟩
   intro e u' w' he
   cases e with
   | returned v=>exact iN hr ds _ _ he
   | panicked c=>exact iN hr ds _ _ he
   | outgrown=>exact hr _ _ he
theorem NJ (hE:bT P E) {fns:FT} (hF:xF P fns) {dr:Cx→Nat→Mp} {cx:Cx} (hx:lK P cx) (sc:∀n β,C3 P n (dr cx n β)) {β:Type} {f:FuncId} {aa:List A} {h:H} {K:A→H→Fp→Option β} {r:β} (hr:fnK E fns dr cx β f aa h K=some r) :
  ∃pv h' T,K pv h' T=some r∧tZ P f aa h h' T pv:=by
 unfold fnK at hr
 split at hr
 ·rename_i fn x hf
  have IP:=hF f fn x hf
  split at hr
  ·rename_i F hFa
   obtain ⟨hn,hr⟩:=af hr
   have hn:=Nat.le_of_ble_eq_true hn
   obtain ⟨e,F',h',jF,T0,k1,_,k2,k3⟩:=iz hE hx (sc fn.ntmps β) x F h [] .no _ hr
   rw [Fp.p_] at k1
   obtain ⟨k4,k1⟩:=af k1
   obtain ⟨pv,h2,T,k8,k6,k7⟩:=Jb (P:=P) hE hF hx sc k1
   have f12:nM h h2 (T0.cat T):=k2.trans k6
   refine ⟨_,_,_,k8,f12.out,f12.rd,⟨fn,IP.bm,IP.name,by rw [IP.body];rfl⟩,fun S2 hA g w vs hI hl hv=>?_⟩
   have A1:=hA.left
   have A2:Agree T (hp h') _:=Agree.right k2 hA
   rw [←fU k6]
   have d:=k3 none (fun _=>rfl) S2 g w S2 A1 (fun e1 st=>e1=e∧st=fp fn.ntmps F' jF (iU T0 (hp h') S2)) ⟨rfl,rfl⟩
   refine (callsIn_wide (n:=0)).1 (callsIn_of_wp_marks (F:=FR none) IP.bm IP.body trivial ?_)
   refine wpIn_mono (d _ w (Yb hFa hl hn hv hI)) ?_
   rintro e1 a w' ⟨st,hR,rfl,rfl⟩
   obtain ⟨g1,i1,x1,d1,s1,v1⟩:=hR
   have key:LeavesInM (FR none) 0 P fn a.tmps (fun e w2=>∃v g',e = .returned v∧V g' pv v∧Inv g' (iU T (hp h2) (iU T0 (hp h') S2)) w2∧Ext S2 g w (iU T (hp h2) (iU T0 (hp h') S2)) g' w2) a.defers .returning w':=by
    refine iN ?_ _ _ _ (k7 _ A2 g1 w' a i1 d1 v1)
    rintro e w2 ⟨v,g',q1,q2,q3,q4⟩
    exact ⟨v,g',q1,q2,q3,x1.trans q4⟩
   cases e1 with
   | normal=>exact key
   | ret=>exact key
   | _=>exact absurd k4 (by simp [Aw])
  ·cases hr
 ·cases hr
theorem HD (hE:bT P E) {dr:Cx→Nat→Mp} {cx:Cx} (hx:lK P cx) (sc:∀n β,C3 P n (dr cx n β)) {β:Type} {y:A} {aa:List A} {h:H} {K:A→H→Fp→Option β} {r:β} (hr:MF E dr cx β y aa h K=some r) :
  ∃pv h' T,K pv h' T=some r∧Ml P y aa h h' T pv:=by
 unfold MF at hr
 split at hr
 ·rename_i q n F ps j lL bd
  split at hr
  ·rename_i pe0 hq0
   obtain ⟨hq,hr⟩:=af hr
   have hq:=aY hq
   obtain ⟨F1,hr,hlen,uV⟩:=tx _ _ _ _ hr
   obtain ⟨e1,Fa,ha,mz,T1,hr,_,f1,d1⟩:=iz hE hx (sc n β) lL F1 h [] .no _ hr
   rw [Fp.p_] at hr
   split at hr
   ·split at hr
    ·rename_i pe hqa
     obtain ⟨_,t2,hr,ht2⟩:=bo hr
     obtain ⟨e2,Fb,hb,xP,T2,hr,_,f3,d2⟩:=iz hE hx (sc n β) bd Fa _ mz .no _ hr
     rw [Fp.p_] at hr
     split at hr
     ·rename_i st3 pe3 jump hqb hj
      obtain ⟨_,t3,hr,ht3⟩:=bo hr
      obtain ⟨f2,v2⟩:=zy (h:=ha) hq ht2
      obtain ⟨f4,v4⟩:=zy (h:=hb) hq ht3
      have f12:=f1.trans f2
      have f34:=f3.trans f4
      have ft:=f12.trans f34
      refine ⟨_,_,_,hr,ft.out,ft.rd,fun S2 hA g w u vs hI hu hl hv=>?_⟩
      have Fw:=hA.left
      have yP:=Agree.right f12 hA
      rw [←fU f34,←fU f4]
      rw [←fU f2] at yP ⊢
      have A1:=Fw.left
      have A2:=Agree.right f1 Fw
      have A3:=yP.left
      have A4:=Agree.right f3 yP
      have dX:=A9 (x:=.cX (.loop .ready pe)) hq hqa A2 (.head _)
      have wY:=A9 (x:=.cX (.loop st3 pe3)) hq hqb A4 (.head _)
      have IL:S2.ob q=some (.cX (.loop .ready pe0))∨True:=.inr trivial
      rw [v4 _ A4]
      rw [v2 _ A2] at A3 A4 wY ⊢
      cases hu with
      | sH _ _ _ _ _ _ _ b s lp h0 IM h1 h2 h3 h4 h5=>
      obtain ⟨rr,r1,r2⟩:=hI.lp b lp IM
      subst r2
      refine ⟨b,rr,rfl,r1,?_,?_⟩
      ·rw [←hl,hlen,←h1];simp [uJ]
      have Xi:(rr.params.zip vs.toArray).foldl (fun tmps (t,a)=>tmps.setIfInBounds t a) rr.tmps=(ps.zip vs).foldl (fun tmps x=>tmps.setIfInBounds x.1 x.2) rr.tmps:=by
       rw [←Array.foldl_toList,Array.toList_zip,←h1];rfl
      rw [Xi]
      obtain ⟨z1,z2⟩:=uV g n vs rr.tmps hl hv h4 h5
      generalize (ps.zip vs).foldl (fun tmps x=>tmps.setIfInBounds x.1 x.2) rr.tmps=T at z1 z2
      have h2:rr.assign=lL.code:=h2
      have h3:rr.body=bd.code:=h3
      rw [h2,h3]
      refine roundIn_of_wpIn trivial ?_
      show lL.code.wpIn (FR (some b)) 0 P _ _ _
      have hR0:R S2 g w (fp n F1 [] S2) { tmps:=T,defers:=[] } w:=⟨g,hI,.refl _ g w,⟨rfl,fun i d el e1=>by simp [fp] at e1⟩,z1,z2⟩
      refine wpIn_mono (d1 (some b) (fun h=>by cases h) S2 g w S2 A1 (fun e st=>e = .normal∧st=fp n Fa mz (iU T1 (hp ha) S2)) ⟨rfl,rfl⟩ _ w hR0) ?_
      rintro e1 a1 w1 ⟨st,Vq,rfl,rfl⟩
      obtain ⟨g1,i1,x1,hd1,Nl,G7⟩:=Vq
      have i1:Inv g1 (iU T1 (hp ha) S2) w1:=i1
      obtain ⟨b1,s1,ob1,q1,q2,q3⟩:=i1.cX q _ dX
      have Vp:=x1.le.bm _ _ h0
      rw [q1] at Vp
      obtain ⟨rfl,rfl⟩:b1=b∧s1=s:=by simpa using Vp
      obtain ⟨YC,rfl,u1,u2⟩:=q3
      obtain ⟨i2,x2⟩:=i1.DM (st':=.busy) (pe':=YC.pending) dX q1 q2
      rw [u2] at i2 x2
      refine ⟨_,run_beginRound q2 u1,?_⟩
      show bd.code.wpIn (FR (some b1)) 0 P _ _ _
      have eb:({ YC with state:=.busy }:Loop)={ YC with state:=.busy,pending:=pe }:=by rw [←u2]
      rw [eb]
      refine wpIn_mono (d2 (some b1) (fun h=>by cases h) S2 g w _ A3 (fun e st=>e=e2∧st=fp n Fb xP (iU T2 (hp hb) ((iU T1 (hp ha) S2).set q (.cX (.loop .busy pe))))) ⟨rfl,rfl⟩ a1 _ ⟨g1,i2,x1.trans x2,hd1,Nl,G7⟩) ?_
      rintro Xj a2 w3 ⟨st,hR3,rfl,rfl⟩
      obtain ⟨g3,i3,x3,_,_,_⟩:=hR3
      obtain ⟨b3,s3,ob3,p1,p2,p3⟩:=i3.cX q _ wY
      have Vo:=x3.le.bm _ _ h0
      rw [p1] at Vo
      obtain ⟨rfl,rfl⟩:b3=b1∧s3=s1:=by simpa using Vo
      obtain ⟨rr3,rfl,w1',w2'⟩:=p3
      have fin:∀jc:Option Code,TZ Xj=some jc→∃v w4,(Instr.endRound b3 jc).run P w3 = .ok v w4∧∃v' g',Ending.returned v = .returned v'∧V g' (.v (.bool jump.isNone)) v'∧Inv g' ((iU T2 (hp hb) ((iU T1 (hp ha) S2).set q (.cX (.loop .busy pe)))).set q (gH.cX (.loop (DX jump) jump)).low) w4∧Ext S2 g w ((iU T2 (hp hb) ((iU T1 (hp ha) S2).set q (.cX (.loop .busy pe)))).set q (gH.cX (.loop (DX jump) jump)).low) g' w4:=by
       intro jc Y1
       rw [hj] at Y1
       obtain rfl:=Option.some.inj Y1
       have yM:=run_endRound (P:=P) jump p2
       have est:(if jump.isNone=true then LoopState.ready else LoopState.done)=DX jump:=by cases jump<;>rfl
       rw [est] at yM
       obtain ⟨i4,x4⟩:=i3.DM (st':=DX jump) (pe':=jump) wY p1 p2
       exact ⟨_,_,yM,_,g3,rfl,.v _,i4,x3.trans x4⟩
      cases Xj with
      | normal=>exact fin none rfl
      | ret=>exact fin _ rfl
      | exit id=>exact fin _ rfl
      | goto l=>cases hj
      | panic c=>cases hj
      | outgrown=>cases hj
     ·cases hr
    ·cases hr
   ·cases hr
  ·cases hr
 ·cases hr
theorem tu (hE:bT P E) {fns:FT} (hF:xF P fns) {dr:Cx→Nat→Mp} {hm:List (Nat×Nat)} {cx:Cx} (hx:lK P cx) (sc:∀n β,C3 P n (dr cx n β)):lK P (x_ E fns dr hm cx):=
 ⟨fun _ _ _ _ _ _ h=>NJ hE hF hx sc h,fun _ _ _ _ _ _ h=>HD hE hx sc h⟩
theorem Bg (hm:List (Nat×Nat)):lK P (Di hm):=⟨fun _ _ _ _ _ r h=>(by have h:(none:Option _)=some r:=h;cases h),fun _ _ _ _ _ r h=>(by have h:(none:Option _)=some r:=h;cases h)⟩
end
end
set_option linter.unusedVariables false
set_option linter.unusedSimpArgs false
section
open Go.RowKit
def cf (T U:Fp):Bool:=(T.w || U.w) && (T.all || U.all || T.rs.any fun a=>U.rs.any (Nat.beq a))
def MH (ops:Array Oper):Nat→Nat→Nat→Bool
 | 0,_,_=>false
 | f+1,i,j=>dep ops i j || (List.range i).any fun m=>dep ops i m && MH ops f m j
theorem rE {ops:Array Oper} {L:Nat→Bool} (hd:∀k j,L k=true→dep ops k j=true→L j=true):∀(f k j:Nat),L k=true→MH ops f k j=true→L j=true
 | 0,_,_,_,h=>by cases h
 | f+1,k,j,hk,h=>by
  simp only [MH,Bool.or_eq_true,List.any_eq_true,zC] at h
  rcases h with h | ⟨m,_,h1,h2⟩
  ·exact hd k j hk h
  ·exact rE hd f m j (hd k m hk h1) h2
theorem HG {ops:Array Oper} {L:Nat→Bool} {i:Nat} (h:Hn ops i L):∀(f j:Nat),MH ops f i j=true→L j=true
 | 0,_,h=>by cases h
 | f+1,j,hr=>by
  simp only [MH,Bool.or_eq_true,List.any_eq_true,zC] at hr
  rcases hr with hr | ⟨m,_,h1,h2⟩
  ·exact h.Je j hr
  ·exact rE h.down f m j (h.Je m h1) h2
def indep (ops:Array Oper) (m:Nat) (Ts:List Fp):Bool:=(List.range m).all fun i=>(List.range i).all fun j=>!(cf (Ts.getD j .no) (Ts.getD i .no)) || MH ops m i j
theorem Mf {T U:Fp} {x:Nat} (h1:touch T x=true) (h2:touch U x=true) (hw:T.w=true∨U.w=true):cf T U=true:=by
 unfold cf
 rw [zC]
 refine ⟨by rcases hw with h | h<;>simp [h],?_⟩
 unfold touch at h1 h2
 simp only [Bool.or_eq_true,List.any_eq_true] at h1 h2 ⊢
 rcases h1 with h1 | ⟨a,ha,h1⟩
 ·exact .inl (.inl h1)
 ·rcases h2 with h2 | ⟨b,hb,h2⟩
  ·exact .inl (.inr h2)
  ·exact .inr ⟨a,ha,b,hb,by rw [←beq_eq h1,←beq_eq h2];exact Nat.beq_refl _⟩
def nJ (S:Hp) (x:Nat):Option Ob×Prop:=(S.ob x,S.fr x)
theorem qZ {S S':Hp} (h:∀x,nJ S x=nJ S' x):S=S':=Hp.ext' (fun i=>congrArg Prod.fst (h i)) (fun i=>by have:=congrArg Prod.snd (h i);exact Iff.of_eq this)
def xW (T:Fp) (H S:Hp):Hp:=bif T.w then iU T H S else S
theorem A7 (T:Fp) (H S:Hp) (x:Nat):nJ (xW T H S) x=if (T.w && touch T x)=true then nJ H x else nJ S x:=by
 unfold xW
 cases hw:T.w with
 | false=>simp
 | true=>
  simp only [cond_true,Bool.true_and]
  show (if touch T x=true then H.ob x else S.ob x,if touch T x=true then H.fr x else S.fr x)=_
  cases touch T x<;>rfl
def mb (L:Nat→Bool):List (Fp×Hp)→Nat→Hp→Hp
 | [],_,S=>S
 | (T,H)::r,j,S=>mb L r (j+1) (bif L j then xW T H S else S)
def fx (L:Nat→Bool) (x:Nat):List (Fp×Hp)→Nat→Option Ob×Prop→Option Ob×Prop
 | [],_,v=>v
 | (T,H)::r,j,v=>fx L x r (j+1) (if (L j && (T.w && touch T x))=true then nJ H x else v)
theorem js (L:Nat→Bool) (x:Nat):∀(r:List (Fp×Hp)) (j:Nat) (S:Hp),nJ (mb L r j S) x=fx L x r j (nJ S x)
 | [],_,_=>rfl
 | (T,H)::r,j,S=>by
  unfold mb fx
  rw [js L x r]
  congr 1
  cases hl:L j with
  | true=>simp only [cond_true,Bool.true_and];exact A7 T H S x
  | false=>simp
theorem mR {L L':Nat→Bool} {x:Nat}:∀(r:List (Fp×Hp)) (j:Nat) (v:Option Ob×Prop),(∀m T H,r[m]?=some (T,H)→(T.w && touch T x)=true→L (j+m)=L' (j+m))→fx L x r j v=fx L' x r j v
 | [],_,_,_=>rfl
 | (T,H)::r,j,v,h=>by
  unfold fx
  have e:(if (L j && (T.w && touch T x))=true then nJ H x else v)=(if (L' j && (T.w && touch T x))=true then nJ H x else v):=by
   cases hw:(T.w && touch T x) with
   | false=>simp
   | true=>rw [show L j=L' j from h 0 T H rfl hw]
  rw [e]
  exact mR r (j+1) _ (fun m T' H' hm hw=>by have:=h (m+1) T' H' (by simpa using hm) hw;rwa [show j+(m+1)=j+1+m by omega] at this)
def Bb (H0:Hp) (rs:List (Fp×Hp)):Nat→Hp
 | 0=>H0
 | m+1=>match rs[m]? with
  | some q=>q.2
  | none=>H0
def kS (H0:Hp) (rs:List (Fp×Hp)):Prop:=∀m T H,rs[m]?=some (T,H)→(∀x,touch T x=false→nJ H x=nJ (Bb H0 rs m) x)∧(T.w=false→H=Bb H0 rs m)
theorem kE {H0:Hp} {q:Fp×Hp} {rs:List (Fp×Hp)} (m:Nat) (hm:m≤rs.length):Bb H0 (q::rs) (m+1)=Bb q.2 rs m:=by
 cases m with
 | zero=>rfl
 | succ m=>
  show (match (q::rs)[m+1]? with | some q=>q.2 | none=>H0)=(match rs[m]? with | some q'=>q'.2 | none=>q.2)
  rw [List.getElem?_cons_succ,zD (show m<rs.length by omega)]
theorem kS.tail {H0:Hp} {q:Fp×Hp} {rs:List (Fp×Hp)} (h:kS H0 (q::rs)):kS q.2 rs:=fun m T H hm=>by
 have:=h (m+1) T H (by simpa using hm)
 rw [kE m (Nat.le_of_lt (zB.1 hm).1)] at this
 exact this
theorem qX {x:Nat}:∀(rs:List (Fp×Hp)) (H0:Hp) (j i:Nat),kS H0 rs→i≤rs.length→fx (fun k=>decide (k<j+i)) x rs j (nJ H0 x)=nJ (Bb H0 rs i) x
 | [],H0,j,i,_,hi=>by
  have:i=0:=by simpa using hi
  subst this;rfl
 | (T,H)::rs,H0,j,0,hc,_=>by
  have Uo:∀(r:List (Fp×Hp)) (k:Nat) (v:Option Ob×Prop),j≤k→fx (fun k=>decide (k<j+0)) x r k v=v:=by
   intro r
   induction r with
   | nil=>intro k v _;rfl
   | cons q r ih=>
    intro k v hk
    obtain ⟨T,H⟩:=q
    unfold fx
    rw [show (decide (k<j+0))=false by simpa using hk]
    simp only [Bool.false_and,Bool.false_eq_true,if_false]
    exact ih (k+1) v (by omega)
  exact Uo _ j _ (Nat.le_refl _)
 | (T,H)::rs,H0,j,i+1,hc,hi=>by
  unfold fx
  rw [show (decide (j<j+(i+1)))=true by simp]
  simp only [Bool.true_and]
  have h0:=hc 0 T H rfl
  have e:(if (T.w && touch T x)=true then nJ H x else nJ H0 x)=nJ H x:=by
   cases hw:T.w with
   | false=>rw [h0.2 hw];simp [Bb]
   | true=>
    cases ht:touch T x with
    | true=>simp
    | false=>simp only [Bool.and_false,Bool.false_eq_true,if_false];exact (h0.1 x ht).symm
  rw [e,kE i (by simpa using hi)]
  have:=qX (x:=x) rs H (j+1) i hc.tail (by simpa using hi)
  rw [show j+1+i=j+(i+1) by omega] at this
  exact this
theorem wV {ops:Array Oper} {H0 S2:Hp} {rs:List (Fp×Hp)} (hc:kS H0 rs) (hi:indep ops rs.length (rs.map (·.1))=true) (hA:∀T H,(T,H)∈rs→Agree T H0 S2) {i:Nat} {T:Fp} {H:Hp} (hr:rs[i]?=some (T,H)) {L:Nat→Bool} (ha:Hn ops i L) :
  Agree T (Bb H0 rs i) (mb L rs 0 S2)∧mb (ins L i) rs 0 S2=xW T H (mb L rs 0 S2):=by
 have eO:=(zB.1 hr).1
 have L4:∀(a b:Nat) (Ta Tb:Fp) (Ha Hb:Hp),b<rs.length→a<b→rs[a]?=some (Ta,Ha)→rs[b]?=some (Tb,Hb)→cf Ta Tb=true→MH ops rs.length b a=true:=fun a b Ta Tb Ha Hb h1 h2 h3 h4 h5=>by
  unfold indep at hi
  have:=List.all_eq_true.1 (List.all_eq_true.1 hi b (List.mem_range.2 h1)) a (List.mem_range.2 h2)
  have ga:(rs.map (·.1)).getD a .no=Ta:=by simp [zA,zL,h3]
  have gb:(rs.map (·.1)).getD b .no=Tb:=by simp [zA,zL,h4]
  rw [ga,gb,h5] at this
  simpa using this
 have seg:∀x,touch T x=true→∀m T' H',rs[m]?=some (T',H')→(T'.w && touch T' x)=true→m≠i→L m=decide (m<i):=fun x hx m T' H' hm hw lf=>by
  simp only [zC] at hw
  have hml:=(zB.1 hm).1
  rcases Nat.lt_or_ge m i with yL | yL
  ·rw [show decide (m<i)=true by simpa using yL]
   exact HG ha _ m (L4 m i T' T H' H eO yL hm hr (Mf hw.2 hx (.inl hw.1)))
  ·have yL:i<m:=by omega
   rw [show decide (m<i)=false by simp;omega]
   cases hl:L m with
   | false=>rfl
   | true=>
    have:=rE ha.down _ m i hl (L4 i m T T' H H' hml yL hr hm (Mf hx hw.2 (.inr hw.1)))
    rw [ha.new] at this;cases this
 have base:∀x,touch T x=true→nJ S2 x=nJ H0 x:=fun x hx=>by
  have:=hA T H (zG hr) x hx
  exact Prod.ext this.1 (propext this.2)
 have pre:∀x,touch T x=true→nJ (mb L rs 0 S2) x=nJ (Bb H0 rs i) x:=fun x hx=>by
  rw [js,base x hx,←qX rs H0 0 i hc (Nat.le_of_lt eO)]
  refine mR rs 0 _ (fun m T' H' hm hw=>?_)
  simp only [Nat.zero_add]
  by_cases yL:m=i
  ·subst yL;rw [ha.new];simp
  ·exact seg x hx m T' H' hm hw yL
 refine ⟨fun x hx=>?_,qZ fun x=>?_⟩
 ·have:=pre x hx
  exact ⟨congrArg Prod.fst this,Iff.of_eq (congrArg Prod.snd this)⟩
 ·rw [A7]
  by_cases hw:(T.w && touch T x)=true
  ·rw [if_pos hw]
   simp only [zC] at hw
   have e:Bb H0 rs (i+1)=H:=by
    show (match rs[i]? with | some q=>q.2 | none=>H0)=H
    rw [hr]
   rw [←e,js,base x hw.2,←qX rs H0 0 (i+1) hc eO]
   refine mR rs 0 _ (fun m T' H' hm hw'=>?_)
   simp only [Nat.zero_add]
   by_cases yL:m=i
   ·subst yL;simp [ins]
   ·have:=seg x hw.2 m T' H' hm hw' yL
    show (m == i || L m)=decide (m<i+1)
    rw [this,show (m == i)=false by simpa using yL,Bool.false_or]
    by_cases h1:m<i
    ·rw [show decide (m<i)=true by simpa using h1,show decide (m<i+1)=true by simp;omega]
    ·rw [show decide (m<i)=false by simpa using h1,show decide (m<i+1)=false by simp;omega]
  ·rw [if_neg hw,js,js]
   refine mR rs 0 _ (fun m T' H' hm hw'=>?_)
   simp only [Nat.zero_add]
   by_cases yL:m=i
   ·subst yL;rw [hr] at hm;cases hm;exact absurd hw' hw
   ·show (m == i || L m)=L m
    rw [show (m == i)=false by simpa using yL,Bool.false_or]
end
set_option linter.unusedVariables false
set_option linter.unusedSimpArgs false
section
open Go.RowKit
section
variable {P:Program} {E:Env} {cx:Cx} {n:Nat} {β:Type} {r:β}
def mn:List Fp→Fp
 | []=>.no
 | T::r=>T.cat (mn r)
def y_ (E:Env) (cx:Cx) (n:Nat) (l0:List Oper):List Oper→Tr A→H→List Fp→(Tr A→H→List Fp→Option β)→Option β
 | [],F,h,acc,K=>K F h acc
 | o::l,F,h,acc,K=>match o.guard with
  | none=>MZ E cx n o.op F h (fun F pv h' T=>ux F o.dst pv (fun F'=>y_ E cx n l0 l F' h' (acc++[T]) K))
  | some (j,want)=>IY l0 n F j want (fun F b=>bif b then MZ E cx n o.op F h (fun F pv h' T=>ux F o.dst pv (fun F'=>y_ E cx n l0 l F' h' (acc++[T]) K)) else ux F o.dst .un (fun F'=>y_ E cx n l0 l F' h (acc++[.no]) K))
def drK (E:Env) (cx:Cx) (n:Nat) (β:Type) (_id:Nat) (ops:List Oper) (F:Tr A) (h:H) (U:Fp) (K:Tr A→H→Fp→Option β):Option β:=
 bif X8 ops.toArray then y_ E cx n ops ops F h [] (fun F h Ts=>bif indep ops.toArray ops.length Ts then K F h (U.cat (mn Ts)) else none) else none
def pH (ops:Array Oper) (H0:Hp) (rs:List (Fp×Hp)) (Sf:(Nat→Bool)→Hp) (k:Nat):Prop:=
 ∀m T H,rs[m]?=some (T,H)→∀L,Hn ops (k+m) L→Agree T (Bb H0 rs m) (Sf L)∧Sf (ins L (k+m))=xW T H (Sf L)
theorem pH.tail {ops:Array Oper} {H0:Hp} {q:Fp×Hp} {rs:List (Fp×Hp)} {Sf:(Nat→Bool)→Hp} {k:Nat} (h:pH ops H0 (q::rs) Sf k):pH ops q.2 rs Sf (k+1):=fun m T H hm L ha=>by
 have:=h (m+1) T H (by simpa using hm) L (by rwa [show k+(m+1)=k+1+m by omega])
 rw [kE m (Nat.le_of_lt (zB.1 hm).1),show k+(m+1)=k+1+m by omega] at this
 exact this
theorem kS.cons {H0:Hp} {T:Fp} {H:Hp} {rs:List (Fp×Hp)} (h1:∀x,touch T x=false→nJ H x=nJ H0 x) (h2:T.w=false→H=H0) (h:kS H rs):kS H0 ((T,H)::rs):=fun m T' H' hm=>by
 cases m with
 | zero=>simp at hm;obtain ⟨rfl,rfl⟩:=hm;exact ⟨h1,h2⟩
 | succ m=>
  have Nr:rs[m]?=some (T',H'):=by simpa using hm
  rw [kE m (Nat.le_of_lt (zB.1 Nr).1)]
  exact h m T' H' Nr
theorem vi (hE:bT P E) (hx:lK P cx) {l0:List Oper}:∀(l:List Oper) (F:Tr A) (h:H) (acc:List Fp) (K:Tr A→H→List Fp→Option β),y_ E cx n l0 l F h acc K=some r →
  ∃F' h' rs,K F' h' (acc++rs.map (·.1))=some r∧Kp (qQ l) F F'∧rs.length=l.length∧kS (hp h) rs∧(∀x,wt (mn (rs.map (·.1))) x=false→nJ (hp h') x=nJ (hp h) x)∧Bb (hp h) rs rs.length=hp h'∧∀Sf k,pH l0.toArray (hp h) rs Sf k→∀ds S (Kf:St→Prop),Kf (fp n F' ds S)→sn P l0.toArray Sf l k (fp n F ds S) Kf
 | [],F,h,acc,K,hr=>⟨F,h,[],by have hr:K F h acc=some r:=hr;simpa using hr,.refl _ F,rfl,fun m T H hm=>by simp at hm,fun _ _=>rfl,rfl,fun Sf k _ ds S Kf hk=>hk⟩
 | o::l,F,h,acc,K,hr=>by
  have yes:∀(F:Tr A),MZ E cx n o.op F h (fun F pv h' T=>ux F o.dst pv (fun F'=>y_ E cx n l0 l F' h' (acc++[T]) K))=some r →
    (∀ds S,o.guard=none∨∃j want,o.guard=some (j,want)∧mP l0.toArray (fp n F ds S) j want=some true) →
    ∃F' h' rs,K F' h' (acc++rs.map (·.1))=some r∧Kp (qQ (o::l)) F F'∧rs.length=(o::l).length∧kS (hp h) rs∧(∀x,wt (mn (rs.map (·.1))) x=false→nJ (hp h') x=nJ (hp h) x)∧Bb (hp h) rs rs.length=hp h'∧∀Sf k,pH l0.toArray (hp h) rs Sf k→∀ds S (Kf:St→Prop),Kf (fp n F' ds S)→sn P l0.toArray Sf (o::l) k (fp n F ds S) Kf:=fun F hr hg=>by
   obtain ⟨F0,e0,pv,h1,T1,k1,k2⟩:=Ev hE hx hr
   obtain ⟨F1,k3,Nb,k4⟩:=qT k1
   obtain ⟨F2,h2,rs,k5,kp2,k6,k7,kw,k8,k9⟩:=vi hE hx l F1 h1 (acc++[T1]) K k3
   have hg:∀ds S,o.guard=none∨∃j want,o.guard=some (j,want)∧mP l0.toArray (fp n F0 ds S) j want=some true:=fun ds S=>by rw [e0];exact hg ds S
   refine ⟨F2,h2,(T1,hp h1)::rs,by simpa using k5,(Kp.of (l:=[]) e0).trans (m:=qQ (o::l)) (Nb.trans kp2 (fun i hi=>zQ _ hi) (fun i hi=>zS _ hi)) (fun i hi=>by cases hi) (fun i hi=>hi),by simp [k6],kS.cons (fun x hx=>Prod.ext (k2.out x hx).1 (propext (k2.out x hx).2)) (fun hw=>qZ fun x=>Prod.ext (k2.rd x (Hq hw)).1 (propext (k2.rd x (Hq hw)).2)) k7,fun x hx=>(kw x (q9 hx).2).trans (Prod.ext (k2.rd x (q9 hx).1).1 (propext (k2.rd x (q9 hx).1).2)),by rw [zR,kE _ (Nat.le_refl _)];exact k8,fun Sf k hs ds S Kf hk=>?_⟩
   rw [←e0 ds S]
   refine ⟨pv,?_,?_⟩
   ·have mN:∀L,Hn l0.toArray k L→C1 P o ((fp n F0 ds S).vK 0) (Sf L) (Sf (ins L k)) pv:=fun L ha=>by
     obtain ⟨q1,q2⟩:=hs 0 T1 (hp h1) rfl L ha
     have q1:Agree T1 (hp h) (Sf L):=q1
     have q2:Sf (ins L k)=xW T1 (hp h1) (Sf L):=q2
     rw [←pZ,q2]
     have:=k2.ok (Sf L) q1
     unfold xW
     cases hw:T1.w with
     | true=>exact this
     | false=>
      rw [show hp h1=hp h from qZ fun x=>Prod.ext (k2.rd x (Hq hw)).1 (propext (k2.rd x (Hq hw)).2),mI q1] at this
      exact this
    unfold tr
    rcases hg ds S with hg | ⟨j,want,hg,hv⟩
    ·rw [hg];exact ⟨0,mN⟩
    ·rw [hg];exact .inl ⟨hv,0,mN⟩
   ·have:=k9 Sf (k+1) hs.tail ds S Kf hk
    rw [←k4 n ds S S,show ((fp n F0 ds S).put o.dst pv).to S=(fp n F0 ds S).put o.dst pv from ur _ _] at this
    exact this
  unfold y_ at hr
  split at hr
  ·rename_i hg
   exact yes F hr (fun _ _=>.inl hg)
  ·rename_i j want hg
   obtain ⟨F1,b,k1,k2,k3⟩:=AL hr
   cases b with
   | true=>
    simp only [cond_true] at k1
    obtain ⟨F',h',rs,q1,qp,q2,q3,qw,q4,q5⟩:=yes F1 k1 (fun ds S=>.inr ⟨j,want,hg,by rw [k2];exact k3 ds S⟩)
    refine ⟨F',h',rs,q1,(Kp.of (l:=[]) k2).trans qp (fun i hi=>by cases hi) (fun i hi=>hi),q2,q3,qw,q4,fun Sf k hs ds S Kf hk=>?_⟩
    rw [←k2]
    exact q5 Sf k hs ds S Kf hk
   | false=>
    simp only [cond_false] at k1
    obtain ⟨F2,k4,Nb,k5⟩:=qT k1
    obtain ⟨F',h',rs,q1,qp,q2,q3,qw,q4,q5⟩:=vi hE hx l F2 h (acc++[.no]) K k4
    refine ⟨F',h',(.no,hp h)::rs,by simpa using q1,(Kp.of (l:=[]) k2).trans (m:=qQ (o::l)) (Nb.trans qp (fun i hi=>zQ _ hi) (fun i hi=>zS _ hi)) (fun i hi=>by cases hi) (fun i hi=>hi),by simp [q2],.cons (fun _ _=>rfl) (fun _=>rfl) q3,fun x hx=>qw x (q9 hx).2,by rw [zR,kE _ (Nat.le_refl _)];exact q4,fun Sf k hs ds S Kf hk=>⟨.un,?_,?_⟩⟩
    ·unfold tr
     rw [hg]
     exact .inr ⟨k3 ds S,fun g=>.un,fun L ha=>(hs 0 .no (hp h) rfl L ha).2⟩
    ·have:=q5 Sf (k+1) hs.tail ds S Kf hk
     rw [←k5 n ds S S,show ((fp n F1 ds S).put o.dst .un).to S=(fp n F1 ds S).put o.dst .un from ur _ _] at this
     rw [←k2]
     exact this
theorem od {x:Nat}:∀(Ts:List Fp),touch (mn Ts) x=Ts.any fun T=>touch T x
 | []=>rfl
 | T::r=>by
  show touch (T.cat (mn r)) x=_
  rw [jd,od r,List.any_cons]
theorem CS {H0:Hp}:∀(rs:List (Fp×Hp)),kS H0 rs→(∀x,touch (mn (rs.map (·.1))) x=false→nJ (Bb H0 rs rs.length) x=nJ H0 x)∧((mn (rs.map (·.1))).w=false→Bb H0 rs rs.length=H0):=fun rs=>by
 induction rs generalizing H0 with
 | nil=>exact fun _=>⟨fun _ _=>rfl,fun _=>rfl⟩
 | cons q rs ih=>
  intro hc
  obtain ⟨T,H⟩:=q
  obtain ⟨i1,i2⟩:=ih hc.tail
  have h0:=hc 0 T H rfl
  rw [zR,kE _ (Nat.le_refl _)]
  refine ⟨fun x hx=>?_,fun hw=>?_⟩
  ·have hx:touch (T.cat (mn (rs.map (·.1)))) x=false:=hx
   rw [jd,Bool.or_eq_false_iff] at hx
   exact (i1 x hx.2).trans (h0.1 x hx.1)
  ·have hw:(T.w || (mn (rs.map (·.1))).w)=false:=hw
   rw [Bool.or_eq_false_iff] at hw
   exact (i2 hw.2).trans (h0.2 hw.1)
theorem F7 (hE:bT P E) (hx:lK P cx) (hm:P.follows .mixedOrders=true) (n:Nat) (β:Type):C3 P n (drK E cx n β):=fun id ops F h U K r hr=>by
 obtain ⟨hch,hr⟩:=af hr
 obtain ⟨F',h',rs,k1,kp,k2,k3,kw,k4,k5⟩:=vi hE hx ops F h [] _ hr
 rw [List.nil_append] at k1
 obtain ⟨hi,k1⟩:=af k1
 rw [←k2] at hi
 refine ⟨F',h',mn (rs.map (·.1)),k1,kp,fun inr ds=>?_⟩
 obtain ⟨e1,e2⟩:=CS rs k3
 rw [k4] at e1 e2
 refine ⟨⟨fun x hx=>⟨congrArg Prod.fst (e1 x hx),Iff.of_eq (congrArg Prod.snd (e1 x hx))⟩,fun x hx=>⟨congrArg Prod.fst (kw x hx),Iff.of_eq (congrArg Prod.snd (kw x hx))⟩⟩,fun ro _ S0 g0 w0 S2 hA Q hq=>?_⟩
 have qM:∀T H,(T,H)∈rs→Agree T (hp h) S2:=fun T H Ct x hx=>hA x (by
  rw [od,List.any_eq_true]
  exact ⟨T,List.mem_map.2 ⟨_,Ct,rfl⟩,hx⟩)
 have zero:∀(r:List (Fp×Hp)) (j:Nat) (S:Hp),mb (fun _=>false) r j S=S:=fun r=>by
  induction r with
  | nil=>exact fun _ _=>rfl
  | cons q r ih=>exact fun j S=>ih (j+1) S
 refine HM (fun L=>mb L rs 0 S2) hm hch (zero rs 0 S2) ?_
 refine k5 (fun L=>mb L rs 0 S2) 0 (fun m T H hmr L ha=>?_) ds S2 _ ?_
 ·rw [Nat.zero_add] at ha ⊢
  exact wV k3 hi qM hmr ha
 ·have e:mb (fun j=>decide (j<ops.length)) rs 0 S2=iU (mn (rs.map (·.1))) (hp h') S2:=qZ fun x=>by
   rw [js]
   cases ht:touch (mn (rs.map (·.1))) x with
   | true=>
    have b:nJ S2 x=nJ (hp h) x:=Prod.ext (hA x ht).1 (propext (hA x ht).2)
    have:=qX (x:=x) rs (hp h) 0 rs.length k3 (Nat.le_refl _)
    rw [Nat.zero_add,k4,k2] at this
    rw [b,this]
    show nJ (hp h') x=(if touch (mn (rs.map (·.1))) x=true then (hp h').ob x else S2.ob x,if touch (mn (rs.map (·.1))) x=true then (hp h').fr x else S2.fr x)
    rw [if_pos ht,if_pos ht];rfl
   | false=>
    rw [mR (L':=fun _=>false) rs 0 _ (fun m T H hmr hw=>by
     simp only [zC] at hw
     have:touch (mn (rs.map (·.1))) x=true:=by
      rw [od,List.any_eq_true]
      exact ⟨T,List.mem_map.2 ⟨_,zG hmr,rfl⟩,hw.2⟩
     rw [this] at ht;cases ht),←js,zero]
    show nJ S2 x=(if touch (mn (rs.map (·.1))) x=true then (hp h').ob x else S2.ob x,if touch (mn (rs.map (·.1))) x=true then (hp h').fr x else S2.fr x)
    rw [if_neg (by rw [ht];simp),if_neg (by rw [ht];simp)];rfl
  show Q .normal ((fp n F' ds S2).to (mb (fun j=>decide (j<ops.length)) rs 0 S2))
  rw [e]
  exact hq
end
end
set_option linter.unusedVariables false
set_option linter.unusedSimpArgs false
open Go.RowKit
inductive vC (P:Program):Nat→Nat→CZ→Prop
 | nil (a b:Nat):vC P a b .nil
 | no {a b:Nat} {l r:CZ} (h1:vC P (2*a) (a+b) l) (h2:vC P (2*a) (2*a+b) r):vC P a b (.node l none r)
 | yes {a b:Nat} {e:ct} {l r:CZ} (h:ba P b e) (h1:vC P (2*a) (a+b) l) (h2:vC P (2*a) (2*a+b) r):vC P a b (.node l (some e) r)
theorem Hx {P:Program} {T:CZ} {a b:Nat} (h:vC P a b T):∀t e,cu T t=some e→ba P (a*t+b) e:=by
 have key:∀(a b:Nat) (l r:CZ),(∀t e,cu l t=some e→ba P (2*a*t+(a+b)) e)→(∀t e,cu r t=some e→ba P (2*a*t+(2*a+b)) e) →
   ∀n e v,cu (.node l v r) (n+1)=some e→ba P (a*(n+1)+b) e:=by
  intro a b l r hl hr n e v ht
  rw [Bz] at ht
  cases hn:Nat.beq (n%2) 0 with
  | true=>
   rw [hn] at ht
   have h0:=Nat.eq_of_beq_eq_true hn
   have:=hl _ e ht
   have e1:a*(n+1)+b=2*a*(n / 2)+(a+b):=by
    have:n=2*(n / 2):=by omega
    generalize n / 2=k at this
    subst this
    rw [Nat.mul_add,Nat.mul_one,Nat.mul_comm 2 a,Nat.mul_assoc];omega
   rw [e1];exact this
  | false=>
   rw [hn] at ht
   have h0:n%2≠0:=fun h=>by rw [h] at hn;cases hn
   have:=hr _ e ht
   have e1:a*(n+1)+b=2*a*(n / 2)+(2*a+b):=by
    have:n=2*(n / 2)+1:=by omega
    generalize n / 2=k at this
    subst this
    rw [show 2*k+1+1=2*(k+1) by omega,←Nat.mul_assoc,Nat.mul_comm a 2,Nat.mul_add,Nat.mul_one];omega
   rw [e1];exact this
 induction h with
 | nil=>intro t e h;cases h
 | no h1 h2 E4 ID=>
  intro t e ht
  cases t with
  | zero=>cases ht
  | succ n=>exact key _ _ _ _ E4 ID n e _ ht
 | yes h h1 h2 E4 ID=>
  intro t e ht
  cases t with
  | zero=>cases ht;rw [Nat.mul_zero,Nat.zero_add];exact h
  | succ n=>exact key _ _ _ _ E4 ID n e _ ht
theorem Ht {P:Program} {T:CZ} (h:vC P 1 0 T):∀t e,cu T t=some e→ba P t e:=fun t e ht=>by
 have:=Hx h t e ht
 rwa [Nat.one_mul,Nat.add_zero] at this
inductive Zi (P:Program):List Nat→Prop
 | nil:Zi P []
 | cons {t:Nat} {r:List Nat} (h:iA P t) (k:Zi P r):Zi P (t::r)
theorem NR {P:Program} {l:List Nat} (h:Zi P l):∀t,l.any (Nat.beq t)=true→iA P t:=by
 induction h with
 | nil=>intro f h;simp at h
 | cons h k ih=>
  rename_i f0 r
  intro f hf
  rw [List.any_cons,Bool.or_eq_true] at hf
  rcases hf with hf | hf
  ·obtain rfl:=Nat.eq_of_beq_eq_true hf;exact h
  ·exact ih f hf
theorem cD {P : Program} {t : Nat} {fs : Array Field} (h1 : P.stoodInHeld t = false) (h2 : P.eqGuardType P.depth t = false) (h3 : P.underlying t = some (.struct fs)) (h4 : fs.toList.all (fun f => f.name != "_") = true) : iA P t :=
 ⟨h1,h2,fun fs' e f hf=>by
  rw [h3] at e
  cases e
  have:=List.all_eq_true.1 h4 f hf
  simpa using this⟩
theorem ax {P:Program} {t:Nat} {e:ct} (h1:P.underlying t=some e.d) (h2:TI P t e.size e.bytes e.zero) (h3:∀fs,e.d = .struct fs→∀w:World,(fs.mapM fun f=>(do pure (f.offset,←sizeOf f.type):Sem (Nat×Nat))).run P w = .ok e.pl.toArray w)
  (h4:∀u,e.t=some u→u.size=e.size∧pN u (kh e.zero)=some u.cQ):ba P t e where
 u:=h1
 ti:=h2
 pl:=h3
 ts:=fun u hu=>(h4 u hu).1
 tz:=fun u hu g=>by
  obtain ⟨i,t1,t2,t3,t4,t5,t6⟩:=h2
  exact (jJ (g:=g) u _ _ (h4 u hu).2).2 _ (oJ t6 g)
theorem kt {e:ct} (h:e.t=none):∀u,e.t=some u→u.size=e.size∧pN u (kh e.zero)=some u.cQ:=fun u hu=>by rw [h] at hu;cases hu
theorem aL {e:ct} {u:Ty} (h:e.t=some u) (h1:u.size=e.size) (h2:pN u (kh e.zero)=some u.cQ):∀u,e.t=some u→u.size=e.size∧pN u (kh e.zero)=some u.cQ:=fun u' hu=>by rw [h] at hu;cases hu;exact ⟨h1,h2⟩
inductive HT where
 | o
 | n (h:Option LH) (x y:HT)
 | z (l:List (Nat×Ty)) (t:HT)
def HT.h:HT→Option LH
 | .o=>none
 | .n h _ _=>h
 | .z _ t=>t.h
def HT.l:HT→HT
 | .o=>.o
 | .n _ x _=>x
 | .z _ t=>t.l
def HT.r:HT→HT
 | .o=>.o
 | .n _ _ y=>y
 | .z _ t=>t.r
def HT.fz:HT→List (Nat×Ty)
 | .z l _=>l
 | _=>[]
def LL (l:List (Nat×Ty)) (x:av):av:=match l with
 | []=>x
 | p::l=>.NI (p::l) x
theorem yu (l:List (Nat×Ty)) (x:av):(LL l x).code=x.code:=by cases l<;>rfl
def Uq:LH:=⟨[],[],[],[],[],[]⟩
def mkSeq (h:Option LH) (x y:av):av:=match h with
 | some h=>.cut h x y
 | none=>.seq x y
def EF (h:Option LH) (x:av):av:=match h with
 | some h=>.loop h x
 | none=>.loop Uq x
def comp:Code→HT→av
 | .skip,_=>.skip
 | .ret,_=>.ret
 | .exit id,_=>.exit id
 | .region id ops d,_=>.region id ops.toList d
 | .seq x y,t=>mkSeq t.h (comp x t.l) (LL t.r.fz (comp y t.r))
 | .cond c x y,t=>.cond c (comp x t.l) (comp y t.r)
 | .block id x,t=>.block id (comp x t.l)
 | .scope x,t=>.scope (comp x t.l)
 | .label l,_=>.label l
 | .loop x,t=>EF t.h (comp x t.l)
 | .rangeFunc g ps x y,t=>.range g ps.toList Uq (comp x t.l) (comp y t.r)
 | c,_=>.bad c
theorem yt (h:Option LH) (x y:av):(mkSeq h x y).code = .seq x.code y.code:=by cases h<;>rfl
theorem wN (h:Option LH) (x:av):(EF h x).code = .loop x.code:=by cases h<;>rfl
theorem CN (c:Code) (t:HT):(comp c t).code=c:=by
 fun_induction comp c t<;>simp_all [av.code,yt,wN,yu]
def au (f:Func):Code:=match f.body with
 | some c=>c
 | none=>.skip
theorem aj {P : Program} {f : Nat} {fn : Func} {t : HT} (h1 : P.funcs[f]? = some fn) (h2 : fn.body = some (au fn)) (h3 : (fn.name == "runtime.NumGoroutine") = false) : aM P f fn (comp (au fn) t) := ⟨h1, by rw [CN]; exact h2, h3⟩
set_option linter.unusedVariables false
set_option linter.unusedSimpArgs false
section
open Go.RowKit
structure vF (P:Program) (f:FuncId) (t:Ty):Prop where
 fn:vG P f
 ok:∀(n:Nat) (w:World),n≤16777216→Calls P f #[.slice none 0 0,.int .i64 (n:Int)] w fun e w'=>∃v,e = .returned v∧((v = .slice none 0 0∧w'=w)∨∃vs ty cap,v = .slice (some ⟨w.heap.size,0,none⟩) 0 cap∧w'=w.drew.alloc (.cells vs ty)∧cap*t.size≤vs.size∧cap≤maxLen)
structure pL (P:Program) (f:FuncId) (t:Ty):Prop where
 fn:vG P f
 none:∀(n c:Nat) (w:World),Calls P f #[.slice none n c] w fun e w'=>e = .returned (.slice none 0 0)∧w'=w
 some:∀(g:G) (S:Hp) (q:Nat),S.fr q→∀l:List t.T,l.length≤16777216→∀(w:World),Inv g S w→∀(a:Addr) (n c:Nat),(∀w2,Inv g S w2→Given g w2 (.slice (some a) n c) t.size l.length (l.flatMap (aA t))) →
  Calls P f #[.slice (some a) n c] w fun e w'=>∃v g',e = .returned v∧V g' (.tw (.loc q) t.size) v∧Inv g' (S.new q (.cells (l.flatMap (aA t)))) w'∧Ext S g w (S.new q (.cells (l.flatMap (aA t)))) g' w'
inductive Pb where
 | fn (sg:da) (F:Plain sg)
 | grow (t:Ty)
 | clone (t:Ty)
abbrev vI:=Nat→Option Pb
def Pb.Ok (P:Program) (f:FuncId):Pb→Prop
 | .fn sg F=>bj P f sg F
 | .grow t=>vF P f t
 | .clone t=>pL P f t
def mm (P:Program) (sK:vI):Prop:=∀f e,sK f=some e→e.Ok P f
def AK {β:Type} (t:Ty) (aa:List A) (h:H) (K:A→H→Fp→Option β):Option β:=match aa with
 | [.v (.slice none 0 0),.v (.int .i64 n)]=>gd (bn n) (gd (bp (nN n) 16777216) (nF (.row t []) h (fun q h'=>K (.tw (.loc q) t.size) h' (.wr [dz q]))))
 | _=>none
def vn {β:Type} (t:Ty) (aa:List A) (h:H) (K:A→H→Fp→Option β):Option β:=match aa with
 | [py]=>ya h t py (fun l T=>gd (bp (len (α:=t.T) l) 16777216) (nF (.row t l) h (fun q h'=>K (.tw (.loc q) t.size) h' ⟨false,dz q::T,true,[dz q]⟩)))
 | _=>none
def N2 (sK:vI) (y7:Cx):Cx:=⟨fun β f aa h K=>match sK f with
 | some (.fn sg F)=>Zb sg F aa h K
 | some (.grow t)=>AK t aa h K
 | some (.clone t)=>vn t aa h K
 | none=>y7.call β f aa h K,y7.hm,y7.sH⟩
section
variable {P:Program} {E:Env}
theorem Fx {β:Type} {f:FuncId} {t:Ty} (hg:vF P f t) {aa:List A} {h:H} {K:A→H→Fp→Option β} {r:β} (hr:AK t aa h K=some r):∃pv h' T,K pv h' T=some r∧tZ P f aa h h' T pv:=by
 unfold AK at hr
 split at hr
 ·rename_i n
  obtain ⟨hp,hr⟩:=bz hr
  have hp:0≤n:=hp
  obtain ⟨hn,hr⟩:=bz hr
  have hn:n.toNat≤16777216:=hn
  have UT:n=((n.toNat:Nat):Int):=by omega
  obtain ⟨h',k1,hq,hf,hh⟩:=fW hr
  have hT:∀u∈[Up.new h.aR (gH.row t []).low],touch (.wr [dz h.aR]) u.id=true:=fun u hu=>by rcases zF.1 hu with rfl;exact aB (o:=h.aR) hq (.head _)
  have hW:∀u∈[Up.new h.aR (gH.row t []).low],wt (.wr [dz h.aR]) u.id=true:=fun u hu=>by rcases zF.1 hu with rfl;exact aB (l:=[dz h.aR]) (w:=false) (s:=[]) (o:=h.aR) hq (.head _)
  refine ⟨_,_,_,k1,fun i hi=>by rw [hh];exact dj _ _ i (fun u hu e=>by rw [e,hT u hu] at hi;cases hi),fun i hi=>by rw [hh];exact dj _ _ i (fun u hu e=>by rw [e,hW u hu] at hi;cases hi),hg.fn,fun S2 hA=>?_⟩
  rw [hh,hP hT hA]
  show PC P f _ S2 (S2.new h.aR (.cells [])) _
  have Fq:S2.fr h.aR:=(hA _ (aB hq (.head _))).2.2 hf
  intro g w vs hI hl hv
  match vs,hl with
  | [u,v],_=>
   have e1:=(hv 0 _ _ rfl rfl).gw
   have e2:=(hv 1 _ _ rfl rfl).gw
   subst e1 e2
   rw [UT]
   refine (hg.ok n.toNat w hn).mono ?_
   rintro e w' ⟨v,rfl,⟨rfl,rfl⟩ | ⟨vs,ty,cap,rfl,rfl,k3,k4⟩⟩
   ·obtain ⟨q1,q2⟩:=hI.emp Fq
    exact ⟨_,_,rfl,.te (.loc h.aR) t.size none cg,q1,q2⟩
   ·obtain ⟨q1,q2⟩:=hI.drew.l7 Fq (cs:=[]) (vs:=vs) ty (Nat.zero_le _) ⟨by simp,fun j c x e=>by simp at e⟩
    refine ⟨_,_,rfl,.tw (.loc h.aR) t.size 0 w.heap.size cap vs.size ?_ (Nat.zero_le _) k4 k3 0 (fun _=>rfl),q1,Inv.ub q2⟩
    rw [Nat.zero_mul];exact cg
 ·cases hr
theorem CQ {β:Type} {f:FuncId} {t:Ty} (hg:pL P f t) {aa:List A} {h:H} {K:A→H→Fp→Option β} {r:β} (hr:vn t aa h K=some r):∃pv h' T,K pv h' T=some r∧tZ P f aa h h' T pv:=by
 unfold vn at hr
 split at hr
 ·rename_i py
  obtain ⟨l,T,hr,uZ⟩:=uf hr
  obtain ⟨hn,hr⟩:=bz hr
  have hn:List.length (α:=t.T) l≤16777216:=hn
  obtain ⟨h',k1,hq,hf,hh⟩:=fW hr
  have hT:∀u∈[Up.new h.aR (gH.row t l).low],touch ⟨false,dz h.aR::T,true,[dz h.aR]⟩ u.id=true:=fun u hu=>by rcases zF.1 hu with rfl;exact aB (o:=h.aR) hq (.head _)
  have hW:∀u∈[Up.new h.aR (gH.row t l).low],wt ⟨false,dz h.aR::T,true,[dz h.aR]⟩ u.id=true:=fun u hu=>by rcases zF.1 hu with rfl;exact aB (l:=[dz h.aR]) (w:=false) (s:=[]) (o:=h.aR) hq (.head _)
  refine ⟨_,_,_,k1,fun i hi=>by rw [hh];exact dj _ _ i (fun u hu e=>by rw [e,hT u hu] at hi;cases hi),fun i hi=>by rw [hh];exact dj _ _ i (fun u hu e=>by rw [e,hW u hu] at hi;cases hi),hg.fn,fun S2 hA=>?_⟩
  rw [hh,hP hT hA]
  show PC P f _ S2 (S2.new h.aR (.cells (List.flatMap (aA t) l))) _
  have Fq:S2.fr h.aR:=(hA _ (aB hq (.head _))).2.2 hf
  have uZ:=uZ S2 (hA.mono fun i hi=>.tail _ hi)
  intro g w vs hI YX hv
  match vs,YX with
  | [u],_=>
   have e1:=hv 0 _ _ rfl rfl
   have Y2:∀w2,Inv g S2 w2→Given g w2 u t.size l.length (l.flatMap (aA t)):=fun w2 hI2=>uZ g w2 u hI2 e1
   obtain ⟨A,c,us,rfl,k2,k3,k4⟩:=Y2 w hI
   cases A with
   | none=>
    have hl0:l=[]:=by
     rcases Nat.eq_zero_or_pos l.length with h0 | h0
     ·exact zZ h0
     ·obtain ⟨_,e,_⟩:=k4 h0;cases e
    refine (hg.none _ c w).mono ?_
    rintro e w' ⟨rfl,rfl⟩
    rw [hl0]
    obtain ⟨q1,q2⟩:=hI.emp Fq
    exact ⟨_,_,rfl,.te (.loc h.aR) t.size none cg,q1,q2⟩
   | some a=>exact hg.some g S2 h.aR Fq l hn w hI a _ c Y2
 ·cases hr
theorem AY {sK:vI} (hc:mm P sK) {y7:Cx} (hf:lK P y7):lK P (N2 sK y7):=⟨fun β f aa h K r hr=>by
 have hr:(match sK f with | some (.fn sg F)=>Zb sg F aa h K | some (.grow t)=>AK t aa h K | some (.clone t)=>vn t aa h K | none=>y7.call β f aa h K)=some r:=hr
 split at hr
 ·rename_i sg F he
  exact N4 (hc f _ he) hr
 ·rename_i t he
  exact Fx (hc f _ he) hr
 ·rename_i t he
  exact CQ (hc f _ he) hr
 ·exact hf.call β f aa h K r hr,hf.sH⟩
def cxT (E:Env) (fns:FT) (hm:List (Nat×Nat)) (sK:vI):Nat→Cx
 | 0=>N2 sK (Di hm)
 | k+1=>N2 sK (x_ E fns (fun cx n=>drK E cx n) hm (cxT E fns hm sK k))
def cxF (E:Env) (fns:FT) (hm:List (Nat×Nat)) (sK:vI) (k:Nat):Cx:=x_ E fns (fun cx n=>drK E cx n) hm (cxT E fns hm sK k)
theorem vj (hE:bT P E) (Cu:P.follows .mixedOrders=true) {fns:FT} (hF:xF P fns) {hm:List (Nat×Nat)} {sK:vI} (hc:mm P sK):∀k,lK P (cxT E fns hm sK k)
 | 0=>AY hc (Bg hm)
 | k+1=>AY hc (tu hE hF (vj hE Cu hF hc k) (fun n β=>F7 hE (vj hE Cu hF hc k) Cu n β))
theorem sr (hE:bT P E) (Cu:P.follows .mixedOrders=true) {fns:FT} (hF:xF P fns) {hm:List (Nat×Nat)} {sK:vI} (hc:mm P sK) (k:Nat):lK P (cxF E fns hm sK k):=tu hE hF (vj hE Cu hF hc k) (fun n β=>F7 hE (vj hE Cu hF hc k) Cu n β)
theorem bj.of {f:FuncId} {sg:da} {F G:Plain sg} (h:bj P f sg G) (e:∀x c d,F x c d=G x c d):bj P f sg F:=by
 have:F=G:=funext fun x=>funext fun c=>funext fun d=>e x c d
 rw [this];exact h
end
end
set_option linter.unusedVariables false
set_option linter.unusedSimpArgs false
section
open Go.RowKit
def ah {α:Type} (d:α) (l:List α) (i:Nat) (f:α→α):List α:=upd l i (f (nth d l i))
def ctN:vI:=fun _=>none
def ctC (f:Nat) (sg:da) (F:Plain sg) (l:vI):vI:=fun g=>bif Nat.beq g f then some (.fn sg F) else l g
def ctG (f:Nat) (t:Ty) (l:vI):vI:=fun g=>bif Nat.beq g f then some (.grow t) else l g
def ctL (f:Nat) (t:Ty) (l:vI):vI:=fun g=>bif Nat.beq g f then some (.clone t) else l g
theorem aH {P:Program}:mm P ctN:=fun f e h=>by cases h
theorem ao {P:Program} {f:Nat} {sg:da} {F:Plain sg} {l:vI} (h:bj P f sg F) (k:mm P l):mm P (ctC f sg F l):=fun g e hg=>by
 have hg:(bif Nat.beq g f then some (Pb.fn sg F) else l g)=some e:=hg
 cases hb:Nat.beq g f with
 | true=>rw [hb] at hg;cases hg;rw [beq_eq hb];exact h
 | false=>rw [hb] at hg;exact k g e hg
theorem Gc {P:Program} {f:Nat} {t:Ty} {l:vI} (h:pL P f t) (k:mm P l):mm P (ctL f t l):=fun g e hg=>by
 have hg:(bif Nat.beq g f then some (Pb.clone t) else l g)=some e:=hg
 cases hb:Nat.beq g f with
 | true=>rw [hb] at hg;cases hg;rw [beq_eq hb];exact h
 | false=>rw [hb] at hg;exact k g e hg
theorem N5 {P:Program} {f:Nat} {t:Ty} {l:vI} (h:vF P f t) (k:mm P l):mm P (ctG f t l):=fun g e hg=>by
 have hg:(bif Nat.beq g f then some (Pb.grow t) else l g)=some e:=hg
 cases hb:Nat.beq g f with
 | true=>rw [hb] at hg;cases hg;rw [beq_eq hb];exact h
 | false=>rw [hb] at hg;exact k g e hg
inductive JD (P:Program):Nat→Nat→Tr (Func×av)→Prop
 | nil (a b:Nat):JD P a b .nil
 | no {a b:Nat} {l r:Tr (Func×av)} (h1:JD P (2*a) (a+b) l) (h2:JD P (2*a) (2*a+b) r):JD P a b (.node l none r)
 | yes {a b:Nat} {fn:Func} {x:av} {l r:Tr (Func×av)} (h:aM P b fn x) (h1:JD P (2*a) (a+b) l) (h2:JD P (2*a) (2*a+b) r):JD P a b (.node l (some (fn,x)) r)
theorem NH {P:Program} {T:Tr (Func×av)} {a b:Nat} (h:JD P a b T):∀t fn x,T.get t=some (fn,x)→aM P (a*t+b) fn x:=by
 have key:∀(a b:Nat) (l r:Tr (Func×av)),(∀t fn x,l.get t=some (fn,x)→aM P (2*a*t+(a+b)) fn x)→(∀t fn x,r.get t=some (fn,x)→aM P (2*a*t+(2*a+b)) fn x) →
   ∀n fn x v,(Tr.node l v r).get (n+1)=some (fn,x)→aM P (a*(n+1)+b) fn x:=by
  intro a b l r hl hr n fn x v ht
  rw [Tr.ik] at ht
  cases hn:Nat.beq (n%2) 0 with
  | true=>
   rw [hn] at ht
   have h0:=Nat.eq_of_beq_eq_true hn
   have:=hl _ fn x ht
   have e1:a*(n+1)+b=2*a*(n / 2)+(a+b):=by
    have:n=2*(n / 2):=by omega
    generalize n / 2=k at this
    subst this
    rw [Nat.mul_add,Nat.mul_one,Nat.mul_comm 2 a,Nat.mul_assoc];omega
   rw [e1];exact this
  | false=>
   rw [hn] at ht
   have h0:n%2≠0:=fun h=>by rw [h] at hn;cases hn
   have:=hr _ fn x ht
   have e1:a*(n+1)+b=2*a*(n / 2)+(2*a+b):=by
    have:n=2*(n / 2)+1:=by omega
    generalize n / 2=k at this
    subst this
    rw [show 2*k+1+1=2*(k+1) by omega,←Nat.mul_assoc,Nat.mul_comm a 2,Nat.mul_add,Nat.mul_one];omega
   rw [e1];exact this
 induction h with
 | nil=>intro t fn x h;cases h
 | no h1 h2 E4 ID=>
  intro t fn x ht
  cases t with
  | zero=>cases ht
  | succ n=>exact key _ _ _ _ E4 ID n fn x _ ht
 | yes h h1 h2 E4 ID=>
  intro t fn x ht
  cases t with
  | zero=>cases ht;rw [Nat.mul_zero,Nat.zero_add];exact h
  | succ n=>exact key _ _ _ _ E4 ID n fn x _ ht
theorem NG {P:Program} {T:Tr (Func×av)} (h:JD P 1 0 T):xF P (fun f=>T.get f):=fun f fn x hf=>by
 have:=NH h f fn x hf
 rwa [Nat.one_mul,Nat.add_zero] at this
theorem Xl {P:Program} {E:Env} {fns:FT} {hm:List (Nat×Nat)} {sK:vI} (hE:bT P E) (Cu:P.follows .mixedOrders=true) (hF:xF P fns) (hc:mm P sK) (k:Nat) {f:FuncId} {sg:da} {F:Plain sg} (e:∀x c d,F x c d=ME (cxF E fns hm sK k) f sg x c d):bj P f sg F:=
 (HA (sr hE Cu hF hc k) f sg).of e
theorem _root_.Go.Bm.V.KN {g:G} {t:Ty} {f:Bool} {l:List t.T} {v:Value} (hv:V g (.tl t f l) v):(∃a n c,v = .slice (some a) n c∧VD g.mem (.sl t.size f (l.map (dh t))) v)∨(l=[]∧v = .slice none 0 0):=by
 cases hv with
 | tl _ _ _ _ hd=>
  generalize qW:List.map (dh t) l=es at hd
  have qg:es.length=l.length:=by rw [←qW,zH]
  have nI:=hd
  cases hd with
  | ui sz full A=>
   cases A with
   | none=>exact .inr ⟨zZ qg.symm,rfl⟩
   | some a=>exact .inl ⟨_,_,_,rfl,nI⟩
  | sl _ _ _ a cap vs hz hc hf hn hx hl hm G6=>
   cases a with
   | some p=>exact .inl ⟨_,_,_,rfl,nI⟩
   | none=>
    have h0:cap=0:=hn rfl
    have h1:es.length=0:=by omega
    refine .inr ⟨zZ (by omega),?_⟩
    rw [h0,h1];rfl
theorem PC.less {P:Program} {f:FuncId} {aa:List A} {S S1 S2:Hp} {r:A} (h:PC P f aa S S1 r) (hs:∀o x,S2.ob o=some x→S1.ob o=some x) (hf:∀o,S2.fr o→S1.fr o):PC P f aa S S2 r:=fun g w vs hI hl hv=>by
 refine (h g w vs hI hl hv).mono ?_
 rintro e w' ⟨v,g',rfl,q1,q2,q3⟩
 exact ⟨v,g',rfl,q1,q2.less hs hf,q3.trans (.less hs hf)⟩
theorem LW {h:H} {i:Nat} (hl:i<cI):(hp h).ob i=fO h.t i∧((hp h).fr i↔h.aR≤i):=⟨if_pos hl,by show (if i<cI then _ else _)↔_;rw [if_pos hl]⟩
theorem pf {t:Tr gH} {n m:Nat} {l:List Rg} {k k':List Nat} (h:n≤m):(∀o x,(hp ⟨.nil,m,l,k'⟩).ob o=some x→(hp ⟨t,n,l,k⟩).ob o=some x)∧∀o,(hp ⟨.nil,m,l,k'⟩).fr o→(hp ⟨t,n,l,k⟩).fr o:=by
 refine ⟨fun o x e=>?_,fun o e=>?_⟩
 ·by_cases ho:o<cI
  ·rw [(LW ho).1] at e
   have e0:fO .nil o=none:=by unfold fO;rw [Tr.get_nil]
   rw [show (⟨.nil,m,l,k'⟩:H).t = .nil from rfl,e0] at e
   cases e
  ·rw [(fm ho).1] at e ⊢;exact e
 ·by_cases ho:o<cI
  ·rw [(LW ho).2] at e ⊢;exact Nat.le_trans h e
  ·rw [(fm ho).2] at e ⊢;exact e
theorem vl {P:Program} {cx:Cx} (hx:lK P cx) {f:FuncId} {t:Ty} {rs:List (Bool×Ty)} {F:List t.T→Option (kG rs×Unit)}
  (hn:HB cx f ⟨[(false,.aF t)],rs,[],[]⟩ [.v (.slice none 0 0)] () ()=F []) (h1:∀l,HB cx f ⟨[(false,.aF t)],rs,[],[]⟩ [.nn t l] () ()=F l):bj P f ⟨[(false,.aF t)],rs,[],[]⟩ (fun x _ _=>F x.1):=by
 refine ⟨fun x c d y h=>(oU hx f _ _ c d y.1 y.2 ((h1 x.1).trans h)).1,fun x c d y d' h=>?_⟩
 obtain ⟨l,u⟩:=x
 obtain ⟨_,t1,n1,k1,p1⟩:=oU hx f _ _ c d y d' ((h1 l).trans h)
 obtain ⟨a1,a2⟩:=pf (t:=t1) (n:=n1) (m:=n1) (l:=dC [] d'++dC [] c) (k:=k1) (k':=k1) (Nat.le_refl _)
 have full:∀m,n1≤m→PC P f [.nn t l] (hp (h0 [] [] c d)) (hp ⟨.nil,m,dC [] d'++dC [] c,k1⟩) (sP rs y):=fun m hm=>p1.less (pf hm).1 (pf hm).2
 cases l with
 | cons a l=>
  refine ⟨.nil,n1,k1,fun g w vs hI hl hv=>?_⟩
  match vs,hl with
  | [v],_=>
   rcases (hv 0 _ _ rfl rfl:V g (.tl t false (a::l)) v).KN with ⟨b,n,c2,rfl,hd⟩ | ⟨e,_⟩
   ·exact full n1 (Nat.le_refl _) g w _ hI rfl fun i p v e1 e2=>by
     cases i with
     | zero=>cases e1;cases e2;exact .nn _ _ _ _ _ hd
     | succ i=>cases e1
   ·cases e
 | nil=>
  obtain ⟨_,t0,n0,k0,p0⟩:=oU hx f _ _ c d y d' (hn.trans h)
  refine ⟨.nil,n1+n0,k1,fun g w vs hI hl hv=>?_⟩
  match vs,hl with
  | [v],_=>
   rcases (hv 0 _ _ rfl rfl:V g (.tl t false []) v).KN with ⟨b,n,c2,rfl,hd⟩ | ⟨_,rfl⟩
   ·exact full _ (Nat.le_add_right _ _) g w _ hI rfl fun i p v e1 e2=>by
     cases i with
     | zero=>cases e1;cases e2;exact .nn _ _ _ _ _ hd
     | succ i=>cases e1
   ·exact (p0.less (S2:=hp ⟨.nil,n1+n0,dC [] d'++dC [] c,k1⟩) (pf (Nat.le_add_left _ _)).1 (pf (Nat.le_add_left _ _)).2) g w _ hI rfl fun i p v e1 e2=>by
     cases i with
     | zero=>cases e1;cases e2;exact .v _
     | succ i=>cases e1
end
end Go.Bm
set_option linter.unusedVariables false
set_option linter.unusedSimpArgs false
namespace Go.Proofs.YtklkjncibchelaaGreat
open Go.Bm
set_option maxRecDepth 20000
def R0:RK:=(.box (.pair (.pair (.int .i64) (.pair (.int .i64) (.pair (.int .i64) (.int .i64)))) (.pair (.je 9 1) (.pair (.ptr 1) (.pair (.ptr 3) (.pair (.je 5 1) (.pair (.je 7 14) (.int .i64))))))))
def R1:RK:=(.box (.je 2 1))
def R2:RK:=(.row (.int .u8))
def R3:RK:=(.box (.pair (.int .i64) (.pair (.int .i64) (.je 4 2))))
def R4:RK:=(.row (.pair (.int .i64) (.int .i64)))
def R5:RK:=(.row (.ptr 6))
def R6:RK:=(.box (.pair (.aF (.pair (.int .u8) (.pair (.int .u8) (.pair (.int .u8) (.pair (.int .u8) (.pair (.int .i64) (.pair (.int .i64) (.int .i64)))))))) (.pair (.je 8 1) (.pair (.aF (.pair (.int .i64) .bool)) (.pair (.pair (.pair (.int .u8) (.pair (.int .u8) (.pair (.int .u8) (.pair (.int .u8) (.pair (.int .i64) (.pair (.int .i64) (.int .i64))))))) (.pair (.int .i64) (.pair (.int .i64) (.pair (.int .u64) (.pair (.int .u64) (.pair (.aF (.pair (.int .i64) .bool)) (.pair (.int .u64) (.pair (.int .u64) (.pair (.int .i64) (.pair (.int .i64) (.pair (.aF (.int .i64)) (.pair (.int .i64) (.pair (.aF (.int .i64)) (.pair (.int .i64) (.pair .bool (.pair .bool (.pair .bool (.pair (.int .i64) (.pair (.int .i64) (.aF (.int .i64))))))))))))))))))))) (.pair .bool (.int .i64)))))))
def R7:RK:=(.row (.pair (.int .i64) (.pair (.pair (.int .u8) (.pair (.int .u8) (.pair (.int .u8) (.pair (.int .u8) (.pair (.int .i64) (.pair (.int .i64) (.int .i64))))))) (.pair (.int .i64) (.pair (.int .i64) (.pair (.int .i64) (.pair (.int .i64) (.pair (.int .i64) (.aF (.int .i64))))))))))
def R8:RK:=(.row (.int .u64))
def R9:RK:=(.row (.aF (.pair (.int .u8) (.pair (.int .i64) (.int .i64)))))
def Zh:RK:=(.box (.pair (.ptr 11) (.pair (.je 16 33) (.pair (.je 17 14) (.int .i64)))))
def O7:RK:=(.box (.pair (.pair (.int .i64) (.pair (.int .i64) (.pair (.int .i64) (.int .i64)))) (.pair (.aF (.aF (.pair (.int .u8) (.pair (.int .i64) (.int .i64))))) (.pair (.ptr 12) (.ptr 14)))))
def JA:RK:=(.box (.je 13 1))
def Jz:RK:=(.row (.int .u64))
def OC:RK:=(.box (.pair (.int .i64) (.je 15 1)))
def Mo:RK:=(.row .bool)
def Zg:RK:=(.row (.pair (.aF (.pair (.int .u8) (.pair (.int .u8) (.pair (.int .u8) (.pair (.int .u8) (.pair (.int .i64) (.pair (.int .i64) (.int .i64)))))))) (.pair (.arr 4 (.int .u64)) (.pair (.aF (.pair (.int .i64) .bool)) (.pair (.pair (.pair (.int .u8) (.pair (.int .u8) (.pair (.int .u8) (.pair (.int .u8) (.pair (.int .i64) (.pair (.int .i64) (.int .i64))))))) (.pair (.int .i64) (.pair (.int .i64) (.pair (.int .u64) (.pair (.int .u64) (.pair (.aF (.pair (.int .i64) .bool)) (.pair (.int .u64) (.pair (.int .u64) (.pair (.int .i64) (.pair (.int .i64) (.pair (.aF (.int .i64)) (.pair (.int .i64) (.pair (.aF (.int .i64)) (.pair (.int .i64) (.pair .bool (.pair .bool (.pair .bool (.pair (.int .i64) (.pair (.int .i64) (.aF (.int .i64))))))))))))))))))))) (.int .i64))))))
def R17:RK:=(.row (.pair (.int .i64) (.pair (.pair (.int .u8) (.pair (.int .u8) (.pair (.int .u8) (.pair (.int .u8) (.pair (.int .i64) (.pair (.int .i64) (.int .i64))))))) (.pair (.int .i64) (.pair (.int .i64) (.pair (.int .i64) (.pair (.int .i64) (.pair (.int .i64) (.aF (.int .i64))))))))))
def ty1:ct:=⟨.func #[] #[] false,1,8,.nilFunc,[],none,false⟩
theorem te1:ba Tryz.prog 1 ty1:=ax Tryz.underlying1 (aN (by kernel_rfl) rfl rfl) (fun _ h=>by cases h) (kt rfl)
def ty2:ct:=⟨.int .i64,1,8,.int .i64 0,[],(some (.int .i64)),false⟩
theorem te2:ba Tryz.prog 2 ty2:=ax Tryz.underlying2 (aN (by kernel_rfl) rfl rfl) (fun _ h=>by cases h) (aL rfl (by kernel_rfl) (by kernel_rfl))
def ty3:ct:=⟨.int .i64,1,8,.int .i64 0,[],(some (.int .i64)),false⟩
theorem ZW:ba Tryz.prog 3 ty3:=ax Tryz.underlying3 (aN (by kernel_rfl) rfl rfl) (fun _ h=>by cases h) (aL rfl (by kernel_rfl) (by kernel_rfl))
def ty4:ct:=⟨.bool,1,1,.bool false,[],(some .bool),false⟩
theorem te4:ba Tryz.prog 4 ty4:=ax Tryz.underlying4 (aN (by kernel_rfl) rfl rfl) (fun _ h=>by cases h) (aL rfl (by kernel_rfl) (by kernel_rfl))
def ty5:ct:=⟨.int .u8,1,1,.int .u8 0,[],(some (.int .u8)),false⟩
theorem te5:ba Tryz.prog 5 ty5:=ax Tryz.underlying5 (aN (by kernel_rfl) rfl rfl) (fun _ h=>by cases h) (aL rfl (by kernel_rfl) (by kernel_rfl))
def ty9:ct:=⟨.string,1,16,.string ByteArray.empty,[],none,false⟩
theorem te9:ba Tryz.prog 9 ty9:=ax Tryz.underlying9 (aN (by kernel_rfl) rfl rfl) (fun _ h=>by cases h) (kt rfl)
def Rp:ct:=⟨.int .u64,1,8,.int .u64 0,[],(some (.int .u64)),false⟩
theorem Z3:ba Tryz.prog 12 Rp:=ax Tryz.underlying12 (aN (by kernel_rfl) rfl rfl) (fun _ h=>by cases h) (aL rfl (by kernel_rfl) (by kernel_rfl))
def Ro : ct := ⟨.struct #[⟨"msg", 9, 0, false, "", "runtime", 0⟩, ⟨"addr", 12, 1, false, "", "runtime", 16⟩], 2, 24, .agg #[.string ByteArray.empty, .int .u64 0], [(0, 1), (1, 1)], none, false⟩
theorem Z2:ba Tryz.prog 13 Ro:=ax Tryz.underlying13 (aN (by kernel_rfl) rfl rfl) (fun fs h w=>by cases h;kernel_rfl) (kt rfl)
def Rm:ct:=⟨.int .i32,1,4,.int .i32 0,[],(some (.int .i32)),false⟩
theorem Z1:ba Tryz.prog 21 Rm:=ax Tryz.underlying21 (aN (by kernel_rfl) rfl rfl) (fun _ h=>by cases h) (aL rfl (by kernel_rfl) (by kernel_rfl))
def Rl:ct:=⟨.int .i64,1,8,.int .i64 0,[],(some (.int .i64)),false⟩
theorem Z0:ba Tryz.prog 23 Rl:=ax Tryz.underlying23 (aN (by kernel_rfl) rfl rfl) (fun _ h=>by cases h) (aL rfl (by kernel_rfl) (by kernel_rfl))
def Rk:ct:=⟨.array 4 5,4,4,.agg #[.int .u8 0,.int .u8 0,.int .u8 0,.int .u8 0],[],(some (.arr 4 (.int .u8))),false⟩
theorem ZZ:ba Tryz.prog 27 Rk:=ax Tryz.underlying27 (aN (by kernel_rfl) rfl rfl) (fun _ h=>by cases h) (aL rfl (by kernel_rfl) (by kernel_rfl))
def Rj:ct:=⟨.slice 30,1,24,.slice none 0 0,[],(some (.aF (.aF (.pair (.int .u8) (.pair (.int .u8) (.pair (.int .u8) (.pair (.int .u8) (.pair (.int .i64) (.pair (.int .i64) (.int .i64)))))))))),false⟩
theorem ZY:ba Tryz.prog 28 Rj:=ax Tryz.underlying28 (aN (by kernel_rfl) rfl rfl) (fun _ h=>by cases h) (aL rfl (by kernel_rfl) (by kernel_rfl))
def Ri:ct:=⟨.array 4 3,4,32,.agg #[.int .i64 0,.int .i64 0,.int .i64 0,.int .i64 0],[],(some (.arr 4 (.int .i64))),false⟩
theorem ZX:ba Tryz.prog 29 Ri:=ax Tryz.underlying29 (aN (by kernel_rfl) rfl rfl) (fun _ h=>by cases h) (aL rfl (by kernel_rfl) (by kernel_rfl))
def Rh:ct:=⟨.slice 40,1,24,.slice none 0 0,[],(some (.aF (.pair (.int .u8) (.pair (.int .u8) (.pair (.int .u8) (.pair (.int .u8) (.pair (.int .i64) (.pair (.int .i64) (.int .i64))))))))),false⟩
theorem ZV:ba Tryz.prog 30 Rh:=ax Tryz.underlying30 (aN (by kernel_rfl) rfl rfl) (fun _ h=>by cases h) (aL rfl (by kernel_rfl) (by kernel_rfl))
def Rf:ct:=⟨.pointer 85,1,8,.pointer none,[],(some (.ptr 0)),false⟩
theorem ZU:ba Tryz.prog 31 Rf:=ax Tryz.underlying31 (aN (by kernel_rfl) rfl rfl) (fun _ h=>by cases h) (aL rfl (by kernel_rfl) (by kernel_rfl))
def Re : ct := ⟨.struct #[⟨"Scopes", 3, 0, false, "", "", 0⟩, ⟨"Threads", 3, 1, false, "", "", 8⟩, ⟨"Immortal", 3, 2, false, "", "", 16⟩, ⟨"Heap", 3, 3, false, "", "", 24⟩], 4, 32, .agg #[.int .i64 0, .int .i64 0, .int .i64 0, .int .i64 0], [(0, 1), (1, 1), (2, 1), (3, 1)], (some (.pair (.int .i64) (.pair (.int .i64) (.pair (.int .i64) (.int .i64))))), false⟩
theorem ZT:ba Tryz.prog 34 Re:=ax Tryz.underlying34 (aN (by kernel_rfl) rfl rfl) (fun fs h w=>by cases h;kernel_rfl) (aL rfl (by kernel_rfl) (by kernel_rfl))
def Rd : ct := ⟨.struct #[⟨"Scopes", 3, 0, false, "", "", 0⟩, ⟨"Threads", 3, 1, false, "", "", 8⟩, ⟨"Immortal", 3, 2, false, "", "", 16⟩, ⟨"Heap", 3, 3, false, "", "", 24⟩], 4, 32, .agg #[.int .i64 0, .int .i64 0, .int .i64 0, .int .i64 0], [(0, 1), (1, 1), (2, 1), (3, 1)], (some (.pair (.int .i64) (.pair (.int .i64) (.pair (.int .i64) (.int .i64))))), false⟩
theorem ZS:ba Tryz.prog 35 Rd:=ax Tryz.underlying35 (aN (by kernel_rfl) rfl rfl) (fun fs h w=>by cases h;kernel_rfl) (aL rfl (by kernel_rfl) (by kernel_rfl))
def Rc:ct:=⟨.slice 45,1,24,.slice none 0 0,[],(some (.aF (.pair (.int .i64) (.pair (.pair (.int .u8) (.pair (.int .u8) (.pair (.int .u8) (.pair (.int .u8) (.pair (.int .i64) (.pair (.int .i64) (.int .i64))))))) (.pair (.int .i64) (.pair (.int .i64) (.pair (.int .i64) (.pair (.int .i64) (.pair (.int .i64) (.aF (.int .i64))))))))))),false⟩
theorem Hv:ba Tryz.prog 37 Rc:=ax Tryz.underlying37 (aN (by kernel_rfl) rfl rfl) (fun _ h=>by cases h) (aL rfl (by kernel_rfl) (by kernel_rfl))
def Rb : ct := ⟨.struct #[⟨"Op", 5, 0, false, "", "", 0⟩, ⟨"R", 5, 1, false, "", "", 1⟩, ⟨"H", 5, 2, false, "", "", 2⟩, ⟨"V", 5, 3, false, "", "", 3⟩, ⟨"A", 3, 4, false, "", "", 8⟩, ⟨"B", 3, 5, false, "", "", 16⟩, ⟨"C", 3, 6, false, "", "", 24⟩], 7, 32, .agg #[.int .u8 0, .int .u8 0, .int .u8 0, .int .u8 0, .int .i64 0, .int .i64 0, .int .i64 0], [(0, 1), (1, 1), (2, 1), (3, 1), (4, 1), (5, 1), (6, 1)], (some (.pair (.int .u8) (.pair (.int .u8) (.pair (.int .u8) (.pair (.int .u8) (.pair (.int .i64) (.pair (.int .i64) (.int .i64)))))))), false⟩
theorem ZR:ba Tryz.prog 39 Rb:=ax Tryz.underlying39 (aN (by kernel_rfl) rfl rfl) (fun fs h w=>by cases h;kernel_rfl) (aL rfl (by kernel_rfl) (by kernel_rfl))
def Ra : ct := ⟨.struct #[⟨"Op", 5, 0, false, "", "", 0⟩, ⟨"R", 5, 1, false, "", "", 1⟩, ⟨"H", 5, 2, false, "", "", 2⟩, ⟨"V", 5, 3, false, "", "", 3⟩, ⟨"A", 3, 4, false, "", "", 8⟩, ⟨"B", 3, 5, false, "", "", 16⟩, ⟨"C", 3, 6, false, "", "", 24⟩], 7, 32, .agg #[.int .u8 0, .int .u8 0, .int .u8 0, .int .u8 0, .int .i64 0, .int .i64 0, .int .i64 0], [(0, 1), (1, 1), (2, 1), (3, 1), (4, 1), (5, 1), (6, 1)], (some (.pair (.int .u8) (.pair (.int .u8) (.pair (.int .u8) (.pair (.int .u8) (.pair (.int .i64) (.pair (.int .i64) (.int .i64)))))))), false⟩
theorem ZQ:ba Tryz.prog 40 Ra:=ax Tryz.underlying40 (aN (by kernel_rfl) rfl rfl) (fun fs h w=>by cases h;kernel_rfl) (aL rfl (by kernel_rfl) (by kernel_rfl))
def Q_:ct:=⟨.slice 3,1,24,.slice none 0 0,[],(some (.aF (.int .i64))),false⟩
theorem Hu:ba Tryz.prog 41 Q_:=ax Tryz.underlying41 (aN (by kernel_rfl) rfl rfl) (fun _ h=>by cases h) (aL rfl (by kernel_rfl) (by kernel_rfl))
def Q9 : ct := ⟨.struct #[⟨"Code", 23, 0, false, "", "", 0⟩, ⟨"N", 3, 1, false, "", "", 8⟩, ⟨"Said", 41, 2, false, "", "", 16⟩], 3, 40, .agg #[.int .i64 0, .int .i64 0, .slice none 0 0], [(0, 1), (1, 1), (2, 1)], (some (.pair (.int .i64) (.pair (.int .i64) (.aF (.int .i64))))), false⟩
theorem ZP:ba Tryz.prog 42 Q9:=ax Tryz.underlying42 (aN (by kernel_rfl) rfl rfl) (fun fs h w=>by cases h;kernel_rfl) (aL rfl (by kernel_rfl) (by kernel_rfl))
def Q8 : ct := ⟨.struct #[⟨"Code", 23, 0, false, "", "", 0⟩, ⟨"N", 3, 1, false, "", "", 8⟩, ⟨"Said", 41, 2, false, "", "", 16⟩], 3, 40, .agg #[.int .i64 0, .int .i64 0, .slice none 0 0], [(0, 1), (1, 1), (2, 1)], (some (.pair (.int .i64) (.pair (.int .i64) (.aF (.int .i64))))), false⟩
theorem ZO:ba Tryz.prog 43 Q8:=ax Tryz.underlying43 (aN (by kernel_rfl) rfl rfl) (fun fs h w=>by cases h;kernel_rfl) (aL rfl (by kernel_rfl) (by kernel_rfl))
def Q7 : ct := ⟨.struct #[⟨"Thread", 3, 0, false, "", "", 0⟩, ⟨"Call", 40, 1, false, "", "", 8⟩, ⟨"From", 3, 8, false, "", "", 40⟩, ⟨"Point", 3, 9, false, "", "", 48⟩, ⟨"To", 3, 10, false, "", "", 56⟩, ⟨"Answer", 43, 11, false, "", "", 64⟩], 14, 104, .agg #[.int .i64 0, .int .u8 0, .int .u8 0, .int .u8 0, .int .u8 0, .int .i64 0, .int .i64 0, .int .i64 0, .int .i64 0, .int .i64 0, .int .i64 0, .int .i64 0, .int .i64 0, .slice none 0 0], [(0, 1), (1, 7), (8, 1), (9, 1), (10, 1), (11, 3)], (some (.pair (.int .i64) (.pair (.pair (.int .u8) (.pair (.int .u8) (.pair (.int .u8) (.pair (.int .u8) (.pair (.int .i64) (.pair (.int .i64) (.int .i64))))))) (.pair (.int .i64) (.pair (.int .i64) (.pair (.int .i64) (.pair (.int .i64) (.pair (.int .i64) (.aF (.int .i64)))))))))), false⟩
theorem ZN:ba Tryz.prog 44 Q7:=ax Tryz.underlying44 (aN (by kernel_rfl) rfl rfl) (fun fs h w=>by cases h;kernel_rfl) (aL rfl (by kernel_rfl) (by kernel_rfl))
def Q6 : ct := ⟨.struct #[⟨"Thread", 3, 0, false, "", "", 0⟩, ⟨"Call", 40, 1, false, "", "", 8⟩, ⟨"From", 3, 8, false, "", "", 40⟩, ⟨"Point", 3, 9, false, "", "", 48⟩, ⟨"To", 3, 10, false, "", "", 56⟩, ⟨"Answer", 43, 11, false, "", "", 64⟩], 14, 104, .agg #[.int .i64 0, .int .u8 0, .int .u8 0, .int .u8 0, .int .u8 0, .int .i64 0, .int .i64 0, .int .i64 0, .int .i64 0, .int .i64 0, .int .i64 0, .int .i64 0, .int .i64 0, .slice none 0 0], [(0, 1), (1, 7), (8, 1), (9, 1), (10, 1), (11, 3)], (some (.pair (.int .i64) (.pair (.pair (.int .u8) (.pair (.int .u8) (.pair (.int .u8) (.pair (.int .u8) (.pair (.int .i64) (.pair (.int .i64) (.int .i64))))))) (.pair (.int .i64) (.pair (.int .i64) (.pair (.int .i64) (.pair (.int .i64) (.pair (.int .i64) (.aF (.int .i64)))))))))), false⟩
theorem Rx:ba Tryz.prog 45 Q6:=ax Tryz.underlying45 (aN (by kernel_rfl) rfl rfl) (fun fs h w=>by cases h;kernel_rfl) (aL rfl (by kernel_rfl) (by kernel_rfl))
def Q5:ct:=⟨.slice 53,1,24,.slice none 0 0,[],(some (.aF (.aF (.pair (.int .u8) (.pair (.int .i64) (.int .i64)))))),false⟩
theorem ZM:ba Tryz.prog 47 Q5:=ax Tryz.underlying47 (aN (by kernel_rfl) rfl rfl) (fun _ h=>by cases h) (aL rfl (by kernel_rfl) (by kernel_rfl))
def Q4 : ct := ⟨.struct #[⟨"P", 35, 0, false, "", "", 0⟩, ⟨"Fins", 47, 4, false, "", "", 32⟩, ⟨"Progs", 28, 5, false, "", "", 56⟩], 6, 80, .agg #[.int .i64 0, .int .i64 0, .int .i64 0, .int .i64 0, .slice none 0 0, .slice none 0 0], [(0, 4), (4, 1), (5, 1)], (some (.pair (.pair (.int .i64) (.pair (.int .i64) (.pair (.int .i64) (.int .i64)))) (.pair (.aF (.aF (.pair (.int .u8) (.pair (.int .i64) (.int .i64))))) (.aF (.aF (.pair (.int .u8) (.pair (.int .u8) (.pair (.int .u8) (.pair (.int .u8) (.pair (.int .i64) (.pair (.int .i64) (.int .i64)))))))))))), false⟩
theorem ZL:ba Tryz.prog 48 Q4:=ax Tryz.underlying48 (aN (by kernel_rfl) rfl rfl) (fun fs h w=>by cases h;kernel_rfl) (aL rfl (by kernel_rfl) (by kernel_rfl))
def Q3 : ct := ⟨.struct #[⟨"P", 35, 0, false, "", "", 0⟩, ⟨"Fins", 47, 4, false, "", "", 32⟩, ⟨"Progs", 28, 5, false, "", "", 56⟩], 6, 80, .agg #[.int .i64 0, .int .i64 0, .int .i64 0, .int .i64 0, .slice none 0 0, .slice none 0 0], [(0, 4), (4, 1), (5, 1)], (some (.pair (.pair (.int .i64) (.pair (.int .i64) (.pair (.int .i64) (.int .i64)))) (.pair (.aF (.aF (.pair (.int .u8) (.pair (.int .i64) (.int .i64))))) (.aF (.aF (.pair (.int .u8) (.pair (.int .u8) (.pair (.int .u8) (.pair (.int .u8) (.pair (.int .i64) (.pair (.int .i64) (.int .i64)))))))))))), false⟩
theorem ZK:ba Tryz.prog 49 Q3:=ax Tryz.underlying49 (aN (by kernel_rfl) rfl rfl) (fun fs h w=>by cases h;kernel_rfl) (aL rfl (by kernel_rfl) (by kernel_rfl))
def Q2:ct:=⟨.slice 88,1,24,.slice none 0 0,[],(some (.aF (.pair (.int .u8) (.pair (.int .i64) (.int .i64))))),false⟩
theorem ZJ:ba Tryz.prog 53 Q2:=ax Tryz.underlying53 (aN (by kernel_rfl) rfl rfl) (fun _ h=>by cases h) (aL rfl (by kernel_rfl) (by kernel_rfl))
def Q1:ct:=⟨.pointer 70,1,8,.pointer none,[],(some (.ptr 10)),false⟩
theorem ZH:ba Tryz.prog 58 Q1:=ax Tryz.underlying58 (aN (by kernel_rfl) rfl rfl) (fun _ h=>by cases h) (aL rfl (by kernel_rfl) (by kernel_rfl))
def Q0:ct:=⟨.int .u16,1,2,.int .u16 0,[],(some (.int .u16)),false⟩
theorem ZG:ba Tryz.prog 64 Q0:=ax Tryz.underlying64 (aN (by kernel_rfl) rfl rfl) (fun _ h=>by cases h) (aL rfl (by kernel_rfl) (by kernel_rfl))
def QZ:ct:=⟨.pointer 160,1,8,.pointer none,[],(some (.ptr 11)),false⟩
theorem ZF:ba Tryz.prog 67 QZ:=ax Tryz.underlying67 (aN (by kernel_rfl) rfl rfl) (fun _ h=>by cases h) (aL rfl (by kernel_rfl) (by kernel_rfl))
def QY:ct:=⟨.slice 155,1,24,.slice none 0 0,[],(some (.aF (.pair (.aF (.pair (.int .u8) (.pair (.int .u8) (.pair (.int .u8) (.pair (.int .u8) (.pair (.int .i64) (.pair (.int .i64) (.int .i64)))))))) (.pair (.arr 4 (.int .u64)) (.pair (.aF (.pair (.int .i64) .bool)) (.pair (.pair (.pair (.int .u8) (.pair (.int .u8) (.pair (.int .u8) (.pair (.int .u8) (.pair (.int .i64) (.pair (.int .i64) (.int .i64))))))) (.pair (.int .i64) (.pair (.int .i64) (.pair (.int .u64) (.pair (.int .u64) (.pair (.aF (.pair (.int .i64) .bool)) (.pair (.int .u64) (.pair (.int .u64) (.pair (.int .i64) (.pair (.int .i64) (.pair (.aF (.int .i64)) (.pair (.int .i64) (.pair (.aF (.int .i64)) (.pair (.int .i64) (.pair .bool (.pair .bool (.pair .bool (.pair (.int .i64) (.pair (.int .i64) (.aF (.int .i64))))))))))))))))))))) (.int .i64))))))),false⟩
theorem ZE:ba Tryz.prog 68 QY:=ax Tryz.underlying68 (aN (by kernel_rfl) rfl rfl) (fun _ h=>by cases h) (aL rfl (by kernel_rfl) (by kernel_rfl))
def QX : ct := ⟨.struct #[⟨"X", 67, 0, false, "", "", 0⟩, ⟨"T", 68, 1, false, "", "", 8⟩, ⟨"Ops", 37, 2, false, "", "", 32⟩, ⟨"Steps", 3, 3, false, "", "", 56⟩], 4, 64, .agg #[.pointer none, .slice none 0 0, .slice none 0 0, .int .i64 0], [(0, 1), (1, 1), (2, 1), (3, 1)], (some (.pair (.ptr 11) (.pair (.aF (.pair (.aF (.pair (.int .u8) (.pair (.int .u8) (.pair (.int .u8) (.pair (.int .u8) (.pair (.int .i64) (.pair (.int .i64) (.int .i64)))))))) (.pair (.arr 4 (.int .u64)) (.pair (.aF (.pair (.int .i64) .bool)) (.pair (.pair (.pair (.int .u8) (.pair (.int .u8) (.pair (.int .u8) (.pair (.int .u8) (.pair (.int .i64) (.pair (.int .i64) (.int .i64))))))) (.pair (.int .i64) (.pair (.int .i64) (.pair (.int .u64) (.pair (.int .u64) (.pair (.aF (.pair (.int .i64) .bool)) (.pair (.int .u64) (.pair (.int .u64) (.pair (.int .i64) (.pair (.int .i64) (.pair (.aF (.int .i64)) (.pair (.int .i64) (.pair (.aF (.int .i64)) (.pair (.int .i64) (.pair .bool (.pair .bool (.pair .bool (.pair (.int .i64) (.pair (.int .i64) (.aF (.int .i64))))))))))))))))))))) (.int .i64)))))) (.pair (.aF (.pair (.int .i64) (.pair (.pair (.int .u8) (.pair (.int .u8) (.pair (.int .u8) (.pair (.int .u8) (.pair (.int .i64) (.pair (.int .i64) (.int .i64))))))) (.pair (.int .i64) (.pair (.int .i64) (.pair (.int .i64) (.pair (.int .i64) (.pair (.int .i64) (.aF (.int .i64)))))))))) (.int .i64))))), false⟩
theorem ZD:ba Tryz.prog 69 QX:=ax Tryz.underlying69 (aN (by kernel_rfl) rfl rfl) (fun fs h w=>by cases h;kernel_rfl) (aL rfl (by kernel_rfl) (by kernel_rfl))
def QW : ct := ⟨.struct #[⟨"X", 67, 0, false, "", "", 0⟩, ⟨"T", 68, 1, false, "", "", 8⟩, ⟨"Ops", 37, 2, false, "", "", 32⟩, ⟨"Steps", 3, 3, false, "", "", 56⟩], 4, 64, .agg #[.pointer none, .slice none 0 0, .slice none 0 0, .int .i64 0], [(0, 1), (1, 1), (2, 1), (3, 1)], (some (.pair (.ptr 11) (.pair (.je 16 33) (.pair (.je 17 14) (.int .i64))))), false⟩
theorem ZC:ba Tryz.prog 70 QW:=ax Tryz.underlying70 (aN (by kernel_rfl) rfl rfl) (fun fs h w=>by cases h;kernel_rfl) (aL rfl (by kernel_rfl) (by kernel_rfl))
def QV:ct:=⟨.pointer 169,1,8,.pointer none,[],(some (.ptr 1)),false⟩
theorem ZB:ba Tryz.prog 79 QV:=ax Tryz.underlying79 (aN (by kernel_rfl) rfl rfl) (fun _ h=>by cases h) (aL rfl (by kernel_rfl) (by kernel_rfl))
def QU:ct:=⟨.pointer 172,1,8,.pointer none,[],(some (.ptr 3)),false⟩
theorem ZA:ba Tryz.prog 80 QU:=ax Tryz.underlying80 (aN (by kernel_rfl) rfl rfl) (fun _ h=>by cases h) (aL rfl (by kernel_rfl) (by kernel_rfl))
def QT:ct:=⟨.slice 89,1,24,.slice none 0 0,[],none,false⟩
theorem Zz:ba Tryz.prog 83 QT:=ax Tryz.underlying83 (aN (by kernel_rfl) rfl rfl) (fun _ h=>by cases h) (kt rfl)
def QS : ct := ⟨.struct #[⟨"p", 35, 0, false, "", "penfold/world", 0⟩, ⟨"fins", 47, 4, false, "", "penfold/world", 32⟩, ⟨"arena", 79, 5, false, "", "penfold/world", 56⟩, ⟨"ground", 80, 6, false, "", "penfold/world", 64⟩, ⟨"threads", 83, 7, false, "", "penfold/world", 72⟩, ⟨"ops", 37, 8, false, "", "penfold/world", 96⟩, ⟨"steps", 3, 9, false, "", "penfold/world", 120⟩], 10, 128, .agg #[.int .i64 0, .int .i64 0, .int .i64 0, .int .i64 0, .slice none 0 0, .pointer none, .pointer none, .slice none 0 0, .slice none 0 0, .int .i64 0], [(0, 4), (4, 1), (5, 1), (6, 1), (7, 1), (8, 1), (9, 1)], none, false⟩
theorem Zy:ba Tryz.prog 84 QS:=ax Tryz.underlying84 (aN (by kernel_rfl) rfl rfl) (fun fs h w=>by cases h;kernel_rfl) (kt rfl)
def QR : ct := ⟨.struct #[⟨"p", 35, 0, false, "", "penfold/world", 0⟩, ⟨"fins", 47, 4, false, "", "penfold/world", 32⟩, ⟨"arena", 79, 5, false, "", "penfold/world", 56⟩, ⟨"ground", 80, 6, false, "", "penfold/world", 64⟩, ⟨"threads", 83, 7, false, "", "penfold/world", 72⟩, ⟨"ops", 37, 8, false, "", "penfold/world", 96⟩, ⟨"steps", 3, 9, false, "", "penfold/world", 120⟩], 10, 128, .agg #[.int .i64 0, .int .i64 0, .int .i64 0, .int .i64 0, .slice none 0 0, .pointer none, .pointer none, .slice none 0 0, .slice none 0 0, .int .i64 0], [(0, 4), (4, 1), (5, 1), (6, 1), (7, 1), (8, 1), (9, 1)], (some (.pair (.pair (.int .i64) (.pair (.int .i64) (.pair (.int .i64) (.int .i64)))) (.pair (.je 9 1) (.pair (.ptr 1) (.pair (.ptr 3) (.pair (.je 5 1) (.pair (.je 7 14) (.int .i64)))))))), false⟩
theorem Zx:ba Tryz.prog 85 QR:=ax Tryz.underlying85 (aN (by kernel_rfl) rfl rfl) (fun fs h w=>by cases h;kernel_rfl) (aL rfl (by kernel_rfl) (by kernel_rfl))
def QQ : ct := ⟨.struct #[⟨"Op", 5, 0, false, "", "", 0⟩, ⟨"A", 3, 1, false, "", "", 8⟩, ⟨"B", 3, 2, false, "", "", 16⟩], 3, 24, .agg #[.int .u8 0, .int .i64 0, .int .i64 0], [(0, 1), (1, 1), (2, 1)], (some (.pair (.int .u8) (.pair (.int .i64) (.int .i64)))), false⟩
theorem Zw:ba Tryz.prog 87 QQ:=ax Tryz.underlying87 (aN (by kernel_rfl) rfl rfl) (fun fs h w=>by cases h;kernel_rfl) (aL rfl (by kernel_rfl) (by kernel_rfl))
def QP : ct := ⟨.struct #[⟨"Op", 5, 0, false, "", "", 0⟩, ⟨"A", 3, 1, false, "", "", 8⟩, ⟨"B", 3, 2, false, "", "", 16⟩], 3, 24, .agg #[.int .u8 0, .int .i64 0, .int .i64 0], [(0, 1), (1, 1), (2, 1)], (some (.pair (.int .u8) (.pair (.int .i64) (.int .i64)))), false⟩
theorem Zv:ba Tryz.prog 88 QP:=ax Tryz.underlying88 (aN (by kernel_rfl) rfl rfl) (fun fs h w=>by cases h;kernel_rfl) (aL rfl (by kernel_rfl) (by kernel_rfl))
def QO:ct:=⟨.pointer 96,1,8,.pointer none,[],(some (.ptr 6)),false⟩
theorem Zu:ba Tryz.prog 89 QO:=ax Tryz.underlying89 (aN (by kernel_rfl) rfl rfl) (fun _ h=>by cases h) (aL rfl (by kernel_rfl) (by kernel_rfl))
def QN:ct:=⟨.slice 92,1,24,.slice none 0 0,[],(some (.aF (.int .u64))),false⟩
theorem Zt:ba Tryz.prog 90 QN:=ax Tryz.underlying90 (aN (by kernel_rfl) rfl rfl) (fun _ h=>by cases h) (aL rfl (by kernel_rfl) (by kernel_rfl))
def QM:ct:=⟨.slice 140,1,24,.slice none 0 0,[],(some (.aF (.pair (.int .i64) .bool))),false⟩
theorem Zr:ba Tryz.prog 91 QM:=ax Tryz.underlying91 (aN (by kernel_rfl) rfl rfl) (fun _ h=>by cases h) (aL rfl (by kernel_rfl) (by kernel_rfl))
def QL:ct:=⟨.int .u64,1,8,.int .u64 0,[],(some (.int .u64)),false⟩
theorem Zq:ba Tryz.prog 92 QL:=ax Tryz.underlying92 (aN (by kernel_rfl) rfl rfl) (fun _ h=>by cases h) (aL rfl (by kernel_rfl) (by kernel_rfl))
def QK : ct := ⟨.struct #[⟨"Call", 40, 0, false, "", "", 0⟩, ⟨"Pc", 3, 7, false, "", "", 32⟩, ⟨"Area", 3, 8, false, "", "", 40⟩, ⟨"Hand", 92, 9, false, "", "", 48⟩, ⟨"Val", 92, 10, false, "", "", 56⟩, ⟨"Chain", 91, 11, false, "", "", 64⟩, ⟨"Word", 92, 12, false, "", "", 88⟩, ⟨"Next", 92, 13, false, "", "", 96⟩, ⟨"At", 3, 14, false, "", "", 104⟩, ⟨"Top", 3, 15, false, "", "", 112⟩, ⟨"List", 41, 16, false, "", "", 120⟩, ⟨"Op", 3, 17, false, "", "", 144⟩, ⟨"Said", 41, 18, false, "", "", 152⟩, ⟨"N", 3, 19, false, "", "", 176⟩, ⟨"Held", 4, 20, false, "", "", 184⟩, ⟨"Done", 4, 21, false, "", "", 185⟩, ⟨"Point", 4, 22, false, "", "", 186⟩, ⟨"Answer", 43, 23, false, "", "", 192⟩], 26, 232, .agg #[.int .u8 0, .int .u8 0, .int .u8 0, .int .u8 0, .int .i64 0, .int .i64 0, .int .i64 0, .int .i64 0, .int .i64 0, .int .u64 0, .int .u64 0, .slice none 0 0, .int .u64 0, .int .u64 0, .int .i64 0, .int .i64 0, .slice none 0 0, .int .i64 0, .slice none 0 0, .int .i64 0, .bool false, .bool false, .bool false, .int .i64 0, .int .i64 0, .slice none 0 0], [(0, 7), (7, 1), (8, 1), (9, 1), (10, 1), (11, 1), (12, 1), (13, 1), (14, 1), (15, 1), (16, 1), (17, 1), (18, 1), (19, 1), (20, 1), (21, 1), (22, 1), (23, 3)], (some (.pair (.pair (.int .u8) (.pair (.int .u8) (.pair (.int .u8) (.pair (.int .u8) (.pair (.int .i64) (.pair (.int .i64) (.int .i64))))))) (.pair (.int .i64) (.pair (.int .i64) (.pair (.int .u64) (.pair (.int .u64) (.pair (.aF (.pair (.int .i64) .bool)) (.pair (.int .u64) (.pair (.int .u64) (.pair (.int .i64) (.pair (.int .i64) (.pair (.aF (.int .i64)) (.pair (.int .i64) (.pair (.aF (.int .i64)) (.pair (.int .i64) (.pair .bool (.pair .bool (.pair .bool (.pair (.int .i64) (.pair (.int .i64) (.aF (.int .i64)))))))))))))))))))))), false⟩
theorem Zp:ba Tryz.prog 93 QK:=ax Tryz.underlying93 (aN (by kernel_rfl) rfl rfl) (fun fs h w=>by cases h;kernel_rfl) (aL rfl (by kernel_rfl) (by kernel_rfl))
def QJ : ct := ⟨.struct #[⟨"Call", 40, 0, false, "", "", 0⟩, ⟨"Pc", 3, 7, false, "", "", 32⟩, ⟨"Area", 3, 8, false, "", "", 40⟩, ⟨"Hand", 92, 9, false, "", "", 48⟩, ⟨"Val", 92, 10, false, "", "", 56⟩, ⟨"Chain", 91, 11, false, "", "", 64⟩, ⟨"Word", 92, 12, false, "", "", 88⟩, ⟨"Next", 92, 13, false, "", "", 96⟩, ⟨"At", 3, 14, false, "", "", 104⟩, ⟨"Top", 3, 15, false, "", "", 112⟩, ⟨"List", 41, 16, false, "", "", 120⟩, ⟨"Op", 3, 17, false, "", "", 144⟩, ⟨"Said", 41, 18, false, "", "", 152⟩, ⟨"N", 3, 19, false, "", "", 176⟩, ⟨"Held", 4, 20, false, "", "", 184⟩, ⟨"Done", 4, 21, false, "", "", 185⟩, ⟨"Point", 4, 22, false, "", "", 186⟩, ⟨"Answer", 43, 23, false, "", "", 192⟩], 26, 232, .agg #[.int .u8 0, .int .u8 0, .int .u8 0, .int .u8 0, .int .i64 0, .int .i64 0, .int .i64 0, .int .i64 0, .int .i64 0, .int .u64 0, .int .u64 0, .slice none 0 0, .int .u64 0, .int .u64 0, .int .i64 0, .int .i64 0, .slice none 0 0, .int .i64 0, .slice none 0 0, .int .i64 0, .bool false, .bool false, .bool false, .int .i64 0, .int .i64 0, .slice none 0 0], [(0, 7), (7, 1), (8, 1), (9, 1), (10, 1), (11, 1), (12, 1), (13, 1), (14, 1), (15, 1), (16, 1), (17, 1), (18, 1), (19, 1), (20, 1), (21, 1), (22, 1), (23, 3)], (some (.pair (.pair (.int .u8) (.pair (.int .u8) (.pair (.int .u8) (.pair (.int .u8) (.pair (.int .i64) (.pair (.int .i64) (.int .i64))))))) (.pair (.int .i64) (.pair (.int .i64) (.pair (.int .u64) (.pair (.int .u64) (.pair (.aF (.pair (.int .i64) .bool)) (.pair (.int .u64) (.pair (.int .u64) (.pair (.int .i64) (.pair (.int .i64) (.pair (.aF (.int .i64)) (.pair (.int .i64) (.pair (.aF (.int .i64)) (.pair (.int .i64) (.pair .bool (.pair .bool (.pair .bool (.pair (.int .i64) (.pair (.int .i64) (.aF (.int .i64)))))))))))))))))))))), false⟩
theorem Zo:ba Tryz.prog 94 QJ:=ax Tryz.underlying94 (aN (by kernel_rfl) rfl rfl) (fun fs h w=>by cases h;kernel_rfl) (aL rfl (by kernel_rfl) (by kernel_rfl))
def QI : ct := ⟨.struct #[⟨"calls", 30, 0, false, "", "penfold/world", 0⟩, ⟨"regs", 90, 1, false, "", "penfold/world", 24⟩, ⟨"entries", 91, 2, false, "", "penfold/world", 48⟩, ⟨"run", 94, 3, false, "", "penfold/world", 72⟩, ⟨"busy", 4, 29, false, "", "penfold/world", 304⟩, ⟨"at", 3, 30, false, "", "penfold/world", 312⟩], 31, 320, .agg #[.slice none 0 0, .slice none 0 0, .slice none 0 0, .int .u8 0, .int .u8 0, .int .u8 0, .int .u8 0, .int .i64 0, .int .i64 0, .int .i64 0, .int .i64 0, .int .i64 0, .int .u64 0, .int .u64 0, .slice none 0 0, .int .u64 0, .int .u64 0, .int .i64 0, .int .i64 0, .slice none 0 0, .int .i64 0, .slice none 0 0, .int .i64 0, .bool false, .bool false, .bool false, .int .i64 0, .int .i64 0, .slice none 0 0, .bool false, .int .i64 0], [(0, 1), (1, 1), (2, 1), (3, 26), (29, 1), (30, 1)], (some (.pair (.aF (.pair (.int .u8) (.pair (.int .u8) (.pair (.int .u8) (.pair (.int .u8) (.pair (.int .i64) (.pair (.int .i64) (.int .i64)))))))) (.pair (.aF (.int .u64)) (.pair (.aF (.pair (.int .i64) .bool)) (.pair (.pair (.pair (.int .u8) (.pair (.int .u8) (.pair (.int .u8) (.pair (.int .u8) (.pair (.int .i64) (.pair (.int .i64) (.int .i64))))))) (.pair (.int .i64) (.pair (.int .i64) (.pair (.int .u64) (.pair (.int .u64) (.pair (.aF (.pair (.int .i64) .bool)) (.pair (.int .u64) (.pair (.int .u64) (.pair (.int .i64) (.pair (.int .i64) (.pair (.aF (.int .i64)) (.pair (.int .i64) (.pair (.aF (.int .i64)) (.pair (.int .i64) (.pair .bool (.pair .bool (.pair .bool (.pair (.int .i64) (.pair (.int .i64) (.aF (.int .i64))))))))))))))))))))) (.pair .bool (.int .i64))))))), false⟩
theorem Zn:ba Tryz.prog 95 QI:=ax Tryz.underlying95 (aN (by kernel_rfl) rfl rfl) (fun fs h w=>by cases h;kernel_rfl) (aL rfl (by kernel_rfl) (by kernel_rfl))
def QH : ct := ⟨.struct #[⟨"calls", 30, 0, false, "", "penfold/world", 0⟩, ⟨"regs", 90, 1, false, "", "penfold/world", 24⟩, ⟨"entries", 91, 2, false, "", "penfold/world", 48⟩, ⟨"run", 94, 3, false, "", "penfold/world", 72⟩, ⟨"busy", 4, 29, false, "", "penfold/world", 304⟩, ⟨"at", 3, 30, false, "", "penfold/world", 312⟩], 31, 320, .agg #[.slice none 0 0, .slice none 0 0, .slice none 0 0, .int .u8 0, .int .u8 0, .int .u8 0, .int .u8 0, .int .i64 0, .int .i64 0, .int .i64 0, .int .i64 0, .int .i64 0, .int .u64 0, .int .u64 0, .slice none 0 0, .int .u64 0, .int .u64 0, .int .i64 0, .int .i64 0, .slice none 0 0, .int .i64 0, .slice none 0 0, .int .i64 0, .bool false, .bool false, .bool false, .int .i64 0, .int .i64 0, .slice none 0 0, .bool false, .int .i64 0], [(0, 1), (1, 1), (2, 1), (3, 26), (29, 1), (30, 1)], (some (.pair (.aF (.pair (.int .u8) (.pair (.int .u8) (.pair (.int .u8) (.pair (.int .u8) (.pair (.int .i64) (.pair (.int .i64) (.int .i64)))))))) (.pair (.je 8 1) (.pair (.aF (.pair (.int .i64) .bool)) (.pair (.pair (.pair (.int .u8) (.pair (.int .u8) (.pair (.int .u8) (.pair (.int .u8) (.pair (.int .i64) (.pair (.int .i64) (.int .i64))))))) (.pair (.int .i64) (.pair (.int .i64) (.pair (.int .u64) (.pair (.int .u64) (.pair (.aF (.pair (.int .i64) .bool)) (.pair (.int .u64) (.pair (.int .u64) (.pair (.int .i64) (.pair (.int .i64) (.pair (.aF (.int .i64)) (.pair (.int .i64) (.pair (.aF (.int .i64)) (.pair (.int .i64) (.pair .bool (.pair .bool (.pair .bool (.pair (.int .i64) (.pair (.int .i64) (.aF (.int .i64))))))))))))))))))))) (.pair .bool (.int .i64))))))), false⟩
theorem Zm:ba Tryz.prog 96 QH:=ax Tryz.underlying96 (aN (by kernel_rfl) rfl rfl) (fun fs h w=>by cases h;kernel_rfl) (aL rfl (by kernel_rfl) (by kernel_rfl))
def KL:ct:=⟨.pointer 45,1,8,.pointer none,[],none,false⟩
theorem SQ:ba Tryz.prog 109 KL:=ax Tryz.underlying109 (aN (by kernel_rfl) rfl rfl) (fun _ h=>by cases h) (kt rfl)
def KJ:ct:=⟨.func #[163,88] #[] false,1,8,.nilFunc,[],none,false⟩
theorem SO:ba Tryz.prog 113 KJ:=ax Tryz.underlying113 (aN (by kernel_rfl) rfl rfl) (fun _ h=>by cases h) (kt rfl)
def KI : ct := ⟨.struct #[⟨"a", 3, 0, false, "", "penfold/fin", 0⟩, ⟨"b", 3, 1, false, "", "penfold/fin", 8⟩, ⟨"do", 113, 2, false, "", "penfold/fin", 16⟩], 3, 24, .agg #[.int .i64 0, .int .i64 0, .nilFunc], [(0, 1), (1, 1), (2, 1)], none, false⟩
theorem SN:ba Tryz.prog 114 KI:=ax Tryz.underlying114 (aN (by kernel_rfl) rfl rfl) (fun fs h w=>by cases h;kernel_rfl) (kt rfl)
def KH : ct := ⟨.struct #[⟨"a", 3, 0, false, "", "penfold/fin", 0⟩, ⟨"b", 3, 1, false, "", "penfold/fin", 8⟩, ⟨"do", 113, 2, false, "", "penfold/fin", 16⟩], 3, 24, .agg #[.int .i64 0, .int .i64 0, .nilFunc], [(0, 1), (1, 1), (2, 1)], none, false⟩
theorem SM:ba Tryz.prog 115 KH:=ax Tryz.underlying115 (aN (by kernel_rfl) rfl rfl) (fun fs h w=>by cases h;kernel_rfl) (kt rfl)
def KG:ct:=⟨.array 5 115,15,120,.agg #[.int .i64 0,.int .i64 0,.nilFunc,.int .i64 0,.int .i64 0,.nilFunc,.int .i64 0,.int .i64 0,.nilFunc,.int .i64 0,.int .i64 0,.nilFunc,.int .i64 0,.int .i64 0,.nilFunc],[],none,false⟩
theorem SL:ba Tryz.prog 116 KG:=ax Tryz.underlying116 (aN (by kernel_rfl) rfl rfl) (fun _ h=>by cases h) (kt rfl)
def KF : ct := ⟨.struct #[⟨"At", 3, 0, false, "", "", 0⟩, ⟨"Size", 3, 1, false, "", "", 8⟩], 2, 16, .agg #[.int .i64 0, .int .i64 0], [(0, 1), (1, 1)], (some (.pair (.int .i64) (.int .i64))), false⟩
theorem SK:ba Tryz.prog 122 KF:=ax Tryz.underlying122 (aN (by kernel_rfl) rfl rfl) (fun fs h w=>by cases h;kernel_rfl) (aL rfl (by kernel_rfl) (by kernel_rfl))
def KE : ct := ⟨.struct #[⟨"At", 3, 0, false, "", "", 0⟩, ⟨"Size", 3, 1, false, "", "", 8⟩], 2, 16, .agg #[.int .i64 0, .int .i64 0], [(0, 1), (1, 1)], (some (.pair (.int .i64) (.int .i64))), false⟩
theorem SJ:ba Tryz.prog 123 KE:=ax Tryz.underlying123 (aN (by kernel_rfl) rfl rfl) (fun fs h w=>by cases h;kernel_rfl) (aL rfl (by kernel_rfl) (by kernel_rfl))
def KD : ct := ⟨.struct #[⟨"a", 79, 0, false, "", "penfold/found", 0⟩, ⟨"p", 35, 1, false, "", "penfold/found", 8⟩, ⟨"s", 3, 5, false, "", "penfold/found", 40⟩], 6, 48, .agg #[.pointer none, .int .i64 0, .int .i64 0, .int .i64 0, .int .i64 0, .int .i64 0], [(0, 1), (1, 4), (5, 1)], (some (.pair (.ptr 1) (.pair (.pair (.int .i64) (.pair (.int .i64) (.pair (.int .i64) (.int .i64)))) (.int .i64)))), false⟩
theorem SI:ba Tryz.prog 128 KD:=ax Tryz.underlying128 (aN (by kernel_rfl) rfl rfl) (fun fs h w=>by cases h;kernel_rfl) (aL rfl (by kernel_rfl) (by kernel_rfl))
def KB : ct := ⟨.struct #[⟨"a", 79, 0, false, "", "penfold/found", 0⟩, ⟨"p", 35, 1, false, "", "penfold/found", 8⟩, ⟨"s", 3, 5, false, "", "penfold/found", 40⟩], 6, 48, .agg #[.pointer none, .int .i64 0, .int .i64 0, .int .i64 0, .int .i64 0, .int .i64 0], [(0, 1), (1, 4), (5, 1)], (some (.pair (.ptr 1) (.pair (.pair (.int .i64) (.pair (.int .i64) (.pair (.int .i64) (.int .i64)))) (.int .i64)))), false⟩
theorem SH:ba Tryz.prog 129 KB:=ax Tryz.underlying129 (aN (by kernel_rfl) rfl rfl) (fun fs h w=>by cases h;kernel_rfl) (aL rfl (by kernel_rfl) (by kernel_rfl))
def KA : ct := ⟨.struct #[⟨"State", 3, 0, false, "", "", 0⟩, ⟨"Count", 3, 1, false, "", "", 8⟩, ⟨"Parent", 3, 2, false, "", "", 16⟩, ⟨"Epoch", 3, 3, false, "", "", 24⟩], 4, 32, .agg #[.int .i64 0, .int .i64 0, .int .i64 0, .int .i64 0], [(0, 1), (1, 1), (2, 1), (3, 1)], (some (.pair (.int .i64) (.pair (.int .i64) (.pair (.int .i64) (.int .i64))))), false⟩
theorem SG:ba Tryz.prog 131 KA:=ax Tryz.underlying131 (aN (by kernel_rfl) rfl rfl) (fun fs h w=>by cases h;kernel_rfl) (aL rfl (by kernel_rfl) (by kernel_rfl))
def Kz : ct := ⟨.struct #[⟨"State", 3, 0, false, "", "", 0⟩, ⟨"Count", 3, 1, false, "", "", 8⟩, ⟨"Parent", 3, 2, false, "", "", 16⟩, ⟨"Epoch", 3, 3, false, "", "", 24⟩], 4, 32, .agg #[.int .i64 0, .int .i64 0, .int .i64 0, .int .i64 0], [(0, 1), (1, 1), (2, 1), (3, 1)], (some (.pair (.int .i64) (.pair (.int .i64) (.pair (.int .i64) (.int .i64))))), false⟩
theorem SF:ba Tryz.prog 132 Kz:=ax Tryz.underlying132 (aN (by kernel_rfl) rfl rfl) (fun fs h w=>by cases h;kernel_rfl) (aL rfl (by kernel_rfl) (by kernel_rfl))
def Ky : ct := ⟨.struct #[⟨"p", 35, 0, false, "", "penfold/begin", 0⟩, ⟨"l", 91, 4, false, "", "penfold/begin", 32⟩, ⟨"c", 40, 5, false, "", "penfold/begin", 56⟩, ⟨"h", 92, 12, false, "", "penfold/begin", 88⟩, ⟨"v", 92, 13, false, "", "penfold/begin", 96⟩], 14, 104, .agg #[.int .i64 0, .int .i64 0, .int .i64 0, .int .i64 0, .slice none 0 0, .int .u8 0, .int .u8 0, .int .u8 0, .int .u8 0, .int .i64 0, .int .i64 0, .int .i64 0, .int .u64 0, .int .u64 0], [(0, 4), (4, 1), (5, 7), (12, 1), (13, 1)], (some (.pair (.pair (.int .i64) (.pair (.int .i64) (.pair (.int .i64) (.int .i64)))) (.pair (.aF (.pair (.int .i64) .bool)) (.pair (.pair (.int .u8) (.pair (.int .u8) (.pair (.int .u8) (.pair (.int .u8) (.pair (.int .i64) (.pair (.int .i64) (.int .i64))))))) (.pair (.int .u64) (.int .u64)))))), false⟩
theorem SE:ba Tryz.prog 135 Ky:=ax Tryz.underlying135 (aN (by kernel_rfl) rfl rfl) (fun fs h w=>by cases h;kernel_rfl) (aL rfl (by kernel_rfl) (by kernel_rfl))
def Kx : ct := ⟨.struct #[⟨"p", 35, 0, false, "", "penfold/begin", 0⟩, ⟨"l", 91, 4, false, "", "penfold/begin", 32⟩, ⟨"c", 40, 5, false, "", "penfold/begin", 56⟩, ⟨"h", 92, 12, false, "", "penfold/begin", 88⟩, ⟨"v", 92, 13, false, "", "penfold/begin", 96⟩], 14, 104, .agg #[.int .i64 0, .int .i64 0, .int .i64 0, .int .i64 0, .slice none 0 0, .int .u8 0, .int .u8 0, .int .u8 0, .int .u8 0, .int .i64 0, .int .i64 0, .int .i64 0, .int .u64 0, .int .u64 0], [(0, 4), (4, 1), (5, 7), (12, 1), (13, 1)], (some (.pair (.pair (.int .i64) (.pair (.int .i64) (.pair (.int .i64) (.int .i64)))) (.pair (.aF (.pair (.int .i64) .bool)) (.pair (.pair (.int .u8) (.pair (.int .u8) (.pair (.int .u8) (.pair (.int .u8) (.pair (.int .i64) (.pair (.int .i64) (.int .i64))))))) (.pair (.int .u64) (.int .u64)))))), false⟩
theorem SC:ba Tryz.prog 136 Kx:=ax Tryz.underlying136 (aN (by kernel_rfl) rfl rfl) (fun fs h w=>by cases h;kernel_rfl) (aL rfl (by kernel_rfl) (by kernel_rfl))
def Kw : ct := ⟨.struct #[⟨"Scope", 3, 0, false, "", "", 0⟩, ⟨"Counted", 4, 1, false, "", "", 8⟩], 2, 16, .agg #[.int .i64 0, .bool false], [(0, 1), (1, 1)], (some (.pair (.int .i64) .bool)), false⟩
theorem SB:ba Tryz.prog 139 Kw:=ax Tryz.underlying139 (aN (by kernel_rfl) rfl rfl) (fun fs h w=>by cases h;kernel_rfl) (aL rfl (by kernel_rfl) (by kernel_rfl))
def Kv : ct := ⟨.struct #[⟨"Scope", 3, 0, false, "", "", 0⟩, ⟨"Counted", 4, 1, false, "", "", 8⟩], 2, 16, .agg #[.int .i64 0, .bool false], [(0, 1), (1, 1)], (some (.pair (.int .i64) .bool)), false⟩
theorem SA:ba Tryz.prog 140 Kv:=ax Tryz.underlying140 (aN (by kernel_rfl) rfl rfl) (fun fs h w=>by cases h;kernel_rfl) (aL rfl (by kernel_rfl) (by kernel_rfl))
def Ku:ct:=⟨.array 4 92,4,32,.agg #[.int .u64 0,.int .u64 0,.int .u64 0,.int .u64 0],[],(some (.arr 4 (.int .u64))),false⟩
theorem Sz:ba Tryz.prog 153 Ku:=ax Tryz.underlying153 (aN (by kernel_rfl) rfl rfl) (fun _ h=>by cases h) (aL rfl (by kernel_rfl) (by kernel_rfl))
def Kt : ct := ⟨.struct #[⟨"L", 30, 0, false, "", "", 0⟩, ⟨"Regs", 153, 1, false, "", "", 24⟩, ⟨"C", 91, 5, false, "", "", 56⟩, ⟨"R", 94, 6, false, "", "", 80⟩, ⟨"At", 3, 32, false, "", "", 312⟩], 33, 320, .agg #[.slice none 0 0, .int .u64 0, .int .u64 0, .int .u64 0, .int .u64 0, .slice none 0 0, .int .u8 0, .int .u8 0, .int .u8 0, .int .u8 0, .int .i64 0, .int .i64 0, .int .i64 0, .int .i64 0, .int .i64 0, .int .u64 0, .int .u64 0, .slice none 0 0, .int .u64 0, .int .u64 0, .int .i64 0, .int .i64 0, .slice none 0 0, .int .i64 0, .slice none 0 0, .int .i64 0, .bool false, .bool false, .bool false, .int .i64 0, .int .i64 0, .slice none 0 0, .int .i64 0], [(0, 1), (1, 4), (5, 1), (6, 26), (32, 1)], (some (.pair (.aF (.pair (.int .u8) (.pair (.int .u8) (.pair (.int .u8) (.pair (.int .u8) (.pair (.int .i64) (.pair (.int .i64) (.int .i64)))))))) (.pair (.arr 4 (.int .u64)) (.pair (.aF (.pair (.int .i64) .bool)) (.pair (.pair (.pair (.int .u8) (.pair (.int .u8) (.pair (.int .u8) (.pair (.int .u8) (.pair (.int .i64) (.pair (.int .i64) (.int .i64))))))) (.pair (.int .i64) (.pair (.int .i64) (.pair (.int .u64) (.pair (.int .u64) (.pair (.aF (.pair (.int .i64) .bool)) (.pair (.int .u64) (.pair (.int .u64) (.pair (.int .i64) (.pair (.int .i64) (.pair (.aF (.int .i64)) (.pair (.int .i64) (.pair (.aF (.int .i64)) (.pair (.int .i64) (.pair .bool (.pair .bool (.pair .bool (.pair (.int .i64) (.pair (.int .i64) (.aF (.int .i64))))))))))))))))))))) (.int .i64)))))), false⟩
theorem Sy:ba Tryz.prog 154 Kt:=ax Tryz.underlying154 (aN (by kernel_rfl) rfl rfl) (fun fs h w=>by cases h;kernel_rfl) (aL rfl (by kernel_rfl) (by kernel_rfl))
def Ks : ct := ⟨.struct #[⟨"L", 30, 0, false, "", "", 0⟩, ⟨"Regs", 153, 1, false, "", "", 24⟩, ⟨"C", 91, 5, false, "", "", 56⟩, ⟨"R", 94, 6, false, "", "", 80⟩, ⟨"At", 3, 32, false, "", "", 312⟩], 33, 320, .agg #[.slice none 0 0, .int .u64 0, .int .u64 0, .int .u64 0, .int .u64 0, .slice none 0 0, .int .u8 0, .int .u8 0, .int .u8 0, .int .u8 0, .int .i64 0, .int .i64 0, .int .i64 0, .int .i64 0, .int .i64 0, .int .u64 0, .int .u64 0, .slice none 0 0, .int .u64 0, .int .u64 0, .int .i64 0, .int .i64 0, .slice none 0 0, .int .i64 0, .slice none 0 0, .int .i64 0, .bool false, .bool false, .bool false, .int .i64 0, .int .i64 0, .slice none 0 0, .int .i64 0], [(0, 1), (1, 4), (5, 1), (6, 26), (32, 1)], (some (.pair (.aF (.pair (.int .u8) (.pair (.int .u8) (.pair (.int .u8) (.pair (.int .u8) (.pair (.int .i64) (.pair (.int .i64) (.int .i64)))))))) (.pair (.arr 4 (.int .u64)) (.pair (.aF (.pair (.int .i64) .bool)) (.pair (.pair (.pair (.int .u8) (.pair (.int .u8) (.pair (.int .u8) (.pair (.int .u8) (.pair (.int .i64) (.pair (.int .i64) (.int .i64))))))) (.pair (.int .i64) (.pair (.int .i64) (.pair (.int .u64) (.pair (.int .u64) (.pair (.aF (.pair (.int .i64) .bool)) (.pair (.int .u64) (.pair (.int .u64) (.pair (.int .i64) (.pair (.int .i64) (.pair (.aF (.int .i64)) (.pair (.int .i64) (.pair (.aF (.int .i64)) (.pair (.int .i64) (.pair .bool (.pair .bool (.pair .bool (.pair (.int .i64) (.pair (.int .i64) (.aF (.int .i64))))))))))))))))))))) (.int .i64)))))), false⟩
theorem Sw:ba Tryz.prog 155 Ks:=ax Tryz.underlying155 (aN (by kernel_rfl) rfl rfl) (fun fs h w=>by cases h;kernel_rfl) (aL rfl (by kernel_rfl) (by kernel_rfl))
def Kr:ct:=⟨.pointer 252,1,8,.pointer none,[],(some (.ptr 12)),false⟩
theorem Sv:ba Tryz.prog 157 Kr:=ax Tryz.underlying157 (aN (by kernel_rfl) rfl rfl) (fun _ h=>by cases h) (aL rfl (by kernel_rfl) (by kernel_rfl))
def Kq:ct:=⟨.pointer 255,1,8,.pointer none,[],(some (.ptr 14)),false⟩
theorem Su:ba Tryz.prog 158 Kq:=ax Tryz.underlying158 (aN (by kernel_rfl) rfl rfl) (fun _ h=>by cases h) (aL rfl (by kernel_rfl) (by kernel_rfl))
def Ko : ct := ⟨.struct #[⟨"P", 35, 0, false, "", "", 0⟩, ⟨"F", 47, 4, false, "", "", 32⟩, ⟨"A", 157, 5, false, "", "", 56⟩, ⟨"G", 158, 6, false, "", "", 64⟩], 7, 72, .agg #[.int .i64 0, .int .i64 0, .int .i64 0, .int .i64 0, .slice none 0 0, .pointer none, .pointer none], [(0, 4), (4, 1), (5, 1), (6, 1)], (some (.pair (.pair (.int .i64) (.pair (.int .i64) (.pair (.int .i64) (.int .i64)))) (.pair (.aF (.aF (.pair (.int .u8) (.pair (.int .i64) (.int .i64))))) (.pair (.ptr 12) (.ptr 14))))), false⟩
theorem Ss:ba Tryz.prog 159 Ko:=ax Tryz.underlying159 (aN (by kernel_rfl) rfl rfl) (fun fs h w=>by cases h;kernel_rfl) (aL rfl (by kernel_rfl) (by kernel_rfl))
def Kn : ct := ⟨.struct #[⟨"P", 35, 0, false, "", "", 0⟩, ⟨"F", 47, 4, false, "", "", 32⟩, ⟨"A", 157, 5, false, "", "", 56⟩, ⟨"G", 158, 6, false, "", "", 64⟩], 7, 72, .agg #[.int .i64 0, .int .i64 0, .int .i64 0, .int .i64 0, .slice none 0 0, .pointer none, .pointer none], [(0, 4), (4, 1), (5, 1), (6, 1)], (some (.pair (.pair (.int .i64) (.pair (.int .i64) (.pair (.int .i64) (.int .i64)))) (.pair (.aF (.aF (.pair (.int .u8) (.pair (.int .i64) (.int .i64))))) (.pair (.ptr 12) (.ptr 14))))), false⟩
theorem Sr:ba Tryz.prog 160 Kn:=ax Tryz.underlying160 (aN (by kernel_rfl) rfl rfl) (fun fs h w=>by cases h;kernel_rfl) (aL rfl (by kernel_rfl) (by kernel_rfl))
def Km:ct:=⟨.pointer 165,1,8,.pointer none,[],none,false⟩
theorem Sq:ba Tryz.prog 163 Km:=ax Tryz.underlying163 (aN (by kernel_rfl) rfl rfl) (fun _ h=>by cases h) (kt rfl)
def Kl : ct := ⟨.struct #[⟨"slots", 90, 0, false, "", "penfold/fin", 0⟩, ⟨"said", 41, 1, false, "", "penfold/fin", 24⟩, ⟨"held", 4, 2, false, "", "penfold/fin", 48⟩, ⟨"skip", 3, 3, false, "", "penfold/fin", 56⟩], 4, 64, .agg #[.slice none 0 0, .slice none 0 0, .bool false, .int .i64 0], [(0, 1), (1, 1), (2, 1), (3, 1)], (some (.pair (.aF (.int .u64)) (.pair (.aF (.int .i64)) (.pair .bool (.int .i64))))), false⟩
theorem So:ba Tryz.prog 164 Kl:=ax Tryz.underlying164 (aN (by kernel_rfl) rfl rfl) (fun fs h w=>by cases h;kernel_rfl) (aL rfl (by kernel_rfl) (by kernel_rfl))
def Kk : ct := ⟨.struct #[⟨"slots", 90, 0, false, "", "penfold/fin", 0⟩, ⟨"said", 41, 1, false, "", "penfold/fin", 24⟩, ⟨"held", 4, 2, false, "", "penfold/fin", 48⟩, ⟨"skip", 3, 3, false, "", "penfold/fin", 56⟩], 4, 64, .agg #[.slice none 0 0, .slice none 0 0, .bool false, .int .i64 0], [(0, 1), (1, 1), (2, 1), (3, 1)], none, false⟩
theorem Sn:ba Tryz.prog 165 Kk:=ax Tryz.underlying165 (aN (by kernel_rfl) rfl rfl) (fun fs h w=>by cases h;kernel_rfl) (kt rfl)
def Kj:ct:=⟨.slice 5,1,24,.slice none 0 0,[],(some (.aF (.int .u8))),false⟩
theorem Sm:ba Tryz.prog 167 Kj:=ax Tryz.underlying167 (aN (by kernel_rfl) rfl rfl) (fun _ h=>by cases h) (aL rfl (by kernel_rfl) (by kernel_rfl))
def Ki : ct := ⟨.struct #[⟨"b", 167, 0, false, "", "penfold/arena", 0⟩], 1, 24, .agg #[.slice none 0 0], [(0, 1)], (some (.aF (.int .u8))), false⟩
theorem Sl:ba Tryz.prog 168 Ki:=ax Tryz.underlying168 (aN (by kernel_rfl) rfl rfl) (fun fs h w=>by cases h;kernel_rfl) (aL rfl (by kernel_rfl) (by kernel_rfl))
def Kh : ct := ⟨.struct #[⟨"b", 167, 0, false, "", "penfold/arena", 0⟩], 1, 24, .agg #[.slice none 0 0], [(0, 1)], (some (.je 2 1)), false⟩
theorem Sk:ba Tryz.prog 169 Kh:=ax Tryz.underlying169 (aN (by kernel_rfl) rfl rfl) (fun fs h w=>by cases h;kernel_rfl) (aL rfl (by kernel_rfl) (by kernel_rfl))
def Kg:ct:=⟨.slice 123,1,24,.slice none 0 0,[],(some (.aF (.pair (.int .i64) (.int .i64)))),false⟩
theorem Sj:ba Tryz.prog 170 Kg:=ax Tryz.underlying170 (aN (by kernel_rfl) rfl rfl) (fun _ h=>by cases h) (aL rfl (by kernel_rfl) (by kernel_rfl))
def Ke : ct := ⟨.struct #[⟨"from", 3, 0, false, "", "penfold/ground", 0⟩, ⟨"end", 3, 1, false, "", "penfold/ground", 8⟩, ⟨"free", 170, 2, false, "", "penfold/ground", 16⟩], 3, 40, .agg #[.int .i64 0, .int .i64 0, .slice none 0 0], [(0, 1), (1, 1), (2, 1)], (some (.pair (.int .i64) (.pair (.int .i64) (.aF (.pair (.int .i64) (.int .i64)))))), false⟩
theorem Si:ba Tryz.prog 171 Ke:=ax Tryz.underlying171 (aN (by kernel_rfl) rfl rfl) (fun fs h w=>by cases h;kernel_rfl) (aL rfl (by kernel_rfl) (by kernel_rfl))
def Kd : ct := ⟨.struct #[⟨"from", 3, 0, false, "", "penfold/ground", 0⟩, ⟨"end", 3, 1, false, "", "penfold/ground", 8⟩, ⟨"free", 170, 2, false, "", "penfold/ground", 16⟩], 3, 40, .agg #[.int .i64 0, .int .i64 0, .slice none 0 0], [(0, 1), (1, 1), (2, 1)], (some (.pair (.int .i64) (.pair (.int .i64) (.je 4 2)))), false⟩
theorem Sh:ba Tryz.prog 172 Kd:=ax Tryz.underlying172 (aN (by kernel_rfl) rfl rfl) (fun fs h w=>by cases h;kernel_rfl) (aL rfl (by kernel_rfl) (by kernel_rfl))
def Kc : ct := ⟨.struct #[⟨"Scope", 3, 0, false, "", "", 0⟩, ⟨"Epoch", 3, 1, false, "", "", 8⟩, ⟨"At", 3, 2, false, "", "", 16⟩], 3, 24, .agg #[.int .i64 0, .int .i64 0, .int .i64 0], [(0, 1), (1, 1), (2, 1)], (some (.pair (.int .i64) (.pair (.int .i64) (.int .i64)))), false⟩
theorem Se:ba Tryz.prog 180 Kc:=ax Tryz.underlying180 (aN (by kernel_rfl) rfl rfl) (fun fs h w=>by cases h;kernel_rfl) (aL rfl (by kernel_rfl) (by kernel_rfl))
def Kb : ct := ⟨.struct #[⟨"Scope", 3, 0, false, "", "", 0⟩, ⟨"Epoch", 3, 1, false, "", "", 8⟩, ⟨"At", 3, 2, false, "", "", 16⟩], 3, 24, .agg #[.int .i64 0, .int .i64 0, .int .i64 0], [(0, 1), (1, 1), (2, 1)], (some (.pair (.int .i64) (.pair (.int .i64) (.int .i64)))), false⟩
theorem Sd:ba Tryz.prog 181 Kb:=ax Tryz.underlying181 (aN (by kernel_rfl) rfl rfl) (fun fs h w=>by cases h;kernel_rfl) (aL rfl (by kernel_rfl) (by kernel_rfl))
def Ka:ct:=⟨.func #[193] #[] false,1,8,.nilFunc,[],none,false⟩
theorem Sc:ba Tryz.prog 192 Ka:=ax Tryz.underlying192 (aN (by kernel_rfl) rfl rfl) (fun _ h=>by cases h) (kt rfl)
def J_:ct:=⟨.pointer 197,1,8,.pointer none,[],none,false⟩
theorem Sb:ba Tryz.prog 193 J_:=ax Tryz.underlying193 (aN (by kernel_rfl) rfl rfl) (fun _ h=>by cases h) (kt rfl)
def J9:ct:=⟨.map 3 192,1,8,.map none,[],none,false⟩
theorem Sa:ba Tryz.prog 194 J9:=ax Tryz.underlying194 (aN (by kernel_rfl) rfl rfl) (fun _ h=>by cases h) (kt rfl)
def J8 : ct := ⟨.struct #[⟨"p", 35, 0, false, "", "penfold/take", 0⟩, ⟨"a", 79, 4, false, "", "penfold/take", 32⟩, ⟨"r", 94, 5, false, "", "penfold/take", 40⟩], 31, 272, .agg #[.int .i64 0, .int .i64 0, .int .i64 0, .int .i64 0, .pointer none, .int .u8 0, .int .u8 0, .int .u8 0, .int .u8 0, .int .i64 0, .int .i64 0, .int .i64 0, .int .i64 0, .int .i64 0, .int .u64 0, .int .u64 0, .slice none 0 0, .int .u64 0, .int .u64 0, .int .i64 0, .int .i64 0, .slice none 0 0, .int .i64 0, .slice none 0 0, .int .i64 0, .bool false, .bool false, .bool false, .int .i64 0, .int .i64 0, .slice none 0 0], [(0, 4), (4, 1), (5, 26)], (some (.pair (.pair (.int .i64) (.pair (.int .i64) (.pair (.int .i64) (.int .i64)))) (.pair (.ptr 1) (.pair (.pair (.int .u8) (.pair (.int .u8) (.pair (.int .u8) (.pair (.int .u8) (.pair (.int .i64) (.pair (.int .i64) (.int .i64))))))) (.pair (.int .i64) (.pair (.int .i64) (.pair (.int .u64) (.pair (.int .u64) (.pair (.aF (.pair (.int .i64) .bool)) (.pair (.int .u64) (.pair (.int .u64) (.pair (.int .i64) (.pair (.int .i64) (.pair (.aF (.int .i64)) (.pair (.int .i64) (.pair (.aF (.int .i64)) (.pair (.int .i64) (.pair .bool (.pair .bool (.pair .bool (.pair (.int .i64) (.pair (.int .i64) (.aF (.int .i64)))))))))))))))))))))))), false⟩
theorem R_:ba Tryz.prog 196 J8:=ax Tryz.underlying196 (aN (by kernel_rfl) rfl rfl) (fun fs h w=>by cases h;kernel_rfl) (aL rfl (by kernel_rfl) (by kernel_rfl))
def J7 : ct := ⟨.struct #[⟨"p", 35, 0, false, "", "penfold/take", 0⟩, ⟨"a", 79, 4, false, "", "penfold/take", 32⟩, ⟨"r", 94, 5, false, "", "penfold/take", 40⟩], 31, 272, .agg #[.int .i64 0, .int .i64 0, .int .i64 0, .int .i64 0, .pointer none, .int .u8 0, .int .u8 0, .int .u8 0, .int .u8 0, .int .i64 0, .int .i64 0, .int .i64 0, .int .i64 0, .int .i64 0, .int .u64 0, .int .u64 0, .slice none 0 0, .int .u64 0, .int .u64 0, .int .i64 0, .int .i64 0, .slice none 0 0, .int .i64 0, .slice none 0 0, .int .i64 0, .bool false, .bool false, .bool false, .int .i64 0, .int .i64 0, .slice none 0 0], [(0, 4), (4, 1), (5, 26)], (some (.pair (.pair (.int .i64) (.pair (.int .i64) (.pair (.int .i64) (.int .i64)))) (.pair (.ptr 1) (.pair (.pair (.int .u8) (.pair (.int .u8) (.pair (.int .u8) (.pair (.int .u8) (.pair (.int .i64) (.pair (.int .i64) (.int .i64))))))) (.pair (.int .i64) (.pair (.int .i64) (.pair (.int .u64) (.pair (.int .u64) (.pair (.aF (.pair (.int .i64) .bool)) (.pair (.int .u64) (.pair (.int .u64) (.pair (.int .i64) (.pair (.int .i64) (.pair (.aF (.int .i64)) (.pair (.int .i64) (.pair (.aF (.int .i64)) (.pair (.int .i64) (.pair .bool (.pair .bool (.pair .bool (.pair (.int .i64) (.pair (.int .i64) (.aF (.int .i64)))))))))))))))))))))))), false⟩
theorem RZ:ba Tryz.prog 197 J7:=ax Tryz.underlying197 (aN (by kernel_rfl) rfl rfl) (fun fs h w=>by cases h;kernel_rfl) (aL rfl (by kernel_rfl) (by kernel_rfl))
def J6:ct:=⟨.pointer 200,1,8,.pointer none,[],none,false⟩
theorem RY:ba Tryz.prog 198 J6:=ax Tryz.underlying198 (aN (by kernel_rfl) rfl rfl) (fun _ h=>by cases h) (kt rfl)
def J5 : ct := ⟨.struct #[⟨"a", 79, 0, false, "", "penfold/enter", 0⟩, ⟨"at", 3, 1, false, "", "penfold/enter", 8⟩, ⟨"r", 94, 2, false, "", "penfold/enter", 16⟩], 28, 248, .agg #[.pointer none, .int .i64 0, .int .u8 0, .int .u8 0, .int .u8 0, .int .u8 0, .int .i64 0, .int .i64 0, .int .i64 0, .int .i64 0, .int .i64 0, .int .u64 0, .int .u64 0, .slice none 0 0, .int .u64 0, .int .u64 0, .int .i64 0, .int .i64 0, .slice none 0 0, .int .i64 0, .slice none 0 0, .int .i64 0, .bool false, .bool false, .bool false, .int .i64 0, .int .i64 0, .slice none 0 0], [(0, 1), (1, 1), (2, 26)], (some (.pair (.ptr 1) (.pair (.int .i64) (.pair (.pair (.int .u8) (.pair (.int .u8) (.pair (.int .u8) (.pair (.int .u8) (.pair (.int .i64) (.pair (.int .i64) (.int .i64))))))) (.pair (.int .i64) (.pair (.int .i64) (.pair (.int .u64) (.pair (.int .u64) (.pair (.aF (.pair (.int .i64) .bool)) (.pair (.int .u64) (.pair (.int .u64) (.pair (.int .i64) (.pair (.int .i64) (.pair (.aF (.int .i64)) (.pair (.int .i64) (.pair (.aF (.int .i64)) (.pair (.int .i64) (.pair .bool (.pair .bool (.pair .bool (.pair (.int .i64) (.pair (.int .i64) (.aF (.int .i64)))))))))))))))))))))))), false⟩
theorem RX:ba Tryz.prog 199 J5:=ax Tryz.underlying199 (aN (by kernel_rfl) rfl rfl) (fun fs h w=>by cases h;kernel_rfl) (aL rfl (by kernel_rfl) (by kernel_rfl))
def J4 : ct := ⟨.struct #[⟨"a", 79, 0, false, "", "penfold/enter", 0⟩, ⟨"at", 3, 1, false, "", "penfold/enter", 8⟩, ⟨"r", 94, 2, false, "", "penfold/enter", 16⟩], 28, 248, .agg #[.pointer none, .int .i64 0, .int .u8 0, .int .u8 0, .int .u8 0, .int .u8 0, .int .i64 0, .int .i64 0, .int .i64 0, .int .i64 0, .int .i64 0, .int .u64 0, .int .u64 0, .slice none 0 0, .int .u64 0, .int .u64 0, .int .i64 0, .int .i64 0, .slice none 0 0, .int .i64 0, .slice none 0 0, .int .i64 0, .bool false, .bool false, .bool false, .int .i64 0, .int .i64 0, .slice none 0 0], [(0, 1), (1, 1), (2, 26)], (some (.pair (.ptr 1) (.pair (.int .i64) (.pair (.pair (.int .u8) (.pair (.int .u8) (.pair (.int .u8) (.pair (.int .u8) (.pair (.int .i64) (.pair (.int .i64) (.int .i64))))))) (.pair (.int .i64) (.pair (.int .i64) (.pair (.int .u64) (.pair (.int .u64) (.pair (.aF (.pair (.int .i64) .bool)) (.pair (.int .u64) (.pair (.int .u64) (.pair (.int .i64) (.pair (.int .i64) (.pair (.aF (.int .i64)) (.pair (.int .i64) (.pair (.aF (.int .i64)) (.pair (.int .i64) (.pair .bool (.pair .bool (.pair .bool (.pair (.int .i64) (.pair (.int .i64) (.aF (.int .i64)))))))))))))))))))))))), false⟩
theorem RW:ba Tryz.prog 200 J4:=ax Tryz.underlying200 (aN (by kernel_rfl) rfl rfl) (fun fs h w=>by cases h;kernel_rfl) (aL rfl (by kernel_rfl) (by kernel_rfl))
def J3:ct:=⟨.map 3 1,1,8,.map none,[],none,false⟩
theorem RV:ba Tryz.prog 201 J3:=ax Tryz.underlying201 (aN (by kernel_rfl) rfl rfl) (fun _ h=>by cases h) (kt rfl)
def J2:ct:=⟨.func #[207] #[] false,1,8,.nilFunc,[],none,false⟩
theorem RU:ba Tryz.prog 203 J2:=ax Tryz.underlying203 (aN (by kernel_rfl) rfl rfl) (fun _ h=>by cases h) (kt rfl)
def J1:ct:=⟨.map 3 203,1,8,.map none,[],none,false⟩
theorem RT:ba Tryz.prog 205 J1:=ax Tryz.underlying205 (aN (by kernel_rfl) rfl rfl) (fun _ h=>by cases h) (kt rfl)
def J0:ct:=⟨.pointer 209,1,8,.pointer none,[],none,false⟩
theorem RS:ba Tryz.prog 207 J0:=ax Tryz.underlying207 (aN (by kernel_rfl) rfl rfl) (fun _ h=>by cases h) (kt rfl)
def JZ : ct := ⟨.struct #[⟨"p", 35, 0, false, "", "penfold/leave", 0⟩, ⟨"fins", 47, 4, false, "", "penfold/leave", 32⟩, ⟨"a", 79, 5, false, "", "penfold/leave", 56⟩, ⟨"r", 94, 6, false, "", "penfold/leave", 64⟩], 32, 296, .agg #[.int .i64 0, .int .i64 0, .int .i64 0, .int .i64 0, .slice none 0 0, .pointer none, .int .u8 0, .int .u8 0, .int .u8 0, .int .u8 0, .int .i64 0, .int .i64 0, .int .i64 0, .int .i64 0, .int .i64 0, .int .u64 0, .int .u64 0, .slice none 0 0, .int .u64 0, .int .u64 0, .int .i64 0, .int .i64 0, .slice none 0 0, .int .i64 0, .slice none 0 0, .int .i64 0, .bool false, .bool false, .bool false, .int .i64 0, .int .i64 0, .slice none 0 0], [(0, 4), (4, 1), (5, 1), (6, 26)], (some (.pair (.pair (.int .i64) (.pair (.int .i64) (.pair (.int .i64) (.int .i64)))) (.pair (.aF (.aF (.pair (.int .u8) (.pair (.int .i64) (.int .i64))))) (.pair (.ptr 1) (.pair (.pair (.int .u8) (.pair (.int .u8) (.pair (.int .u8) (.pair (.int .u8) (.pair (.int .i64) (.pair (.int .i64) (.int .i64))))))) (.pair (.int .i64) (.pair (.int .i64) (.pair (.int .u64) (.pair (.int .u64) (.pair (.aF (.pair (.int .i64) .bool)) (.pair (.int .u64) (.pair (.int .u64) (.pair (.int .i64) (.pair (.int .i64) (.pair (.aF (.int .i64)) (.pair (.int .i64) (.pair (.aF (.int .i64)) (.pair (.int .i64) (.pair .bool (.pair .bool (.pair .bool (.pair (.int .i64) (.pair (.int .i64) (.aF (.int .i64))))))))))))))))))))))))), false⟩
theorem RR:ba Tryz.prog 208 JZ:=ax Tryz.underlying208 (aN (by kernel_rfl) rfl rfl) (fun fs h w=>by cases h;kernel_rfl) (aL rfl (by kernel_rfl) (by kernel_rfl))
def JY : ct := ⟨.struct #[⟨"p", 35, 0, false, "", "penfold/leave", 0⟩, ⟨"fins", 47, 4, false, "", "penfold/leave", 32⟩, ⟨"a", 79, 5, false, "", "penfold/leave", 56⟩, ⟨"r", 94, 6, false, "", "penfold/leave", 64⟩], 32, 296, .agg #[.int .i64 0, .int .i64 0, .int .i64 0, .int .i64 0, .slice none 0 0, .pointer none, .int .u8 0, .int .u8 0, .int .u8 0, .int .u8 0, .int .i64 0, .int .i64 0, .int .i64 0, .int .i64 0, .int .i64 0, .int .u64 0, .int .u64 0, .slice none 0 0, .int .u64 0, .int .u64 0, .int .i64 0, .int .i64 0, .slice none 0 0, .int .i64 0, .slice none 0 0, .int .i64 0, .bool false, .bool false, .bool false, .int .i64 0, .int .i64 0, .slice none 0 0], [(0, 4), (4, 1), (5, 1), (6, 26)], (some (.pair (.pair (.int .i64) (.pair (.int .i64) (.pair (.int .i64) (.int .i64)))) (.pair (.je 9 1) (.pair (.ptr 1) (.pair (.pair (.int .u8) (.pair (.int .u8) (.pair (.int .u8) (.pair (.int .u8) (.pair (.int .i64) (.pair (.int .i64) (.int .i64))))))) (.pair (.int .i64) (.pair (.int .i64) (.pair (.int .u64) (.pair (.int .u64) (.pair (.aF (.pair (.int .i64) .bool)) (.pair (.int .u64) (.pair (.int .u64) (.pair (.int .i64) (.pair (.int .i64) (.pair (.aF (.int .i64)) (.pair (.int .i64) (.pair (.aF (.int .i64)) (.pair (.int .i64) (.pair .bool (.pair .bool (.pair .bool (.pair (.int .i64) (.pair (.int .i64) (.aF (.int .i64))))))))))))))))))))))))), false⟩
theorem RQ:ba Tryz.prog 209 JY:=ax Tryz.underlying209 (aN (by kernel_rfl) rfl rfl) (fun fs h w=>by cases h;kernel_rfl) (aL rfl (by kernel_rfl) (by kernel_rfl))
def JX:ct:=⟨.pointer 212,1,8,.pointer none,[],none,false⟩
theorem RP:ba Tryz.prog 210 JX:=ax Tryz.underlying210 (aN (by kernel_rfl) rfl rfl) (fun _ h=>by cases h) (kt rfl)
def JW : ct := ⟨.struct #[⟨"p", 35, 0, false, "", "penfold/slots", 0⟩, ⟨"a", 79, 4, false, "", "penfold/slots", 32⟩, ⟨"r", 94, 5, false, "", "penfold/slots", 40⟩, ⟨"refused", 23, 31, false, "", "penfold/slots", 272⟩], 32, 280, .agg #[.int .i64 0, .int .i64 0, .int .i64 0, .int .i64 0, .pointer none, .int .u8 0, .int .u8 0, .int .u8 0, .int .u8 0, .int .i64 0, .int .i64 0, .int .i64 0, .int .i64 0, .int .i64 0, .int .u64 0, .int .u64 0, .slice none 0 0, .int .u64 0, .int .u64 0, .int .i64 0, .int .i64 0, .slice none 0 0, .int .i64 0, .slice none 0 0, .int .i64 0, .bool false, .bool false, .bool false, .int .i64 0, .int .i64 0, .slice none 0 0, .int .i64 0], [(0, 4), (4, 1), (5, 26), (31, 1)], (some (.pair (.pair (.int .i64) (.pair (.int .i64) (.pair (.int .i64) (.int .i64)))) (.pair (.ptr 1) (.pair (.pair (.pair (.int .u8) (.pair (.int .u8) (.pair (.int .u8) (.pair (.int .u8) (.pair (.int .i64) (.pair (.int .i64) (.int .i64))))))) (.pair (.int .i64) (.pair (.int .i64) (.pair (.int .u64) (.pair (.int .u64) (.pair (.aF (.pair (.int .i64) .bool)) (.pair (.int .u64) (.pair (.int .u64) (.pair (.int .i64) (.pair (.int .i64) (.pair (.aF (.int .i64)) (.pair (.int .i64) (.pair (.aF (.int .i64)) (.pair (.int .i64) (.pair .bool (.pair .bool (.pair .bool (.pair (.int .i64) (.pair (.int .i64) (.aF (.int .i64))))))))))))))))))))) (.int .i64))))), false⟩
theorem RO:ba Tryz.prog 211 JW:=ax Tryz.underlying211 (aN (by kernel_rfl) rfl rfl) (fun fs h w=>by cases h;kernel_rfl) (aL rfl (by kernel_rfl) (by kernel_rfl))
def JV : ct := ⟨.struct #[⟨"p", 35, 0, false, "", "penfold/slots", 0⟩, ⟨"a", 79, 4, false, "", "penfold/slots", 32⟩, ⟨"r", 94, 5, false, "", "penfold/slots", 40⟩, ⟨"refused", 23, 31, false, "", "penfold/slots", 272⟩], 32, 280, .agg #[.int .i64 0, .int .i64 0, .int .i64 0, .int .i64 0, .pointer none, .int .u8 0, .int .u8 0, .int .u8 0, .int .u8 0, .int .i64 0, .int .i64 0, .int .i64 0, .int .i64 0, .int .i64 0, .int .u64 0, .int .u64 0, .slice none 0 0, .int .u64 0, .int .u64 0, .int .i64 0, .int .i64 0, .slice none 0 0, .int .i64 0, .slice none 0 0, .int .i64 0, .bool false, .bool false, .bool false, .int .i64 0, .int .i64 0, .slice none 0 0, .int .i64 0], [(0, 4), (4, 1), (5, 26), (31, 1)], (some (.pair (.pair (.int .i64) (.pair (.int .i64) (.pair (.int .i64) (.int .i64)))) (.pair (.ptr 1) (.pair (.pair (.pair (.int .u8) (.pair (.int .u8) (.pair (.int .u8) (.pair (.int .u8) (.pair (.int .i64) (.pair (.int .i64) (.int .i64))))))) (.pair (.int .i64) (.pair (.int .i64) (.pair (.int .u64) (.pair (.int .u64) (.pair (.aF (.pair (.int .i64) .bool)) (.pair (.int .u64) (.pair (.int .u64) (.pair (.int .i64) (.pair (.int .i64) (.pair (.aF (.int .i64)) (.pair (.int .i64) (.pair (.aF (.int .i64)) (.pair (.int .i64) (.pair .bool (.pair .bool (.pair .bool (.pair (.int .i64) (.pair (.int .i64) (.aF (.int .i64))))))))))))))))))))) (.int .i64))))), false⟩
theorem RN:ba Tryz.prog 212 JV:=ax Tryz.underlying212 (aN (by kernel_rfl) rfl rfl) (fun fs h w=>by cases h;kernel_rfl) (aL rfl (by kernel_rfl) (by kernel_rfl))
def JU:ct:=⟨.int .u64,1,8,.int .u64 0,[],(some (.int .u64)),false⟩
theorem RM:ba Tryz.prog 225 JU:=ax Tryz.underlying225 (aN (by kernel_rfl) rfl rfl) (fun _ h=>by cases h) (aL rfl (by kernel_rfl) (by kernel_rfl))
def JT:ct:=⟨.slice 23,1,24,.slice none 0 0,[],(some (.aF (.int .i64))),false⟩
theorem RL:ba Tryz.prog 230 JT:=ax Tryz.underlying230 (aN (by kernel_rfl) rfl rfl) (fun _ h=>by cases h) (aL rfl (by kernel_rfl) (by kernel_rfl))
def JS:ct:=⟨.pointer 123,1,8,.pointer none,[],none,false⟩
theorem RJ:ba Tryz.prog 237 JS:=ax Tryz.underlying237 (aN (by kernel_rfl) rfl rfl) (fun _ h=>by cases h) (kt rfl)
def JR : ct := ⟨.struct #[⟨"Size", 3, 0, false, "", "", 0⟩, ⟨"Slots", 3, 1, false, "", "", 8⟩, ⟨"Tag", 3, 2, false, "", "", 16⟩, ⟨"Done", 4, 3, false, "", "", 24⟩, ⟨"Scope", 3, 4, false, "", "", 32⟩, ⟨"Epoch", 3, 5, false, "", "", 40⟩], 6, 48, .agg #[.int .i64 0, .int .i64 0, .int .i64 0, .bool false, .int .i64 0, .int .i64 0], [(0, 1), (1, 1), (2, 1), (3, 1), (4, 1), (5, 1)], (some (.pair (.int .i64) (.pair (.int .i64) (.pair (.int .i64) (.pair .bool (.pair (.int .i64) (.int .i64))))))), false⟩
theorem RI:ba Tryz.prog 241 JR:=ax Tryz.underlying241 (aN (by kernel_rfl) rfl rfl) (fun fs h w=>by cases h;kernel_rfl) (aL rfl (by kernel_rfl) (by kernel_rfl))
def JQ : ct := ⟨.struct #[⟨"Size", 3, 0, false, "", "", 0⟩, ⟨"Slots", 3, 1, false, "", "", 8⟩, ⟨"Tag", 3, 2, false, "", "", 16⟩, ⟨"Done", 4, 3, false, "", "", 24⟩, ⟨"Scope", 3, 4, false, "", "", 32⟩, ⟨"Epoch", 3, 5, false, "", "", 40⟩], 6, 48, .agg #[.int .i64 0, .int .i64 0, .int .i64 0, .bool false, .int .i64 0, .int .i64 0], [(0, 1), (1, 1), (2, 1), (3, 1), (4, 1), (5, 1)], (some (.pair (.int .i64) (.pair (.int .i64) (.pair (.int .i64) (.pair .bool (.pair (.int .i64) (.int .i64))))))), false⟩
theorem RH:ba Tryz.prog 242 JQ:=ax Tryz.underlying242 (aN (by kernel_rfl) rfl rfl) (fun fs h w=>by cases h;kernel_rfl) (aL rfl (by kernel_rfl) (by kernel_rfl))
def JP : ct := ⟨.struct #[⟨"W", 90, 0, false, "", "", 0⟩], 1, 24, .agg #[.slice none 0 0], [(0, 1)], (some (.aF (.int .u64))), false⟩
theorem RG:ba Tryz.prog 251 JP:=ax Tryz.underlying251 (aN (by kernel_rfl) rfl rfl) (fun fs h w=>by cases h;kernel_rfl) (aL rfl (by kernel_rfl) (by kernel_rfl))
def JO : ct := ⟨.struct #[⟨"W", 90, 0, false, "", "", 0⟩], 1, 24, .agg #[.slice none 0 0], [(0, 1)], (some (.je 13 1)), false⟩
theorem RF:ba Tryz.prog 252 JO:=ax Tryz.underlying252 (aN (by kernel_rfl) rfl rfl) (fun fs h w=>by cases h;kernel_rfl) (aL rfl (by kernel_rfl) (by kernel_rfl))
def JN:ct:=⟨.slice 4,1,24,.slice none 0 0,[],(some (.aF .bool)),false⟩
theorem RE:ba Tryz.prog 253 JN:=ax Tryz.underlying253 (aN (by kernel_rfl) rfl rfl) (fun _ h=>by cases h) (aL rfl (by kernel_rfl) (by kernel_rfl))
def JM : ct := ⟨.struct #[⟨"At", 3, 0, false, "", "", 0⟩, ⟨"Free", 253, 1, false, "", "", 8⟩], 2, 32, .agg #[.int .i64 0, .slice none 0 0], [(0, 1), (1, 1)], (some (.pair (.int .i64) (.aF .bool))), false⟩
theorem RD:ba Tryz.prog 254 JM:=ax Tryz.underlying254 (aN (by kernel_rfl) rfl rfl) (fun fs h w=>by cases h;kernel_rfl) (aL rfl (by kernel_rfl) (by kernel_rfl))
def JL : ct := ⟨.struct #[⟨"At", 3, 0, false, "", "", 0⟩, ⟨"Free", 253, 1, false, "", "", 8⟩], 2, 32, .agg #[.int .i64 0, .slice none 0 0], [(0, 1), (1, 1)], (some (.pair (.int .i64) (.je 15 1))), false⟩
theorem RB:ba Tryz.prog 255 JL:=ax Tryz.underlying255 (aN (by kernel_rfl) rfl rfl) (fun fs h w=>by cases h;kernel_rfl) (aL rfl (by kernel_rfl) (by kernel_rfl))
def JK:ct:=⟨.slice 41,1,24,.slice none 0 0,[],(some (.aF (.aF (.int .i64)))),false⟩
theorem RA:ba Tryz.prog 288 JK:=ax Tryz.underlying288 (aN (by kernel_rfl) rfl rfl) (fun _ h=>by cases h) (aL rfl (by kernel_rfl) (by kernel_rfl))
def JJ:ct:=⟨.int .u32,1,4,.int .u32 0,[],(some (.int .u32)),false⟩
theorem Rz:ba Tryz.prog 299 JJ:=ax Tryz.underlying299 (aN (by kernel_rfl) rfl rfl) (fun _ h=>by cases h) (aL rfl (by kernel_rfl) (by kernel_rfl))
def JI:ct:=⟨.pointer 5,1,8,.pointer none,[],none,false⟩
theorem Ry:ba Tryz.prog 303 JI:=ax Tryz.underlying303 (aN (by kernel_rfl) rfl rfl) (fun _ h=>by cases h) (kt rfl)
theorem acU:iA Tryz.prog 34:=cD Tryz.stoodInHeld34 Tryz.eqGuardType34 Tryz.underlying34 (by decide)
theorem acT:iA Tryz.prog 35:=cD Tryz.stoodInHeld35 Tryz.eqGuardType35 Tryz.underlying35 (by decide)
theorem acS:iA Tryz.prog 39:=cD Tryz.stoodInHeld39 Tryz.eqGuardType39 Tryz.underlying39 (by decide)
theorem acR:iA Tryz.prog 40:=cD Tryz.stoodInHeld40 Tryz.eqGuardType40 Tryz.underlying40 (by decide)
theorem acQ:iA Tryz.prog 44:=cD Tryz.stoodInHeld44 Tryz.eqGuardType44 Tryz.underlying44 (by decide)
theorem acP:iA Tryz.prog 45:=cD Tryz.stoodInHeld45 Tryz.eqGuardType45 Tryz.underlying45 (by decide)
theorem acO:iA Tryz.prog 87:=cD Tryz.stoodInHeld87 Tryz.eqGuardType87 Tryz.underlying87 (by decide)
theorem acN:iA Tryz.prog 88:=cD Tryz.stoodInHeld88 Tryz.eqGuardType88 Tryz.underlying88 (by decide)
theorem Xg:iA Tryz.prog 122:=cD Tryz.stoodInHeld122 Tryz.eqGuardType122 Tryz.underlying122 (by decide)
theorem Xf:iA Tryz.prog 123:=cD Tryz.stoodInHeld123 Tryz.eqGuardType123 Tryz.underlying123 (by decide)
theorem Xe:iA Tryz.prog 128:=cD Tryz.stoodInHeld128 Tryz.eqGuardType128 Tryz.underlying128 (by decide)
theorem Xd:iA Tryz.prog 129:=cD Tryz.stoodInHeld129 Tryz.eqGuardType129 Tryz.underlying129 (by decide)
theorem Xc:iA Tryz.prog 131:=cD Tryz.stoodInHeld131 Tryz.eqGuardType131 Tryz.underlying131 (by decide)
theorem Xb:iA Tryz.prog 132:=cD Tryz.stoodInHeld132 Tryz.eqGuardType132 Tryz.underlying132 (by decide)
theorem Xa:iA Tryz.prog 139:=cD Tryz.stoodInHeld139 Tryz.eqGuardType139 Tryz.underlying139 (by decide)
theorem W_:iA Tryz.prog 140:=cD Tryz.stoodInHeld140 Tryz.eqGuardType140 Tryz.underlying140 (by decide)
theorem W9:iA Tryz.prog 180:=cD Tryz.stoodInHeld180 Tryz.eqGuardType180 Tryz.underlying180 (by decide)
theorem W8:iA Tryz.prog 181:=cD Tryz.stoodInHeld181 Tryz.eqGuardType181 Tryz.underlying181 (by decide)
theorem W7:iA Tryz.prog 196:=cD Tryz.stoodInHeld196 Tryz.eqGuardType196 Tryz.underlying196 (by decide)
theorem W6:iA Tryz.prog 197:=cD Tryz.stoodInHeld197 Tryz.eqGuardType197 Tryz.underlying197 (by decide)
theorem W5:iA Tryz.prog 199:=cD Tryz.stoodInHeld199 Tryz.eqGuardType199 Tryz.underlying199 (by decide)
theorem W4:iA Tryz.prog 200:=cD Tryz.stoodInHeld200 Tryz.eqGuardType200 Tryz.underlying200 (by decide)
theorem W3:iA Tryz.prog 211:=cD Tryz.stoodInHeld211 Tryz.eqGuardType211 Tryz.underlying211 (by decide)
theorem W2:iA Tryz.prog 212:=cD Tryz.stoodInHeld212 Tryz.eqGuardType212 Tryz.underlying212 (by decide)
theorem W1:iA Tryz.prog 241:=cD Tryz.stoodInHeld241 Tryz.eqGuardType241 Tryz.underlying241 (by decide)
theorem W0:iA Tryz.prog 242:=cD Tryz.stoodInHeld242 Tryz.eqGuardType242 Tryz.underlying242 (by decide)
def env:Env:=⟨(.node (.node (.node (.node (.node (.node (.node (.node (.node .nil (some JL) .nil) none .nil) none (.node .nil none .nil)) (some Rf) (.node (.node (.node .nil none .nil) (some Ko) .nil) (some QI) (.node .nil none .nil))) none (.node (.node (.node (.node .nil none .nil) none .nil) (some QV) (.node .nil (some J0) .nil)) (some Q5) (.node (.node (.node .nil (some JI) .nil) none .nil) none (.node .nil none .nil)))) none (.node (.node (.node (.node (.node .nil none .nil) (some Ky) .nil) none (.node .nil (some J5) .nil)) (some Rb) (.node (.node (.node .nil none .nil) (some Kj) .nil) none (.node .nil none .nil))) (some Rl) (.node (.node (.node (.node .nil none .nil) none .nil) (some QQ) (.node .nil none .nil)) none (.node (.node .nil none .nil) none (.node .nil none .nil))))) (some ty3) (.node (.node (.node (.node (.node (.node .nil none .nil) (some KA) .nil) (some QZ) (.node .nil none .nil)) (some Rd) (.node (.node (.node .nil none .nil) (some Km) .nil) none (.node .nil none .nil))) none (.node (.node (.node (.node .nil none .nil) none .nil) (some QT) (.node .nil (some JW) .nil)) none (.node (.node .nil none .nil) (some KH) (.node .nil none .nil)))) none (.node (.node (.node (.node (.node .nil none .nil) (some Kw) .nil) none (.node .nil (some J2) .nil)) (some Q8) (.node (.node (.node .nil (some JJ) .nil) (some Ke) .nil) none (.node .nil none .nil))) (some Rk) (.node (.node (.node (.node .nil none .nil) (some Ks) .nil) (some QM) (.node .nil none .nil)) none (.node (.node .nil none .nil) (some KE) (.node .nil (some JP) .nil)))))) (some ty1) (.node (.node (.node (.node (.node (.node (.node .nil none .nil) (some KB) .nil) none (.node .nil (some J_) .nil)) none (.node (.node (.node .nil none .nil) none .nil) none (.node .nil (some JU) .nil))) none (.node (.node (.node (.node .nil none .nil) none .nil) none (.node .nil (some JY) .nil)) (some Q3) (.node (.node .nil none .nil) (some KJ) (.node .nil (some JR) .nil)))) (some ty9) (.node (.node (.node (.node (.node .nil none .nil) none .nil) none (.node .nil (some J3) .nil)) (some Q_) (.node (.node (.node .nil none .nil) (some Kh) .nil) none (.node .nil none .nil))) none (.node (.node (.node (.node .nil none .nil) (some Ku) .nil) (some QO) (.node .nil none .nil)) none (.node (.node .nil none .nil) none (.node .nil none .nil))))) (some ty5) (.node (.node (.node (.node (.node (.node .nil none .nil) none .nil) (some QX) (.node .nil (some J7) .nil)) (some Rc) (.node (.node (.node .nil none .nil) (some Kk) .nil) none (.node .nil none .nil))) (some Rm) (.node (.node (.node (.node .nil none .nil) none .nil) (some QR) (.node .nil none .nil)) (some Q2) (.node (.node .nil (some Kb) .nil) none (.node .nil none .nil)))) (some Ro) (.node (.node (.node (.node (.node .nil none .nil) none .nil) none (.node .nil (some J1) .nil)) (some Q6) (.node (.node (.node .nil none .nil) none .nil) (some KL) (.node .nil (some JS) .nil))) (some Ri) (.node (.node (.node (.node .nil none .nil) (some Kr) .nil) (some QK) (.node .nil none .nil)) none (.node (.node .nil none .nil) none (.node .nil (some JN) .nil))))))) none (.node (.node (.node (.node (.node (.node (.node (.node .nil none .nil) (some KD) .nil) (some Q0) (.node .nil (some Ka) .nil)) none (.node (.node (.node .nil (some JK) .nil) (some Kn) .nil) (some QH) (.node .nil none .nil))) none (.node (.node (.node (.node .nil none .nil) none .nil) (some QU) (.node .nil (some JZ) .nil)) (some Q4) (.node (.node .nil none .nil) none (.node .nil none .nil)))) none (.node (.node (.node (.node (.node .nil none .nil) (some Kx) .nil) none (.node .nil (some J4) .nil)) (some Ra) (.node (.node (.node .nil none .nil) (some Ki) .nil) none (.node .nil none .nil))) none (.node (.node (.node (.node .nil none .nil) none .nil) (some QP) (.node .nil none .nil)) none (.node (.node .nil none .nil) none (.node .nil none .nil))))) (some ty4) (.node (.node (.node (.node (.node (.node .nil none .nil) (some Kz) .nil) (some QY) (.node .nil (some J8) .nil)) none (.node (.node (.node .nil none .nil) (some Kl) .nil) none (.node .nil none .nil))) none (.node (.node (.node (.node .nil none .nil) none .nil) (some QS) (.node .nil (some JV) .nil)) none (.node (.node .nil (some Kc) .nil) (some KG) (.node .nil none .nil)))) (some Rp) (.node (.node (.node (.node (.node .nil none .nil) (some Kv) .nil) none (.node .nil none .nil)) (some Q7) (.node (.node (.node .nil none .nil) (some Kd) .nil) none (.node .nil none .nil))) (some Rj) (.node (.node (.node (.node .nil none .nil) none .nil) (some QL) (.node .nil none .nil)) none (.node (.node .nil none .nil) none (.node .nil (some JO) .nil)))))) (some ty2) (.node (.node (.node (.node (.node (.node (.node .nil none .nil) none .nil) none (.node .nil (some J9) .nil)) (some Re) (.node (.node (.node .nil none .nil) none .nil) none (.node .nil none .nil))) none (.node (.node (.node (.node .nil none .nil) none .nil) none (.node .nil (some JX) .nil)) none (.node (.node .nil none .nil) (some KI) (.node .nil (some JQ) .nil)))) none (.node (.node (.node (.node (.node .nil none .nil) none .nil) none (.node .nil none .nil)) (some Q9) (.node (.node (.node .nil none .nil) (some Kg) .nil) none (.node .nil none .nil))) none (.node (.node (.node (.node .nil none .nil) (some Kt) .nil) (some QN) (.node .nil none .nil)) (some Q1) (.node (.node .nil none .nil) (some KF) (.node .nil none .nil))))) none (.node (.node (.node (.node (.node (.node .nil none .nil) none .nil) (some QW) (.node .nil (some J6) .nil)) none (.node (.node (.node .nil none .nil) none .nil) none (.node .nil (some JT) .nil))) none (.node (.node (.node (.node .nil none .nil) none .nil) none (.node .nil none .nil)) none (.node (.node .nil none .nil) none (.node .nil none .nil)))) none (.node (.node (.node (.node (.node .nil none .nil) none .nil) none (.node .nil none .nil)) none (.node (.node (.node .nil none .nil) none .nil) none (.node .nil none .nil))) (some Rh) (.node (.node (.node (.node .nil none .nil) (some Kq) .nil) (some QJ) (.node .nil none .nil)) none (.node (.node .nil none .nil) none (.node .nil (some JM) .nil)))))))),[34,35,39,40,44,45,87,88,122,123,128,129,131,132,139,140,180,181,196,197,199,200,211,212,241,242]⟩
theorem xl:bT Tryz.prog env:=⟨Ht (.no (.yes te1 (.yes ZW (.no (.no (.yes ZU (.no (.no (.yes RB (.nil _ _) (.nil _ _)) (.nil _ _)) (.no (.nil _ _) (.nil _ _))) (.yes Zn (.yes Ss (.no (.nil _ _) (.nil _ _)) (.nil _ _)) (.no (.nil _ _) (.nil _ _)))) (.yes ZM (.yes ZB (.no (.no (.nil _ _) (.nil _ _)) (.nil _ _)) (.yes RS (.nil _ _) (.nil _ _))) (.no (.no (.yes Ry (.nil _ _) (.nil _ _)) (.nil _ _)) (.no (.nil _ _) (.nil _ _))))) (.yes Z0 (.yes ZR (.no (.yes SE (.no (.nil _ _) (.nil _ _)) (.nil _ _)) (.yes RX (.nil _ _) (.nil _ _))) (.no (.yes Sm (.no (.nil _ _) (.nil _ _)) (.nil _ _)) (.no (.nil _ _) (.nil _ _)))) (.no (.yes Zw (.no (.no (.nil _ _) (.nil _ _)) (.nil _ _)) (.no (.nil _ _) (.nil _ _))) (.no (.no (.nil _ _) (.nil _ _)) (.no (.nil _ _) (.nil _ _)))))) (.no (.no (.yes ZS (.yes ZF (.yes SG (.no (.nil _ _) (.nil _ _)) (.nil _ _)) (.no (.nil _ _) (.nil _ _))) (.no (.yes Sq (.no (.nil _ _) (.nil _ _)) (.nil _ _)) (.no (.nil _ _) (.nil _ _)))) (.no (.yes Zz (.no (.no (.nil _ _) (.nil _ _)) (.nil _ _)) (.yes RO (.nil _ _) (.nil _ _))) (.yes SM (.no (.nil _ _) (.nil _ _)) (.no (.nil _ _) (.nil _ _))))) (.yes ZZ (.yes ZO (.no (.yes SB (.no (.nil _ _) (.nil _ _)) (.nil _ _)) (.yes RU (.nil _ _) (.nil _ _))) (.no (.yes Si (.yes Rz (.nil _ _) (.nil _ _)) (.nil _ _)) (.no (.nil _ _) (.nil _ _)))) (.no (.yes Zr (.yes Sw (.no (.nil _ _) (.nil _ _)) (.nil _ _)) (.no (.nil _ _) (.nil _ _))) (.yes SJ (.no (.nil _ _) (.nil _ _)) (.yes RG (.nil _ _) (.nil _ _))))))) (.yes te5 (.yes te9 (.no (.no (.no (.yes SH (.no (.nil _ _) (.nil _ _)) (.nil _ _)) (.yes Sb (.nil _ _) (.nil _ _))) (.no (.no (.no (.nil _ _) (.nil _ _)) (.nil _ _)) (.yes RM (.nil _ _) (.nil _ _)))) (.yes ZK (.no (.no (.no (.nil _ _) (.nil _ _)) (.nil _ _)) (.yes RQ (.nil _ _) (.nil _ _))) (.yes SO (.no (.nil _ _) (.nil _ _)) (.yes RI (.nil _ _) (.nil _ _))))) (.no (.yes Hu (.no (.no (.no (.nil _ _) (.nil _ _)) (.nil _ _)) (.yes RV (.nil _ _) (.nil _ _))) (.no (.yes Sk (.no (.nil _ _) (.nil _ _)) (.nil _ _)) (.no (.nil _ _) (.nil _ _)))) (.no (.yes Zu (.yes Sz (.no (.nil _ _) (.nil _ _)) (.nil _ _)) (.no (.nil _ _) (.nil _ _))) (.no (.no (.nil _ _) (.nil _ _)) (.no (.nil _ _) (.nil _ _)))))) (.yes Z2 (.yes Z1 (.yes Hv (.yes ZD (.no (.no (.nil _ _) (.nil _ _)) (.nil _ _)) (.yes RZ (.nil _ _) (.nil _ _))) (.no (.yes Sn (.no (.nil _ _) (.nil _ _)) (.nil _ _)) (.no (.nil _ _) (.nil _ _)))) (.yes ZJ (.yes Zx (.no (.no (.nil _ _) (.nil _ _)) (.nil _ _)) (.no (.nil _ _) (.nil _ _))) (.no (.yes Sd (.nil _ _) (.nil _ _)) (.no (.nil _ _) (.nil _ _))))) (.yes ZX (.yes Rx (.no (.no (.no (.nil _ _) (.nil _ _)) (.nil _ _)) (.yes RT (.nil _ _) (.nil _ _))) (.yes SQ (.no (.no (.nil _ _) (.nil _ _)) (.nil _ _)) (.yes RJ (.nil _ _) (.nil _ _)))) (.no (.yes Zp (.yes Sv (.no (.nil _ _) (.nil _ _)) (.nil _ _)) (.no (.nil _ _) (.nil _ _))) (.no (.no (.nil _ _) (.nil _ _)) (.yes RE (.nil _ _) (.nil _ _)))))))) (.yes te2 (.yes te4 (.no (.no (.no (.yes ZG (.yes SI (.no (.nil _ _) (.nil _ _)) (.nil _ _)) (.yes Sc (.nil _ _) (.nil _ _))) (.yes Zm (.yes Sr (.yes RA (.nil _ _) (.nil _ _)) (.nil _ _)) (.no (.nil _ _) (.nil _ _)))) (.yes ZL (.yes ZA (.no (.no (.nil _ _) (.nil _ _)) (.nil _ _)) (.yes RR (.nil _ _) (.nil _ _))) (.no (.no (.nil _ _) (.nil _ _)) (.no (.nil _ _) (.nil _ _))))) (.no (.yes ZQ (.no (.yes SC (.no (.nil _ _) (.nil _ _)) (.nil _ _)) (.yes RW (.nil _ _) (.nil _ _))) (.no (.yes Sl (.no (.nil _ _) (.nil _ _)) (.nil _ _)) (.no (.nil _ _) (.nil _ _)))) (.no (.yes Zv (.no (.no (.nil _ _) (.nil _ _)) (.nil _ _)) (.no (.nil _ _) (.nil _ _))) (.no (.no (.nil _ _) (.nil _ _)) (.no (.nil _ _) (.nil _ _)))))) (.yes Z3 (.no (.no (.yes ZE (.yes SF (.no (.nil _ _) (.nil _ _)) (.nil _ _)) (.yes R_ (.nil _ _) (.nil _ _))) (.no (.yes So (.no (.nil _ _) (.nil _ _)) (.nil _ _)) (.no (.nil _ _) (.nil _ _)))) (.no (.yes Zy (.no (.no (.nil _ _) (.nil _ _)) (.nil _ _)) (.yes RN (.nil _ _) (.nil _ _))) (.yes SL (.yes Se (.nil _ _) (.nil _ _)) (.no (.nil _ _) (.nil _ _))))) (.yes ZY (.yes ZN (.no (.yes SA (.no (.nil _ _) (.nil _ _)) (.nil _ _)) (.no (.nil _ _) (.nil _ _))) (.no (.yes Sh (.no (.nil _ _) (.nil _ _)) (.nil _ _)) (.no (.nil _ _) (.nil _ _)))) (.no (.yes Zq (.no (.no (.nil _ _) (.nil _ _)) (.nil _ _)) (.no (.nil _ _) (.nil _ _))) (.no (.no (.nil _ _) (.nil _ _)) (.yes RF (.nil _ _) (.nil _ _))))))) (.no (.no (.no (.yes ZT (.no (.no (.no (.nil _ _) (.nil _ _)) (.nil _ _)) (.yes Sa (.nil _ _) (.nil _ _))) (.no (.no (.no (.nil _ _) (.nil _ _)) (.nil _ _)) (.no (.nil _ _) (.nil _ _)))) (.no (.no (.no (.no (.nil _ _) (.nil _ _)) (.nil _ _)) (.yes RP (.nil _ _) (.nil _ _))) (.yes SN (.no (.nil _ _) (.nil _ _)) (.yes RH (.nil _ _) (.nil _ _))))) (.no (.yes ZP (.no (.no (.no (.nil _ _) (.nil _ _)) (.nil _ _)) (.no (.nil _ _) (.nil _ _))) (.no (.yes Sj (.no (.nil _ _) (.nil _ _)) (.nil _ _)) (.no (.nil _ _) (.nil _ _)))) (.yes ZH (.yes Zt (.yes Sy (.no (.nil _ _) (.nil _ _)) (.nil _ _)) (.no (.nil _ _) (.nil _ _))) (.yes SK (.no (.nil _ _) (.nil _ _)) (.no (.nil _ _) (.nil _ _)))))) (.no (.no (.no (.yes ZC (.no (.no (.nil _ _) (.nil _ _)) (.nil _ _)) (.yes RY (.nil _ _) (.nil _ _))) (.no (.no (.no (.nil _ _) (.nil _ _)) (.nil _ _)) (.yes RL (.nil _ _) (.nil _ _)))) (.no (.no (.no (.no (.nil _ _) (.nil _ _)) (.nil _ _)) (.no (.nil _ _) (.nil _ _))) (.no (.no (.nil _ _) (.nil _ _)) (.no (.nil _ _) (.nil _ _))))) (.yes ZV (.no (.no (.no (.no (.nil _ _) (.nil _ _)) (.nil _ _)) (.no (.nil _ _) (.nil _ _))) (.no (.no (.no (.nil _ _) (.nil _ _)) (.nil _ _)) (.no (.nil _ _) (.nil _ _)))) (.no (.yes Zo (.yes Su (.no (.nil _ _) (.nil _ _)) (.nil _ _)) (.no (.nil _ _) (.nil _ _))) (.no (.no (.nil _ _) (.nil _ _)) (.yes RD (.nil _ _) (.nil _ _))))))))),NR (.cons acU (.cons acT (.cons acS (.cons acR (.cons acQ (.cons acP (.cons acO (.cons acN (.cons Xg (.cons Xf (.cons Xe (.cons Xd (.cons Xc (.cons Xb (.cons Xa (.cons W_ (.cons W9 (.cons W8 (.cons W7 (.cons W6 (.cons W5 (.cons W4 (.cons W3 (.cons W2 (.cons W1 (.cons W0 (.nil))))))))))))))))))))))))))),by kernel_rfl⟩
def homes:List (Nat×Nat):=[(70,10),(85,0),(96,6),(160,11),(169,1),(172,3),(252,12),(255,14)]
set_option linter.unusedVariables false
set_option linter.unusedSimpArgs false
open Go.Bm
set_option maxRecDepth 100000
def x8:av:=comp (au Tryz.f8) (.n none .o (.n none .o (.n none .o (.n (some ⟨[],[],[],[],[],[]⟩) .o (.n none .o (.n none .o (.n none (.n none .o (.n none (.n (some ⟨[(12,false,(.int .i64))],[(11,(.int .i64))],[],[],[],[]⟩) .o .o) .o)) (.n none .o (.n none .o (.n none (.n none .o (.n none (.n (some ⟨[(16,false,(.int .i64))],[],[],[],[],[]⟩) .o .o) .o)) .o))))))))))
def x9:av:=comp (au Tryz.f9) (.n none .o (.n none .o (.n none .o (.n (some ⟨[],[],[],[],[],[]⟩) .o .o))))
def xK:av:=comp (au Tryz.f10) .o
def xJ:av:=comp (au Tryz.f11) (.n none .o (.n none .o (.n (some ⟨[],[],[],[],[],[]⟩) .o (.n none .o (.n none .o (.n none (.n none .o (.n none (.n (some ⟨[(50,false,(.int .i64))],[],[],[],[],[(0,R0),(9,R9)]⟩) .o .o) .o)) (.n none (.n none .o (.n none (.n (some ⟨[(68,false,(.int .i64))],[],[],[],[],[(0,R0),(5,R5),(6,R6),(8,R8)]⟩) (.n none .o (.n none .o (.n none (.n none (.n none .o (.n none .o (.n (some ⟨[],[],[],[],[],[(6,R6)]⟩) .o .o))) .o) .o))) .o) .o)) .o)))))))
def Bv:av:=comp (au Tryz.f13) (.n none .o (.n (some ⟨[],[(3,(.pair (.int .i64) (.pair (.pair (.int .u8) (.pair (.int .u8) (.pair (.int .u8) (.pair (.int .u8) (.pair (.int .i64) (.pair (.int .i64) (.int .i64))))))) (.pair (.int .i64) (.pair (.int .i64) (.pair (.int .i64) (.pair (.int .i64) (.pair (.int .i64) (.aF (.int .i64))))))))))],[],[],[],[]⟩) .o (.n none (.n none .o (.n none (.n (some ⟨[(12,false,(.int .i64))],[(3,(.pair (.int .i64) (.pair (.pair (.int .u8) (.pair (.int .u8) (.pair (.int .u8) (.pair (.int .u8) (.pair (.int .i64) (.pair (.int .i64) (.int .i64))))))) (.pair (.int .i64) (.pair (.int .i64) (.pair (.int .i64) (.pair (.int .i64) (.pair (.int .i64) (.aF (.int .i64))))))))))],[],[],[],[]⟩) .o .o) .o)) .o)))
def Bu:av:=comp (au Tryz.f14) .o
def Bt:av:=comp (au Tryz.f15) (.n none .o (.n none .o (.n none (.n none .o (.n none (.n (some ⟨[(4,false,(.int .i64))],[(3,(.aF (.pair (.int .u8) (.pair (.int .i64) (.int .i64)))))],[],[],[],[]⟩) (.n (some ⟨[],[],[],[],[],[]⟩) .o (.n none (.n none (.n none .o (.n none (.n none .o (.n none (.n (some ⟨[(6,false,(.int .i64))],[(5,(.pair (.int .u8) (.pair (.int .i64) (.int .i64))))],[],[],[],[]⟩) (.n (some ⟨[],[],[],[],[],[]⟩) .o .o) .o) .o)) .o)) .o) .o)) .o) .o)) .o)))
def vU:av:=comp (au Tryz.f16) (.n none .o (.n none .o (.n none (.n none .o (.n none (.n (some ⟨[(6,false,(.int .i64))],[(5,(.aF (.pair (.int .u8) (.pair (.int .u8) (.pair (.int .u8) (.pair (.int .u8) (.pair (.int .i64) (.pair (.int .i64) (.int .i64)))))))))],[],[],[],[]⟩) (.n (some ⟨[],[],[],[],[],[]⟩) .o .o) .o) .o)) .o)))
def vT:av:=comp (au Tryz.f17) (.n none .o (.n none (.n none .o (.n none .o (.n none (.n none .o (.n none (.n (some ⟨[(11,false,(.int .i64))],[(3,(.int .i64))],[],[],[],[]⟩) .o .o) .o)) .o))) .o))
def vS:av:=comp (au Tryz.f18) (.n none .o (.n none .o (.n none .o (.n none .o (.n (some ⟨[],[],[],[],[],[(0,R0),(6,R6),(7,R7)]⟩) .o (.n (some ⟨[],[],[],[],[],[(1,R1),(2,R2),(3,R3),(4,R4),(6,R6),(9,R9)]⟩) .o (.n none .o (.n (some ⟨[],[],[],[],[],[(7,R7)]⟩) .o (.n (some ⟨[],[],[],[],[],[(6,R6),(7,R7),(8,R8)]⟩) .o .o)))))))))
def vR:av:=comp (au Tryz.f19) (.n none .o (.n none .o (.n (some ⟨[],[(5,(.aF (.pair (.int .u8) (.pair (.int .u8) (.pair (.int .u8) (.pair (.int .u8) (.pair (.int .i64) (.pair (.int .i64) (.int .i64)))))))))],[],[],[],[]⟩) .o (.n none (.n none .o (.n none (.n (some ⟨[(6,false,(.int .i64))],[(5,(.aF (.pair (.int .u8) (.pair (.int .u8) (.pair (.int .u8) (.pair (.int .u8) (.pair (.int .i64) (.pair (.int .i64) (.int .i64)))))))))],[],[],[],[]⟩) .o .o) .o)) (.n none .o (.z [(5,(.aF (.aF (.pair (.int .u8) (.pair (.int .u8) (.pair (.int .u8) (.pair (.int .u8) (.pair (.int .i64) (.pair (.int .i64) (.int .i64))))))))))] .o))))))
def vQ:av:=comp (au Tryz.f20) .o
def vP:av:=comp (au Tryz.f21) (.n none .o (.n none .o (.n none (.n none .o (.n none (.n (some ⟨[(19,false,(.int .i64))],[],[],[],[],[(0,R0),(1,R1),(2,R2),(3,R3),(4,R4),(6,R6),(7,R7),(8,R8),(9,R9)]⟩) .o .o) .o)) .o)))
def Bs:av:=comp (au Tryz.f26) .o
def Br:av:=comp (au Tryz.f27) .o
def Bq:av:=comp (au Tryz.f28) (.n none .o (.n none .o (.n none (.n none .o (.n none (.n (some ⟨[(11,false,(.int .i64))],[],[],[],[],[]⟩) (.n none .o (.n none .o (.n none (.n none (.n none .o (.n none (.n none .o (.n none (.n (some ⟨[(17,false,(.int .i64))],[],[],[],[],[]⟩) .o .o) .o)) .o)) .o) .o))) .o) .o)) .o)))
def Bp:av:=comp (au Tryz.f29) .o
def Bo:av:=comp (au Tryz.f30) .o
def Bn:av:=comp (au Tryz.f31) .o
def Bl:av:=comp (au Tryz.f32) .o
def Bk:av:=comp (au Tryz.f35) .o
def Bj:av:=comp (au Tryz.f36) .o
def Bi:av:=comp (au Tryz.f37) .o
def Bh:av:=comp (au Tryz.f38) .o
def x39:av:=comp (au Tryz.f39) .o
def x40:av:=comp (au Tryz.f40) .o
def x41:av:=comp (au Tryz.f41) (.n none .o (.n none .o (.n none .o (.n none .o (.n none .o (.n none .o (.n none (.n none .o (.n none .o (.n (some ⟨[(36,false,.bool)],[],[],[],[],[]⟩) .o .o))) .o)))))))
def x42:av:=comp (au Tryz.f42) (.n none .o (.n none .o (.n none (.n none .o (.n none (.n (some ⟨[(8,false,(.int .i64))],[],[],[],[],[(10,Zh),(16,Zg)]⟩) (.n none .o (.n none (.n none (.n none .o (.n (some ⟨[],[],[],[((9,none),[(false,(.aF (.pair (.int .u8) (.pair (.int .u8) (.pair (.int .u8) (.pair (.int .u8) (.pair (.int .i64) (.pair (.int .i64) (.int .i64))))))))),(false,(.int .u64)),(false,(.int .u64)),(false,(.int .u64)),(false,(.int .u64)),(false,(.aF (.pair (.int .i64) .bool))),(false,(.int .u8)),(false,(.int .u8)),(false,(.int .u8)),(false,(.int .u8)),(false,(.int .i64)),(false,(.int .i64)),(false,(.int .i64)),(false,(.int .i64)),(false,(.int .i64)),(false,(.int .u64)),(false,(.int .u64)),(false,(.aF (.pair (.int .i64) .bool))),(false,(.int .u64)),(false,(.int .u64)),(false,(.int .i64)),(false,(.int .i64)),(false,(.aF (.int .i64))),(false,(.int .i64)),(false,(.aF (.int .i64))),(false,(.int .i64)),(false,.bool),(false,.bool),(false,.bool),(false,(.int .i64)),(false,(.int .i64)),(false,(.aF (.int .i64))),(false,(.int .i64))])],[],[]⟩) .o .o)) .o) .o)) .o) .o)) .o)))
def x46:av:=comp (au Tryz.f46) .o
def x47:av:=comp (au Tryz.f47) (.n none .o (.n none (.n none .o (.n none (.n (some ⟨[(8,false,(.int .i64))],[],[],[],[],[]⟩) .o .o) .o)) .o))
def x48:av:=comp (au Tryz.f48) .o
def x49:av:=comp (au Tryz.f49) .o
def x50:av:=comp (au Tryz.f50) .o
def x51:av:=comp (au Tryz.f51) (.n none .o (.n (some ⟨[],[],[],[],[],[]⟩) .o .o))
def x52:av:=comp (au Tryz.f52) .o
def x53:av:=comp (au Tryz.f53) .o
def x54:av:=comp (au Tryz.f54) .o
def x55:av:=comp (au Tryz.f55) .o
def x56:av:=comp (au Tryz.f56) .o
def x57:av:=comp (au Tryz.f57) .o
def x58:av:=comp (au Tryz.f58) (.n none .o (.n none .o (.n none .o (.n none .o (.n none .o (.n none .o (.n none (.n none .o (.n none (.n none .o (.n none .o (.n none .o (.n none .o (.n none .o (.n none .o (.n none .o (.n none .o (.n none .o (.n none .o (.n none .o (.n none .o (.n none .o (.n none .o (.n none .o (.n none .o (.n none .o (.n none .o (.n none .o (.n none .o (.n none .o (.n none .o (.n none .o (.n none (.n (some ⟨[(13,false,(.int .i64))],[],[],[],[],[]⟩) .o .o) .o)))))))))))))))))))))))) .o)) .o)))))))
def x59:av:=comp (au Tryz.f59) (.n none .o (.n none (.n none .o (.n none (.n (some ⟨[(6,false,.bool)],[],[],[],[],[]⟩) .o (.n none .o (.n none .o (.n none .o (.n none .o (.n none .o (.n (some ⟨[(22,false,.bool)],[],[],[],[],[]⟩) .o .o))))))) .o)) .o))
def x60:av:=comp (au Tryz.f60) .o
def x61:av:=comp (au Tryz.f61) (.n none .o (.n (some ⟨[],[],[],[((8,none),[(false,(.int .u8)),(false,(.int .u8)),(false,(.int .u8)),(false,(.int .u8)),(false,(.int .i64)),(false,(.int .i64)),(false,(.int .i64)),(false,(.int .i64)),(false,(.int .i64)),(false,(.int .u64)),(false,(.int .u64)),(false,(.aF (.pair (.int .i64) .bool))),(false,(.int .u64)),(false,(.int .u64)),(false,(.int .i64)),(false,(.int .i64)),(false,(.aF (.int .i64))),(false,(.int .i64)),(false,(.aF (.int .i64))),(false,(.int .i64)),(false,.bool),(false,.bool),(false,.bool),(false,(.int .i64)),(false,(.int .i64)),(false,(.aF (.int .i64)))])],[],[]⟩) .o (.n none .o (.n none (.n none .o (.n none (.n (some ⟨[(42,false,(.int .i64))],[],[],[((8,none),[(false,(.int .u8)),(false,(.int .u8)),(false,(.int .u8)),(false,(.int .u8)),(false,(.int .i64)),(false,(.int .i64)),(false,(.int .i64)),(false,(.int .i64)),(false,(.int .i64)),(false,(.int .u64)),(false,(.int .u64)),(false,(.aF (.pair (.int .i64) .bool))),(false,(.int .u64)),(false,(.int .u64)),(false,(.int .i64)),(false,(.int .i64)),(false,(.aF (.int .i64))),(false,(.int .i64)),(false,(.aF (.int .i64))),(false,(.int .i64)),(false,.bool),(false,.bool),(false,.bool),(false,(.int .i64)),(false,(.int .i64)),(false,(.aF (.int .i64)))])],[],[(2,R2),(3,R3),(4,R4)]⟩) .o .o) .o)) .o))))
def x62:av:=comp (au Tryz.f62) (.n none .o (.n none .o (.n none .o (.n (some ⟨[],[],[],[((6,none),[(false,(.int .u8)),(false,(.int .u8)),(false,(.int .u8)),(false,(.int .u8)),(false,(.int .i64)),(false,(.int .i64)),(false,(.int .i64)),(false,(.int .i64)),(false,(.int .i64)),(false,(.int .u64)),(false,(.int .u64)),(false,(.aF (.pair (.int .i64) .bool))),(false,(.int .u64)),(false,(.int .u64)),(false,(.int .i64)),(false,(.int .i64)),(false,(.aF (.int .i64))),(false,(.int .i64)),(false,(.aF (.int .i64))),(false,(.int .i64)),(false,.bool),(false,.bool),(false,.bool),(false,(.int .i64)),(false,(.int .i64)),(false,(.aF (.int .i64)))])],[],[]⟩) .o .o))))
def x63:av:=comp (au Tryz.f63) (.n none .o (.n none .o (.n none .o (.n none .o (.n none .o (.n (some ⟨[],[],[],[((6,none),[(false,(.int .u8)),(false,(.int .u8)),(false,(.int .u8)),(false,(.int .u8)),(false,(.int .i64)),(false,(.int .i64)),(false,(.int .i64)),(false,(.int .i64)),(false,(.int .i64)),(false,(.int .u64)),(false,(.int .u64)),(false,(.aF (.pair (.int .i64) .bool))),(false,(.int .u64)),(false,(.int .u64)),(false,(.int .i64)),(false,(.int .i64)),(false,(.aF (.int .i64))),(false,(.int .i64)),(false,(.aF (.int .i64))),(false,(.int .i64)),(false,.bool),(false,.bool),(false,.bool),(false,(.int .i64)),(false,(.int .i64)),(false,(.aF (.int .i64)))])],[],[]⟩) .o .o))))))
def x64:av:=comp (au Tryz.f64) (.n none .o (.n none .o (.n (some ⟨[],[],[],[((8,none),[(false,(.int .u8)),(false,(.int .u8)),(false,(.int .u8)),(false,(.int .u8)),(false,(.int .i64)),(false,(.int .i64)),(false,(.int .i64)),(false,(.int .i64)),(false,(.int .i64)),(false,(.int .u64)),(false,(.int .u64)),(false,(.aF (.pair (.int .i64) .bool))),(false,(.int .u64)),(false,(.int .u64)),(false,(.int .i64)),(false,(.int .i64)),(false,(.aF (.int .i64))),(false,(.int .i64)),(false,(.aF (.int .i64))),(false,(.int .i64)),(false,.bool),(false,.bool),(false,.bool),(false,(.int .i64)),(false,(.int .i64)),(false,(.aF (.int .i64)))])],[],[]⟩) .o .o)))
def x65:av:=comp (au Tryz.f65) (.n none .o (.n (some ⟨[],[],[],[((6,none),[(false,(.int .u8)),(false,(.int .u8)),(false,(.int .u8)),(false,(.int .u8)),(false,(.int .i64)),(false,(.int .i64)),(false,(.int .i64)),(false,(.int .i64)),(false,(.int .i64)),(false,(.int .u64)),(false,(.int .u64)),(false,(.aF (.pair (.int .i64) .bool))),(false,(.int .u64)),(false,(.int .u64)),(false,(.int .i64)),(false,(.int .i64)),(false,(.aF (.int .i64))),(false,(.int .i64)),(false,(.aF (.int .i64))),(false,(.int .i64)),(false,.bool),(false,.bool),(false,.bool),(false,(.int .i64)),(false,(.int .i64)),(false,(.aF (.int .i64)))])],[],[]⟩) .o (.n none .o (.n (some ⟨[],[],[],[((8,none),[(false,(.int .i64)),(false,(.int .i64)),(false,(.int .i64)),(false,(.int .i64)),(false,(.ptr 1)),(false,(.int .u8)),(false,(.int .u8)),(false,(.int .u8)),(false,(.int .u8)),(false,(.int .i64)),(false,(.int .i64)),(false,(.int .i64)),(false,(.int .i64)),(false,(.int .i64)),(false,(.int .u64)),(false,(.int .u64)),(false,(.aF (.pair (.int .i64) .bool))),(false,(.int .u64)),(false,(.int .u64)),(false,(.int .i64)),(false,(.int .i64)),(false,(.aF (.int .i64))),(false,(.int .i64)),(false,(.aF (.int .i64))),(false,(.int .i64)),(false,.bool),(false,.bool),(false,.bool),(false,(.int .i64)),(false,(.int .i64)),(false,(.aF (.int .i64))),(false,(.int .i64))]),((6,none),[(false,(.int .u8)),(false,(.int .u8)),(false,(.int .u8)),(false,(.int .u8)),(false,(.int .i64)),(false,(.int .i64)),(false,(.int .i64)),(false,(.int .i64)),(false,(.int .i64)),(false,(.int .u64)),(false,(.int .u64)),(false,(.aF (.pair (.int .i64) .bool))),(false,(.int .u64)),(false,(.int .u64)),(false,(.int .i64)),(false,(.int .i64)),(false,(.aF (.int .i64))),(false,(.int .i64)),(false,(.aF (.int .i64))),(false,(.int .i64)),(false,.bool),(false,.bool),(false,.bool),(false,(.int .i64)),(false,(.int .i64)),(false,(.aF (.int .i64)))])],[],[(2,R2)]⟩) (.n none .o (.n none (.n none .o (.n none .o (.n none .o (.n none .o (.n none .o (.n none .o (.n none .o (.n none .o (.n (some ⟨[(9,false,(.int .i64))],[],[],[],[],[(2,R2)]⟩) .o .o))))))))) .o)) .o))))
def x66:av:=comp (au Tryz.f66) .o
def x67:av:=comp (au Tryz.f67) .o
def x68:av:=comp (au Tryz.f68) .o
def x69:av:=comp (au Tryz.f69) .o
def x74:av:=comp (au Tryz.f74) .o
def x75:av:=comp (au Tryz.f75) (.n none .o (.n (some ⟨[(8,false,.bool)],[],[],[],[],[]⟩) .o .o))
def x76:av:=comp (au Tryz.f76) .o
def x77:av:=comp (au Tryz.f77) (.n none .o (.n (some ⟨[(10,false,.bool)],[],[],[],[],[]⟩) .o .o))
def x78:av:=comp (au Tryz.f78) (.n none .o (.n (some ⟨[(19,false,.bool)],[],[],[],[],[]⟩) .o .o))
def x79:av:=comp (au Tryz.f79) .o
def x80:av:=comp (au Tryz.f80) .o
def x81:av:=comp (au Tryz.f81) (.n none .o (.n none (.n none (.n (some ⟨[(8,false,.bool)],[],[],[],[],[]⟩) .o .o) .o) .o))
def x82:av:=comp (au Tryz.f82) (.n none .o (.n none .o (.n none (.n none .o (.n none (.n (some ⟨[(12,false,(.int .i64))],[],[],[],[],[(2,R2)]⟩) .o .o) .o)) .o)))
def x83:av:=comp (au Tryz.f83) .o
def x84:av:=comp (au Tryz.f84) .o
def x85:av:=comp (au Tryz.f85) .o
def x86:av:=comp (au Tryz.f86) .o
def x87:av:=comp (au Tryz.f87) .o
def x88:av:=comp (au Tryz.f88) .o
def x89:av:=comp (au Tryz.f89) (.n none .o (.n none .o (.n none (.n none (.n (some ⟨[(15,false,.bool)],[],[],[],[],[]⟩) .o .o) .o) .o)))
def x90:av:=comp (au Tryz.f90) .o
def x91:av:=comp (au Tryz.f91) (.n none .o (.n none (.n none .o (.n none (.n (some ⟨[(7,false,(.int .i64))],[],[],[],[],[]⟩) .o .o) .o)) .o))
def x92:av:=comp (au Tryz.f92) (.n none .o (.n (some ⟨[],[],[],[],[],[]⟩) .o .o))
def x93:av:=comp (au Tryz.f93) .o
def x94:av:=comp (au Tryz.f94) .o
def x95:av:=comp (au Tryz.f95) .o
def x96:av:=comp (au Tryz.f96) (.n none .o (.n (some ⟨[],[],[],[],[],[]⟩) .o (.n (some ⟨[(6,false,(.int .i64))],[],[],[],[],[]⟩) .o .o)))
def x97:av:=comp (au Tryz.f97) .o
def x98:av:=comp (au Tryz.f98) .o
def x99:av:=comp (au Tryz.f99) .o
def QE:av:=comp (au Tryz.f100) .o
def QD:av:=comp (au Tryz.f101) .o
def QC:av:=comp (au Tryz.f102) .o
def QB:av:=comp (au Tryz.f103) .o
def QA:av:=comp (au Tryz.f104) .o
def Qz:av:=comp (au Tryz.f105) .o
def Qy:av:=comp (au Tryz.f106) (.n none .o (.n (some ⟨[],[],[],[((0,none),[(false,(.int .i64)),(false,(.int .i64)),(false,(.int .i64)),(false,(.int .i64)),(false,(.ptr 1)),(false,(.int .u8)),(false,(.int .u8)),(false,(.int .u8)),(false,(.int .u8)),(false,(.int .i64)),(false,(.int .i64)),(false,(.int .i64)),(false,(.int .i64)),(false,(.int .i64)),(false,(.int .u64)),(false,(.int .u64)),(false,(.aF (.pair (.int .i64) .bool))),(false,(.int .u64)),(false,(.int .u64)),(false,(.int .i64)),(false,(.int .i64)),(false,(.aF (.int .i64))),(false,(.int .i64)),(false,(.aF (.int .i64))),(false,(.int .i64)),(false,.bool),(false,.bool),(false,.bool),(false,(.int .i64)),(false,(.int .i64)),(false,(.aF (.int .i64))),(false,(.int .i64))])],[],[]⟩) .o (.n none .o (.n (some ⟨[(4,false,(.int .i64)),(5,false,(.int .i64))],[],[],[],[],[]⟩) .o .o))))
def Qx:av:=comp (au Tryz.f107) (.n none .o (.n none .o (.n none (.n none .o (.n none (.n (some ⟨[(3,false,(.int .i64))],[],[],[],[],[]⟩) (.n none (.n none (.n none (.n (some ⟨[(3,false,(.int .i64))],[],[],[],[],[]⟩) .o .o) .o) .o) .o) .o) .o)) .o)))
def Qw:av:=comp (au Tryz.f108) .o
def Qv:av:=comp (au Tryz.f109) .o
def Qu:av:=comp (au Tryz.f110) .o
def Qt:av:=comp (au Tryz.f111) .o
def Qs:av:=comp (au Tryz.f112) (.n none .o (.n none .o (.n none (.n none .o (.n none (.n (some ⟨[(6,false,(.int .i64))],[],[],[],[],[(15,Mo)]⟩) .o .o) .o)) .o)))
def Qr:av:=comp (au Tryz.f113) .o
def Qq:av:=comp (au Tryz.f114) .o
def Qp:av:=comp (au Tryz.f115) .o
def Qo:av:=comp (au Tryz.f124) .o
def Qn:av:=comp (au Tryz.f125) .o
def Qm:av:=comp (au Tryz.f126) .o
def Ql:av:=comp (au Tryz.f127) .o
def Qk:av:=comp (au Tryz.f128) .o
def Qj:av:=comp (au Tryz.f129) .o
def Qi:av:=comp (au Tryz.f130) .o
def Qh:av:=comp (au Tryz.f131) .o
def Qg:av:=comp (au Tryz.f132) .o
def Qf:av:=comp (au Tryz.f133) (.n none .o (.n (some ⟨[],[],[],[],[],[]⟩) .o (.n (some ⟨[(7,false,(.int .i64))],[],[],[],[],[]⟩) .o (.n (some ⟨[(7,false,(.int .i64))],[],[],[],[],[]⟩) .o (.n (some ⟨[],[],[],[],[],[]⟩) .o (.n none .o (.n none .o (.n none .o (.n none (.n none .o (.n none (.n (some ⟨[(107,false,(.int .i64))],[],[],[],[],[(3,R3),(4,R4)]⟩) (.n none .o (.n none .o (.n none (.n none (.n none .o (.n none .o (.n none (.n (some ⟨[(140,false,.bool)],[],[],[],[],[]⟩) .o .o) .o))) .o) .o))) .o) .o)) .o)))))))))
def Qe:av:=comp (au Tryz.f134) .o
def Qd:av:=comp (au Tryz.f135) (.n none .o (.n none .o (.n none .o (.n none (.n none .o (.n none (.n (some ⟨[(6,false,(.int .u64)),(12,false,(.int .i64))],[],[],[],[],[]⟩) .o .o) .o)) .o))))
def Qc:av:=comp (au Tryz.f136) .o
def Qb:av:=comp (au Tryz.f137) .o
def Qa:av:=comp (au Tryz.f138) (.n none .o (.n none (.n none .o (.n none (.n (some ⟨[(8,false,(.int .i64))],[],[],[],[],[]⟩) .o .o) .o)) .o))
def P_:av:=comp (au Tryz.f139) .o
def P9:av:=comp (au Tryz.f140) .o
def P8:av:=comp (au Tryz.f141) .o
def P7:av:=comp (au Tryz.f142) (.n none .o (.n none .o (.n none .o (.n (some ⟨[(5,false,(.int .u64))],[],[],[],[],[]⟩) .o .o))))
def P6:av:=comp (au Tryz.f143) (.n none .o (.n none .o (.n (some ⟨[],[],[],[],[],[]⟩) (.n none (.n none .o (.n none .o (.n (some ⟨[(30,false,.bool)],[],[],[],[],[]⟩) .o .o))) .o) (.n none .o (.n (some ⟨[],[],[],[],[],[]⟩) .o .o)))))
def P5:av:=comp (au Tryz.f144) (.n none .o (.n (some ⟨[],[],[],[],[],[]⟩) .o .o))
def P4:av:=comp (au Tryz.f145) (.n none .o (.n (some ⟨[],[],[],[((2,none),[(false,(.int .i64)),(false,(.int .i64)),(false,(.int .i64)),(false,(.int .i64))]),((4,none),[(false,(.int .i64)),(false,(.int .i64)),(false,(.int .i64)),(false,(.int .i64))])],[],[]⟩) (.n none (.n (some ⟨[(6,false,.bool)],[],[],[],[],[]⟩) .o .o) .o) .o))
def P3:av:=comp (au Tryz.f146) .o
def P2:av:=comp (au Tryz.f147) .o
def P1:av:=comp (au Tryz.f148) .o
def P0:av:=comp (au Tryz.f149) .o
def PZ:av:=comp (au Tryz.f150) .o
def PY:av:=comp (au Tryz.f151) .o
def PX:av:=comp (au Tryz.f152) (.n none .o (.n none .o (.n none .o (.n none .o (.n none (.n none .o (.n none (.n (some ⟨[(46,false,(.int .i64))],[(5,(.int .i64)),(6,(.int .u64))],[],[],[],[(1,R1)]⟩) .o .o) .o)) (.n none .o (.n none .o (.n none (.n none .o (.n none (.n (some ⟨[(100,false,(.int .i64))],[],[],[],[],[(1,R1),(2,R2)]⟩) .o .o) .o)) (.n (some ⟨[],[],[],[((0,none),[(false,(.int .i64)),(false,(.int .i64)),(false,(.int .i64)),(false,(.int .i64)),(false,(.je 9 1)),(false,(.ptr 1)),(false,(.int .u8)),(false,(.int .u8)),(false,(.int .u8)),(false,(.int .u8)),(false,(.int .i64)),(false,(.int .i64)),(false,(.int .i64)),(false,(.int .i64)),(false,(.int .i64)),(false,(.int .u64)),(false,(.int .u64)),(false,(.aF (.pair (.int .i64) .bool))),(false,(.int .u64)),(false,(.int .u64)),(false,(.int .i64)),(false,(.int .i64)),(false,(.aF (.int .i64))),(false,(.int .i64)),(false,(.aF (.int .i64))),(false,(.int .i64)),(false,.bool),(false,.bool),(false,.bool),(false,(.int .i64)),(false,(.int .i64)),(false,(.aF (.int .i64)))])],[],[]⟩) .o .o)))))))))
def PW:av:=comp (au Tryz.f153) .o
def PV:av:=comp (au Tryz.f154) .o
def PU:av:=comp (au Tryz.f155) .o
def PT:av:=comp (au Tryz.f156) .o
def PS:av:=comp (au Tryz.f157) .o
def PR:av:=comp (au Tryz.f158) .o
def PQ:av:=comp (au Tryz.f159) .o
def PO:av:=comp (au Tryz.f160) (.n none .o (.n none .o (.n (some ⟨[],[],[],[],[],[]⟩) .o .o)))
def PN:av:=comp (au Tryz.f161) (.n none .o (.n none .o (.n none (.n none .o (.n none (.n (some ⟨[(2,false,(.int .i64)),(9,false,(.int .i64))],[],[],[],[],[]⟩) .o .o) .o)) .o)))
def PM:av:=comp (au Tryz.f162) .o
def PL:av:=comp (au Tryz.f163) .o
def PK:av:=comp (au Tryz.f164) .o
def PJ:av:=comp (au Tryz.f198) (.n none .o (.n none (.n none .o (.n none (.n (some ⟨[(8,false,(.int .i64))],[],[],[],[],[]⟩) .o .o) .o)) .o))
def PI:av:=comp (au Tryz.f199) (.n none .o (.n none (.n none .o (.n none (.n (some ⟨[(4,false,.bool)],[],[],[],[],[]⟩) .o .o) .o)) .o))
def PH:av:=comp (au Tryz.f200) (.n none .o (.n none (.n none .o (.n none (.n (some ⟨[(8,false,(.int .i64))],[],[],[],[],[]⟩) .o .o) .o)) .o))
def PG:av:=comp (au Tryz.f201) (.n none .o (.n none (.n none .o (.n none (.n (some ⟨[(8,false,(.int .i64))],[],[],[],[],[]⟩) .o .o) .o)) .o))
def PF:av:=comp (au Tryz.f202) .o
def PE:av:=comp (au Tryz.f203) .o
def PD:av:=comp (au Tryz.f204) .o
def PB:av:=comp (au Tryz.f205) .o
def PA:av:=comp (au Tryz.f206) .o
def Pz:av:=comp (au Tryz.f207) .o
def Py:av:=comp (au Tryz.f208) .o
def Px:av:=comp (au Tryz.f209) .o
def Pw:av:=comp (au Tryz.f210) .o
def Pv:av:=comp (au Tryz.f211) (.n none .o (.n none .o (.n none .o (.n none .o (.n (some ⟨[],[],[],[((10,none),[(true,(.int .u64)),(true,(.int .i64)),(false,.bool),(false,(.int .i64))])],[],[]⟩) .o .o)))))
def Pu:av:=comp (au Tryz.f212) (.n none .o (.n none .o (.n none (.n none .o (.n none (.n (some ⟨[(3,false,(.int .i64)),(11,false,(.int .i64))],[],[],[],[],[]⟩) .o .o) .o)) (.n (some ⟨[],[(6,(.int .i64))],[],[],[],[]⟩) .o (.n none (.n none .o (.n none (.n (some ⟨[(27,false,(.int .i64))],[(6,(.int .i64))],[],[],[],[]⟩) .o .o) .o)) .o)))))
def Pt:av:=comp (au Tryz.f213) .o
def Ps:av:=comp (au Tryz.f214) .o
def Pr:av:=comp (au Tryz.f215) (.n none .o (.n (some ⟨[],[],[],[((6,none),[(false,(.int .i64)),(false,(.int .i64)),(false,(.int .i64)),(false,(.int .i64))])],[],[]⟩) .o .o))
def Pq:av:=comp (au Tryz.f216) .o
def Pp:av:=comp (au Tryz.f217) .o
def Po:av:=comp (au Tryz.f218) .o
def Pn:av:=comp (au Tryz.f219) .o
def Pm:av:=comp (au Tryz.f220) .o
def Pk:av:=comp (au Tryz.f221) (.n none .o (.n (some ⟨[],[],[],[],[],[]⟩) .o (.n (some ⟨[(3,false,.bool)],[],[],[],[],[]⟩) .o (.n none (.n none .o (.n none (.n (some ⟨[(22,false,.bool)],[],[],[],[],[]⟩) .o .o) .o)) .o))))
def Pj:av:=comp (au Tryz.f222) .o
def Ph:av:=comp (au Tryz.f234) .o
def Pg:av:=comp (au Tryz.f235) .o
def Pf:av:=comp (au Tryz.f236) .o
def Pe:av:=comp (au Tryz.f237) (.n none .o (.n (some ⟨[],[],[],[],[],[]⟩) .o .o))
def Pd:av:=comp (au Tryz.f242) .o
def fnT:Tr (Func×av):=(.node (.node (.node (.node (.node (.node (.node (.node .nil (some (Tryz.f127,Ql)) .nil) (some (Tryz.f63,x63)) .nil) (some (Tryz.f31,Bn)) (.node (.node .nil (some (Tryz.f159,PQ)) .nil) (some (Tryz.f95,x95)) .nil)) (some (Tryz.f15,Bt)) (.node (.node (.node .nil (some (Tryz.f143,P6)) .nil) (some (Tryz.f79,x79)) (.node .nil (some (Tryz.f207,Pz)) .nil)) (some (Tryz.f47,x47)) (.node .nil (some (Tryz.f111,Qt)) .nil))) none (.node (.node (.node (.node .nil (some (Tryz.f135,Qd)) .nil) none (.node .nil (some (Tryz.f199,PI)) .nil)) (some (Tryz.f39,x39)) (.node .nil (some (Tryz.f103,QB)) .nil)) none (.node (.node (.node .nil (some (Tryz.f151,PY)) .nil) (some (Tryz.f87,x87)) (.node .nil (some (Tryz.f215,Pr)) .nil)) (some (Tryz.f55,x55)) .nil))) none (.node (.node (.node (.node (.node .nil (some (Tryz.f131,Qh)) .nil) (some (Tryz.f67,x67)) .nil) (some (Tryz.f35,Bk)) (.node (.node .nil (some (Tryz.f163,PL)) .nil) (some (Tryz.f99,x99)) .nil)) (some (Tryz.f19,vR)) (.node (.node (.node .nil (some (Tryz.f147,P2)) .nil) (some (Tryz.f83,x83)) (.node .nil (some (Tryz.f211,Pv)) .nil)) (some (Tryz.f51,x51)) (.node .nil (some (Tryz.f115,Qp)) .nil))) (some (Tryz.f11,xJ)) (.node (.node (.node (.node .nil (some (Tryz.f139,P_)) .nil) (some (Tryz.f75,x75)) (.node .nil (some (Tryz.f203,PE)) .nil)) none (.node .nil (some (Tryz.f107,Qx)) (.node .nil (some (Tryz.f235,Pg)) .nil))) (some (Tryz.f27,Br)) (.node (.node (.node .nil (some (Tryz.f155,PU)) .nil) (some (Tryz.f91,x91)) (.node .nil (some (Tryz.f219,Pn)) .nil)) (some (Tryz.f59,x59)) .nil)))) none (.node (.node (.node (.node (.node (.node .nil (some (Tryz.f129,Qj)) .nil) (some (Tryz.f65,x65)) .nil) none (.node (.node .nil (some (Tryz.f161,PN)) .nil) (some (Tryz.f97,x97)) .nil)) (some (Tryz.f17,vT)) (.node (.node (.node .nil (some (Tryz.f145,P4)) .nil) (some (Tryz.f81,x81)) (.node .nil (some (Tryz.f209,Px)) .nil)) (some (Tryz.f49,x49)) (.node .nil (some (Tryz.f113,Qr)) .nil))) (some (Tryz.f9,x9)) (.node (.node (.node (.node .nil (some (Tryz.f137,Qb)) .nil) none (.node .nil (some (Tryz.f201,PG)) .nil)) (some (Tryz.f41,x41)) (.node .nil (some (Tryz.f105,Qz)) .nil)) none (.node (.node (.node .nil (some (Tryz.f153,PW)) .nil) (some (Tryz.f89,x89)) (.node .nil (some (Tryz.f217,Pp)) .nil)) (some (Tryz.f57,x57)) .nil))) none (.node (.node (.node (.node (.node .nil (some (Tryz.f133,Qf)) .nil) (some (Tryz.f69,x69)) .nil) (some (Tryz.f37,Bi)) (.node .nil (some (Tryz.f101,QD)) .nil)) (some (Tryz.f21,vP)) (.node (.node (.node .nil (some (Tryz.f149,P0)) .nil) (some (Tryz.f85,x85)) (.node .nil (some (Tryz.f213,Pt)) .nil)) (some (Tryz.f53,x53)) .nil)) (some (Tryz.f13,Bv)) (.node (.node (.node (.node .nil (some (Tryz.f141,P8)) .nil) (some (Tryz.f77,x77)) (.node .nil (some (Tryz.f205,PB)) .nil)) none (.node .nil (some (Tryz.f109,Qv)) (.node .nil (some (Tryz.f237,Pe)) .nil))) (some (Tryz.f29,Bp)) (.node (.node (.node .nil (some (Tryz.f157,PS)) .nil) (some (Tryz.f93,x93)) (.node .nil (some (Tryz.f221,Pk)) .nil)) (some (Tryz.f61,x61)) (.node .nil (some (Tryz.f125,Qn)) .nil)))))) none (.node (.node (.node (.node (.node (.node (.node .nil (some (Tryz.f128,Qk)) .nil) (some (Tryz.f64,x64)) .nil) (some (Tryz.f32,Bl)) (.node (.node .nil (some (Tryz.f160,PO)) .nil) (some (Tryz.f96,x96)) .nil)) (some (Tryz.f16,vU)) (.node (.node (.node .nil (some (Tryz.f144,P5)) .nil) (some (Tryz.f80,x80)) (.node .nil (some (Tryz.f208,Py)) .nil)) (some (Tryz.f48,x48)) (.node .nil (some (Tryz.f112,Qs)) .nil))) (some (Tryz.f8,x8)) (.node (.node (.node (.node .nil (some (Tryz.f136,Qc)) .nil) none (.node .nil (some (Tryz.f200,PH)) .nil)) (some (Tryz.f40,x40)) (.node .nil (some (Tryz.f104,QA)) .nil)) none (.node (.node (.node .nil (some (Tryz.f152,PX)) .nil) (some (Tryz.f88,x88)) (.node .nil (some (Tryz.f216,Pq)) .nil)) (some (Tryz.f56,x56)) .nil))) none (.node (.node (.node (.node (.node .nil (some (Tryz.f132,Qg)) .nil) (some (Tryz.f68,x68)) .nil) (some (Tryz.f36,Bj)) (.node (.node .nil (some (Tryz.f164,PK)) .nil) (some (Tryz.f100,QE)) .nil)) (some (Tryz.f20,vQ)) (.node (.node (.node .nil (some (Tryz.f148,P1)) .nil) (some (Tryz.f84,x84)) (.node .nil (some (Tryz.f212,Pu)) .nil)) (some (Tryz.f52,x52)) .nil)) none (.node (.node (.node (.node .nil (some (Tryz.f140,P9)) .nil) (some (Tryz.f76,x76)) (.node .nil (some (Tryz.f204,PD)) .nil)) none (.node .nil (some (Tryz.f108,Qw)) (.node .nil (some (Tryz.f236,Pf)) .nil))) (some (Tryz.f28,Bq)) (.node (.node (.node .nil (some (Tryz.f156,PT)) .nil) (some (Tryz.f92,x92)) (.node .nil (some (Tryz.f220,Pm)) .nil)) (some (Tryz.f60,x60)) (.node .nil (some (Tryz.f124,Qo)) .nil))))) none (.node (.node (.node (.node (.node (.node .nil (some (Tryz.f130,Qi)) .nil) (some (Tryz.f66,x66)) .nil) none (.node (.node .nil (some (Tryz.f162,PM)) .nil) (some (Tryz.f98,x98)) .nil)) (some (Tryz.f18,vS)) (.node (.node (.node .nil (some (Tryz.f146,P3)) .nil) (some (Tryz.f82,x82)) (.node .nil (some (Tryz.f210,Pw)) .nil)) (some (Tryz.f50,x50)) (.node .nil (some (Tryz.f114,Qq)) (.node .nil (some (Tryz.f242,Pd)) .nil)))) (some (Tryz.f10,xK)) (.node (.node (.node (.node .nil (some (Tryz.f138,Qa)) .nil) (some (Tryz.f74,x74)) (.node .nil (some (Tryz.f202,PF)) .nil)) (some (Tryz.f42,x42)) (.node .nil (some (Tryz.f106,Qy)) (.node .nil (some (Tryz.f234,Ph)) .nil))) (some (Tryz.f26,Bs)) (.node (.node (.node .nil (some (Tryz.f154,PV)) .nil) (some (Tryz.f90,x90)) (.node .nil (some (Tryz.f218,Po)) .nil)) (some (Tryz.f58,x58)) .nil))) none (.node (.node (.node (.node (.node .nil (some (Tryz.f134,Qe)) .nil) none (.node .nil (some (Tryz.f198,PJ)) .nil)) (some (Tryz.f38,Bh)) (.node .nil (some (Tryz.f102,QC)) .nil)) none (.node (.node (.node .nil (some (Tryz.f150,PZ)) .nil) (some (Tryz.f86,x86)) (.node .nil (some (Tryz.f214,Ps)) .nil)) (some (Tryz.f54,x54)) .nil)) (some (Tryz.f14,Bu)) (.node (.node (.node (.node .nil (some (Tryz.f142,P7)) .nil) (some (Tryz.f78,x78)) (.node .nil (some (Tryz.f206,PA)) .nil)) (some (Tryz.f46,x46)) (.node .nil (some (Tryz.f110,Qu)) .nil)) (some (Tryz.f30,Bo)) (.node (.node (.node .nil (some (Tryz.f158,PR)) .nil) (some (Tryz.f94,x94)) (.node .nil (some (Tryz.f222,Pj)) .nil)) (some (Tryz.f62,x62)) (.node .nil (some (Tryz.f126,Qm)) .nil)))))))
def fns:FT:=fun f=>fnT.get f
theorem fk8:aM Tryz.prog 8 Tryz.f8 x8:=aj Tryz.func8 rfl rfl
theorem fk9:aM Tryz.prog 9 Tryz.f9 x9:=aj Tryz.func9 rfl rfl
theorem acL:aM Tryz.prog 10 Tryz.f10 xK:=aj Tryz.func10 rfl rfl
theorem acK:aM Tryz.prog 11 Tryz.f11 xJ:=aj Tryz.func11 rfl rfl
theorem acJ:aM Tryz.prog 13 Tryz.f13 Bv:=aj Tryz.func13 rfl rfl
theorem acI:aM Tryz.prog 14 Tryz.f14 Bu:=aj Tryz.func14 rfl rfl
theorem acH:aM Tryz.prog 15 Tryz.f15 Bt:=aj Tryz.func15 rfl rfl
theorem acG:aM Tryz.prog 16 Tryz.f16 vU:=aj Tryz.func16 rfl rfl
theorem acF:aM Tryz.prog 17 Tryz.f17 vT:=aj Tryz.func17 rfl rfl
theorem acE:aM Tryz.prog 18 Tryz.f18 vS:=aj Tryz.func18 rfl rfl
theorem acD:aM Tryz.prog 19 Tryz.f19 vR:=aj Tryz.func19 rfl rfl
theorem acC:aM Tryz.prog 20 Tryz.f20 vQ:=aj Tryz.func20 rfl rfl
theorem acB:aM Tryz.prog 21 Tryz.f21 vP:=aj Tryz.func21 rfl rfl
theorem acA:aM Tryz.prog 26 Tryz.f26 Bs:=aj Tryz.func26 rfl rfl
theorem acz:aM Tryz.prog 27 Tryz.f27 Br:=aj Tryz.func27 rfl rfl
theorem acy:aM Tryz.prog 28 Tryz.f28 Bq:=aj Tryz.func28 rfl rfl
theorem acx:aM Tryz.prog 29 Tryz.f29 Bp:=aj Tryz.func29 rfl rfl
theorem acw:aM Tryz.prog 30 Tryz.f30 Bo:=aj Tryz.func30 rfl rfl
theorem acv:aM Tryz.prog 31 Tryz.f31 Bn:=aj Tryz.func31 rfl rfl
theorem acu:aM Tryz.prog 32 Tryz.f32 Bl:=aj Tryz.func32 rfl rfl
theorem I5:aM Tryz.prog 35 Tryz.f35 Bk:=aj Tryz.func35 rfl rfl
theorem I4:aM Tryz.prog 36 Tryz.f36 Bj:=aj Tryz.func36 rfl rfl
theorem acs:aM Tryz.prog 37 Tryz.f37 Bi:=aj Tryz.func37 rfl rfl
theorem acr:aM Tryz.prog 38 Tryz.f38 Bh:=aj Tryz.func38 rfl rfl
theorem acq:aM Tryz.prog 39 Tryz.f39 x39:=aj Tryz.func39 rfl rfl
theorem acp:aM Tryz.prog 40 Tryz.f40 x40:=aj Tryz.func40 rfl rfl
theorem aco:aM Tryz.prog 41 Tryz.f41 x41:=aj Tryz.func41 rfl rfl
theorem acn:aM Tryz.prog 42 Tryz.f42 x42:=aj Tryz.func42 rfl rfl
theorem acm:aM Tryz.prog 46 Tryz.f46 x46:=aj Tryz.func46 rfl rfl
theorem ack:aM Tryz.prog 47 Tryz.f47 x47:=aj Tryz.func47 rfl rfl
theorem acj:aM Tryz.prog 48 Tryz.f48 x48:=aj Tryz.func48 rfl rfl
theorem aci:aM Tryz.prog 49 Tryz.f49 x49:=aj Tryz.func49 rfl rfl
theorem ach:aM Tryz.prog 50 Tryz.f50 x50:=aj Tryz.func50 rfl rfl
theorem acg:aM Tryz.prog 51 Tryz.f51 x51:=aj Tryz.func51 rfl rfl
theorem acf:aM Tryz.prog 52 Tryz.f52 x52:=aj Tryz.func52 rfl rfl
theorem ace:aM Tryz.prog 53 Tryz.f53 x53:=aj Tryz.func53 rfl rfl
theorem acd:aM Tryz.prog 54 Tryz.f54 x54:=aj Tryz.func54 rfl rfl
theorem acb:aM Tryz.prog 55 Tryz.f55 x55:=aj Tryz.func55 rfl rfl
theorem aca:aM Tryz.prog 56 Tryz.f56 x56:=aj Tryz.func56 rfl rfl
theorem ab_:aM Tryz.prog 57 Tryz.f57 x57:=aj Tryz.func57 rfl rfl
theorem ab9:aM Tryz.prog 58 Tryz.f58 x58:=aj Tryz.func58 rfl rfl
theorem ab8:aM Tryz.prog 59 Tryz.f59 x59:=aj Tryz.func59 rfl rfl
theorem ab7:aM Tryz.prog 60 Tryz.f60 x60:=aj Tryz.func60 rfl rfl
theorem ab6:aM Tryz.prog 61 Tryz.f61 x61:=aj Tryz.func61 rfl rfl
theorem ab5:aM Tryz.prog 62 Tryz.f62 x62:=aj Tryz.func62 rfl rfl
theorem ab4:aM Tryz.prog 63 Tryz.f63 x63:=aj Tryz.func63 rfl rfl
theorem ab3:aM Tryz.prog 64 Tryz.f64 x64:=aj Tryz.func64 rfl rfl
theorem ab2:aM Tryz.prog 65 Tryz.f65 x65:=aj Tryz.func65 rfl rfl
theorem ab1:aM Tryz.prog 66 Tryz.f66 x66:=aj Tryz.func66 rfl rfl
theorem ab0:aM Tryz.prog 67 Tryz.f67 x67:=aj Tryz.func67 rfl rfl
theorem abZ:aM Tryz.prog 68 Tryz.f68 x68:=aj Tryz.func68 rfl rfl
theorem abY:aM Tryz.prog 69 Tryz.f69 x69:=aj Tryz.func69 rfl rfl
theorem abX:aM Tryz.prog 74 Tryz.f74 x74:=aj Tryz.func74 rfl rfl
theorem abW:aM Tryz.prog 75 Tryz.f75 x75:=aj Tryz.func75 rfl rfl
theorem abV:aM Tryz.prog 76 Tryz.f76 x76:=aj Tryz.func76 rfl rfl
theorem abU:aM Tryz.prog 77 Tryz.f77 x77:=aj Tryz.func77 rfl rfl
theorem abT:aM Tryz.prog 78 Tryz.f78 x78:=aj Tryz.func78 rfl rfl
theorem abS:aM Tryz.prog 79 Tryz.f79 x79:=aj Tryz.func79 rfl rfl
theorem abR:aM Tryz.prog 80 Tryz.f80 x80:=aj Tryz.func80 rfl rfl
theorem abQ:aM Tryz.prog 81 Tryz.f81 x81:=aj Tryz.func81 rfl rfl
theorem abP:aM Tryz.prog 82 Tryz.f82 x82:=aj Tryz.func82 rfl rfl
theorem abO:aM Tryz.prog 83 Tryz.f83 x83:=aj Tryz.func83 rfl rfl
theorem abN:aM Tryz.prog 84 Tryz.f84 x84:=aj Tryz.func84 rfl rfl
theorem abM:aM Tryz.prog 85 Tryz.f85 x85:=aj Tryz.func85 rfl rfl
theorem abL:aM Tryz.prog 86 Tryz.f86 x86:=aj Tryz.func86 rfl rfl
theorem abK:aM Tryz.prog 87 Tryz.f87 x87:=aj Tryz.func87 rfl rfl
theorem abJ:aM Tryz.prog 88 Tryz.f88 x88:=aj Tryz.func88 rfl rfl
theorem abI:aM Tryz.prog 89 Tryz.f89 x89:=aj Tryz.func89 rfl rfl
theorem abH:aM Tryz.prog 90 Tryz.f90 x90:=aj Tryz.func90 rfl rfl
theorem abG:aM Tryz.prog 91 Tryz.f91 x91:=aj Tryz.func91 rfl rfl
theorem abF:aM Tryz.prog 92 Tryz.f92 x92:=aj Tryz.func92 rfl rfl
theorem abE:aM Tryz.prog 93 Tryz.f93 x93:=aj Tryz.func93 rfl rfl
theorem abD:aM Tryz.prog 94 Tryz.f94 x94:=aj Tryz.func94 rfl rfl
theorem abC:aM Tryz.prog 95 Tryz.f95 x95:=aj Tryz.func95 rfl rfl
theorem abB:aM Tryz.prog 96 Tryz.f96 x96:=aj Tryz.func96 rfl rfl
theorem abA:aM Tryz.prog 97 Tryz.f97 x97:=aj Tryz.func97 rfl rfl
theorem abz:aM Tryz.prog 98 Tryz.f98 x98:=aj Tryz.func98 rfl rfl
theorem aby:aM Tryz.prog 99 Tryz.f99 x99:=aj Tryz.func99 rfl rfl
theorem WZ:aM Tryz.prog 100 Tryz.f100 QE:=aj Tryz.func100 rfl rfl
theorem WY:aM Tryz.prog 101 Tryz.f101 QD:=aj Tryz.func101 rfl rfl
theorem WX:aM Tryz.prog 102 Tryz.f102 QC:=aj Tryz.func102 rfl rfl
theorem WW:aM Tryz.prog 103 Tryz.f103 QB:=aj Tryz.func103 rfl rfl
theorem WV:aM Tryz.prog 104 Tryz.f104 QA:=aj Tryz.func104 rfl rfl
theorem WU:aM Tryz.prog 105 Tryz.f105 Qz:=aj Tryz.func105 rfl rfl
theorem WT:aM Tryz.prog 106 Tryz.f106 Qy:=aj Tryz.func106 rfl rfl
theorem WR:aM Tryz.prog 107 Tryz.f107 Qx:=aj Tryz.func107 rfl rfl
theorem WQ:aM Tryz.prog 108 Tryz.f108 Qw:=aj Tryz.func108 rfl rfl
theorem WO:aM Tryz.prog 109 Tryz.f109 Qv:=aj Tryz.func109 rfl rfl
theorem WN:aM Tryz.prog 110 Tryz.f110 Qu:=aj Tryz.func110 rfl rfl
theorem WM:aM Tryz.prog 111 Tryz.f111 Qt:=aj Tryz.func111 rfl rfl
theorem WL:aM Tryz.prog 112 Tryz.f112 Qs:=aj Tryz.func112 rfl rfl
theorem WK:aM Tryz.prog 113 Tryz.f113 Qr:=aj Tryz.func113 rfl rfl
theorem WJ:aM Tryz.prog 114 Tryz.f114 Qq:=aj Tryz.func114 rfl rfl
theorem WH:aM Tryz.prog 115 Tryz.f115 Qp:=aj Tryz.func115 rfl rfl
theorem WG:aM Tryz.prog 124 Tryz.f124 Qo:=aj Tryz.func124 rfl rfl
theorem WE:aM Tryz.prog 125 Tryz.f125 Qn:=aj Tryz.func125 rfl rfl
theorem WD:aM Tryz.prog 126 Tryz.f126 Qm:=aj Tryz.func126 rfl rfl
theorem WB:aM Tryz.prog 127 Tryz.f127 Ql:=aj Tryz.func127 rfl rfl
theorem WA:aM Tryz.prog 128 Tryz.f128 Qk:=aj Tryz.func128 rfl rfl
theorem Wz:aM Tryz.prog 129 Tryz.f129 Qj:=aj Tryz.func129 rfl rfl
theorem Wy:aM Tryz.prog 130 Tryz.f130 Qi:=aj Tryz.func130 rfl rfl
theorem Wx:aM Tryz.prog 131 Tryz.f131 Qh:=aj Tryz.func131 rfl rfl
theorem Ww:aM Tryz.prog 132 Tryz.f132 Qg:=aj Tryz.func132 rfl rfl
theorem Wv:aM Tryz.prog 133 Tryz.f133 Qf:=aj Tryz.func133 rfl rfl
theorem Wu:aM Tryz.prog 134 Tryz.f134 Qe:=aj Tryz.func134 rfl rfl
theorem Wt:aM Tryz.prog 135 Tryz.f135 Qd:=aj Tryz.func135 rfl rfl
theorem Ws:aM Tryz.prog 136 Tryz.f136 Qc:=aj Tryz.func136 rfl rfl
theorem Wr:aM Tryz.prog 137 Tryz.f137 Qb:=aj Tryz.func137 rfl rfl
theorem Wq:aM Tryz.prog 138 Tryz.f138 Qa:=aj Tryz.func138 rfl rfl
theorem Wp:aM Tryz.prog 139 Tryz.f139 P_:=aj Tryz.func139 rfl rfl
theorem Wo:aM Tryz.prog 140 Tryz.f140 P9:=aj Tryz.func140 rfl rfl
theorem Wn:aM Tryz.prog 141 Tryz.f141 P8:=aj Tryz.func141 rfl rfl
theorem Wm:aM Tryz.prog 142 Tryz.f142 P7:=aj Tryz.func142 rfl rfl
theorem Wl:aM Tryz.prog 143 Tryz.f143 P6:=aj Tryz.func143 rfl rfl
theorem Wk:aM Tryz.prog 144 Tryz.f144 P5:=aj Tryz.func144 rfl rfl
theorem Wj:aM Tryz.prog 145 Tryz.f145 P4:=aj Tryz.func145 rfl rfl
theorem Wi:aM Tryz.prog 146 Tryz.f146 P3:=aj Tryz.func146 rfl rfl
theorem Wh:aM Tryz.prog 147 Tryz.f147 P2:=aj Tryz.func147 rfl rfl
theorem Wg:aM Tryz.prog 148 Tryz.f148 P1:=aj Tryz.func148 rfl rfl
theorem Wf:aM Tryz.prog 149 Tryz.f149 P0:=aj Tryz.func149 rfl rfl
theorem We:aM Tryz.prog 150 Tryz.f150 PZ:=aj Tryz.func150 rfl rfl
theorem Wd:aM Tryz.prog 151 Tryz.f151 PY:=aj Tryz.func151 rfl rfl
theorem Wc:aM Tryz.prog 152 Tryz.f152 PX:=aj Tryz.func152 rfl rfl
theorem Wb:aM Tryz.prog 153 Tryz.f153 PW:=aj Tryz.func153 rfl rfl
theorem Wa:aM Tryz.prog 154 Tryz.f154 PV:=aj Tryz.func154 rfl rfl
theorem V_:aM Tryz.prog 155 Tryz.f155 PU:=aj Tryz.func155 rfl rfl
theorem V9:aM Tryz.prog 156 Tryz.f156 PT:=aj Tryz.func156 rfl rfl
theorem V8:aM Tryz.prog 157 Tryz.f157 PS:=aj Tryz.func157 rfl rfl
theorem V7:aM Tryz.prog 158 Tryz.f158 PR:=aj Tryz.func158 rfl rfl
theorem V6:aM Tryz.prog 159 Tryz.f159 PQ:=aj Tryz.func159 rfl rfl
theorem V5:aM Tryz.prog 160 Tryz.f160 PO:=aj Tryz.func160 rfl rfl
theorem V4:aM Tryz.prog 161 Tryz.f161 PN:=aj Tryz.func161 rfl rfl
theorem V3:aM Tryz.prog 162 Tryz.f162 PM:=aj Tryz.func162 rfl rfl
theorem V2:aM Tryz.prog 163 Tryz.f163 PL:=aj Tryz.func163 rfl rfl
theorem V1:aM Tryz.prog 164 Tryz.f164 PK:=aj Tryz.func164 rfl rfl
theorem V0:aM Tryz.prog 198 Tryz.f198 PJ:=aj Tryz.func198 rfl rfl
theorem VZ:aM Tryz.prog 199 Tryz.f199 PI:=aj Tryz.func199 rfl rfl
theorem VY:aM Tryz.prog 200 Tryz.f200 PH:=aj Tryz.func200 rfl rfl
theorem VX:aM Tryz.prog 201 Tryz.f201 PG:=aj Tryz.func201 rfl rfl
theorem VW:aM Tryz.prog 202 Tryz.f202 PF:=aj Tryz.func202 rfl rfl
theorem VV:aM Tryz.prog 203 Tryz.f203 PE:=aj Tryz.func203 rfl rfl
theorem VU:aM Tryz.prog 204 Tryz.f204 PD:=aj Tryz.func204 rfl rfl
theorem VS:aM Tryz.prog 205 Tryz.f205 PB:=aj Tryz.func205 rfl rfl
theorem VR:aM Tryz.prog 206 Tryz.f206 PA:=aj Tryz.func206 rfl rfl
theorem VQ:aM Tryz.prog 207 Tryz.f207 Pz:=aj Tryz.func207 rfl rfl
theorem VO:aM Tryz.prog 208 Tryz.f208 Py:=aj Tryz.func208 rfl rfl
theorem VN:aM Tryz.prog 209 Tryz.f209 Px:=aj Tryz.func209 rfl rfl
theorem VM:aM Tryz.prog 210 Tryz.f210 Pw:=aj Tryz.func210 rfl rfl
theorem VL:aM Tryz.prog 211 Tryz.f211 Pv:=aj Tryz.func211 rfl rfl
theorem VJ:aM Tryz.prog 212 Tryz.f212 Pu:=aj Tryz.func212 rfl rfl
theorem VI:aM Tryz.prog 213 Tryz.f213 Pt:=aj Tryz.func213 rfl rfl
theorem VH:aM Tryz.prog 214 Tryz.f214 Ps:=aj Tryz.func214 rfl rfl
theorem VG:aM Tryz.prog 215 Tryz.f215 Pr:=aj Tryz.func215 rfl rfl
theorem VF:aM Tryz.prog 216 Tryz.f216 Pq:=aj Tryz.func216 rfl rfl
theorem VE:aM Tryz.prog 217 Tryz.f217 Pp:=aj Tryz.func217 rfl rfl
theorem VC:aM Tryz.prog 218 Tryz.f218 Po:=aj Tryz.func218 rfl rfl
theorem VB:aM Tryz.prog 219 Tryz.f219 Pn:=aj Tryz.func219 rfl rfl
theorem VA:aM Tryz.prog 220 Tryz.f220 Pm:=aj Tryz.func220 rfl rfl
theorem Vz:aM Tryz.prog 221 Tryz.f221 Pk:=aj Tryz.func221 rfl rfl
theorem Vy:aM Tryz.prog 222 Tryz.f222 Pj:=aj Tryz.func222 rfl rfl
theorem Vx:aM Tryz.prog 234 Tryz.f234 Ph:=aj Tryz.func234 rfl rfl
theorem Vw:aM Tryz.prog 235 Tryz.f235 Pg:=aj Tryz.func235 rfl rfl
theorem Vv:aM Tryz.prog 236 Tryz.f236 Pf:=aj Tryz.func236 rfl rfl
theorem AP:aM Tryz.prog 237 Tryz.f237 Pe:=aj Tryz.func237 rfl rfl
theorem Vu:aM Tryz.prog 242 Tryz.f242 Pd:=aj Tryz.func242 rfl rfl
theorem FG:xF Tryz.prog fns:=NG (.no (.no (.no (.no (.yes acH (.yes acv (.yes ab4 (.yes WB (.nil _ _) (.nil _ _)) (.nil _ _)) (.yes abC (.yes V6 (.nil _ _) (.nil _ _)) (.nil _ _))) (.yes ack (.yes abS (.yes Wl (.nil _ _) (.nil _ _)) (.yes VQ (.nil _ _) (.nil _ _))) (.yes WM (.nil _ _) (.nil _ _)))) (.no (.yes acq (.no (.yes Wt (.nil _ _) (.nil _ _)) (.yes VZ (.nil _ _) (.nil _ _))) (.yes WW (.nil _ _) (.nil _ _))) (.yes acb (.yes abK (.yes Wd (.nil _ _) (.nil _ _)) (.yes VG (.nil _ _) (.nil _ _))) (.nil _ _)))) (.yes acK (.yes acD (.yes I5 (.yes ab0 (.yes Wx (.nil _ _) (.nil _ _)) (.nil _ _)) (.yes aby (.yes V2 (.nil _ _) (.nil _ _)) (.nil _ _))) (.yes acg (.yes abO (.yes Wh (.nil _ _) (.nil _ _)) (.yes VL (.nil _ _) (.nil _ _))) (.yes WH (.nil _ _) (.nil _ _)))) (.yes acz (.no (.yes abW (.yes Wp (.nil _ _) (.nil _ _)) (.yes VV (.nil _ _) (.nil _ _))) (.yes WR (.nil _ _) (.yes Vw (.nil _ _) (.nil _ _)))) (.yes ab8 (.yes abG (.yes V_ (.nil _ _) (.nil _ _)) (.yes VB (.nil _ _) (.nil _ _))) (.nil _ _))))) (.no (.yes fk9 (.yes acF (.no (.yes ab2 (.yes Wz (.nil _ _) (.nil _ _)) (.nil _ _)) (.yes abA (.yes V4 (.nil _ _) (.nil _ _)) (.nil _ _))) (.yes aci (.yes abQ (.yes Wj (.nil _ _) (.nil _ _)) (.yes VN (.nil _ _) (.nil _ _))) (.yes WK (.nil _ _) (.nil _ _)))) (.no (.yes aco (.no (.yes Wr (.nil _ _) (.nil _ _)) (.yes VX (.nil _ _) (.nil _ _))) (.yes WU (.nil _ _) (.nil _ _))) (.yes ab_ (.yes abI (.yes Wb (.nil _ _) (.nil _ _)) (.yes VE (.nil _ _) (.nil _ _))) (.nil _ _)))) (.yes acJ (.yes acB (.yes acs (.yes abY (.yes Wv (.nil _ _) (.nil _ _)) (.nil _ _)) (.yes WY (.nil _ _) (.nil _ _))) (.yes ace (.yes abM (.yes Wf (.nil _ _) (.nil _ _)) (.yes VI (.nil _ _) (.nil _ _))) (.nil _ _))) (.yes acx (.no (.yes abU (.yes Wn (.nil _ _) (.nil _ _)) (.yes VS (.nil _ _) (.nil _ _))) (.yes WO (.nil _ _) (.yes AP (.nil _ _) (.nil _ _)))) (.yes ab6 (.yes abE (.yes V8 (.nil _ _) (.nil _ _)) (.yes Vz (.nil _ _) (.nil _ _))) (.yes WE (.nil _ _) (.nil _ _))))))) (.no (.no (.yes fk8 (.yes acG (.yes acu (.yes ab3 (.yes WA (.nil _ _) (.nil _ _)) (.nil _ _)) (.yes abB (.yes V5 (.nil _ _) (.nil _ _)) (.nil _ _))) (.yes acj (.yes abR (.yes Wk (.nil _ _) (.nil _ _)) (.yes VO (.nil _ _) (.nil _ _))) (.yes WL (.nil _ _) (.nil _ _)))) (.no (.yes acp (.no (.yes Ws (.nil _ _) (.nil _ _)) (.yes VY (.nil _ _) (.nil _ _))) (.yes WV (.nil _ _) (.nil _ _))) (.yes aca (.yes abJ (.yes Wc (.nil _ _) (.nil _ _)) (.yes VF (.nil _ _) (.nil _ _))) (.nil _ _)))) (.no (.yes acC (.yes I4 (.yes abZ (.yes Ww (.nil _ _) (.nil _ _)) (.nil _ _)) (.yes WZ (.yes V1 (.nil _ _) (.nil _ _)) (.nil _ _))) (.yes acf (.yes abN (.yes Wg (.nil _ _) (.nil _ _)) (.yes VJ (.nil _ _) (.nil _ _))) (.nil _ _))) (.yes acy (.no (.yes abV (.yes Wo (.nil _ _) (.nil _ _)) (.yes VU (.nil _ _) (.nil _ _))) (.yes WQ (.nil _ _) (.yes Vv (.nil _ _) (.nil _ _)))) (.yes ab7 (.yes abF (.yes V9 (.nil _ _) (.nil _ _)) (.yes VA (.nil _ _) (.nil _ _))) (.yes WG (.nil _ _) (.nil _ _)))))) (.no (.yes acL (.yes acE (.no (.yes ab1 (.yes Wy (.nil _ _) (.nil _ _)) (.nil _ _)) (.yes abz (.yes V3 (.nil _ _) (.nil _ _)) (.nil _ _))) (.yes ach (.yes abP (.yes Wi (.nil _ _) (.nil _ _)) (.yes VM (.nil _ _) (.nil _ _))) (.yes WJ (.nil _ _) (.yes Vu (.nil _ _) (.nil _ _))))) (.yes acA (.yes acn (.yes abX (.yes Wq (.nil _ _) (.nil _ _)) (.yes VW (.nil _ _) (.nil _ _))) (.yes WT (.nil _ _) (.yes Vx (.nil _ _) (.nil _ _)))) (.yes ab9 (.yes abH (.yes Wa (.nil _ _) (.nil _ _)) (.yes VC (.nil _ _) (.nil _ _))) (.nil _ _)))) (.yes acI (.no (.yes acr (.no (.yes Wu (.nil _ _) (.nil _ _)) (.yes V0 (.nil _ _) (.nil _ _))) (.yes WX (.nil _ _) (.nil _ _))) (.yes acd (.yes abL (.yes We (.nil _ _) (.nil _ _)) (.yes VH (.nil _ _) (.nil _ _))) (.nil _ _))) (.yes acw (.yes acm (.yes abT (.yes Wm (.nil _ _) (.nil _ _)) (.yes VR (.nil _ _) (.nil _ _))) (.yes WN (.nil _ _) (.nil _ _))) (.yes ab5 (.yes abD (.yes V7 (.nil _ _) (.nil _ _)) (.yes Vy (.nil _ _) (.nil _ _))) (.yes WD (.nil _ _) (.nil _ _))))))))
end Go.Proofs.YtklkjncibchelaaGreat