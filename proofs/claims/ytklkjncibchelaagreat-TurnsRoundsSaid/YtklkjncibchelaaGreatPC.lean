/- Texts of one proof, put together: see each part. -/
import Derived.LoopNIn
import Derived.Test.YtklkjncibchelaaGreatRows
import Derived.Test.YtklkjncibchelaaGreatPB
set_option maxHeartbeats 2000000
noncomputable section
set_option linter.unusedVariables false
set_option linter.unusedSimpArgs false
namespace Go.Bm
section
open Go.RowKit
def vO {α:Type} (p:α→Bool):Option α→Bool
 | some x=>p x
 | none=>true
def sd {α:Type} (p:α→Bool) (t:Tr α):Bool:=
 Tr.rec (motive:=fun _=>Bool) true (fun _ v _ a b=>vO p v && a && b) t
theorem mf {α:Type} {p:α→Bool}:∀{t:Tr α} (_:sd p t=true) (i:Nat) (x:α),t.get i=some x→p x=true
 | .nil,_,i,x,e=>by rw [Tr.get_nil] at e;cases e
 | .node l v r,h,i,x,e=>by
  have h:(vO p v && sd p l && sd p r)=true:=h
  simp only [zC] at h
  cases i with
  | zero=>rw [Tr.jO] at e;subst e;exact h.1.1
  | succ i=>
   rw [Tr.gP] at e
   cases hb:Nat.beq (i%2) 0 with
   | true=>rw [hb] at e;exact mf h.1.2 _ x e
   | false=>rw [hb] at e;exact mf h.2 _ x e
def Kl (N:Nat):f_→Bool
 | .cells cs=>cs.all (tx N 6)
 | .one _ _=>true
 | .row _ _=>true
 | .cN (.map es)=>es.all fun e=>tx N 6 e.1 && tx N 6 e.2
 | .cN .zi=>true
 | .cN (.loop _ _)=>true
theorem Cz {N:Nat} {F:Tr A} (h:sd (tx N 6) F=true) (i:Nat):VP N (aZ F.get i):=by
 unfold aZ
 split
 ·rename_i p hp;exact fU 6 p (mf h i p hp)
 ·exact fU 1 _ rfl
theorem G2 {N:Nat} {x:f_} (h:Kl N x=true):FV N x.low:=by
 cases x with
 | cells cs=>
  have h:cs.all (tx N 6)=true:=h
  rw [List.all_eq_true] at h
  exact fun c hc=>fU 6 c (h c hc)
 | one t x=>exact iK t x
 | row t l=>exact fun c hc=>by obtain ⟨y,_,hy⟩:=List.mem_flatMap.1 hc;exact iK t y c hy
 | cN x=>
  cases x with
  | map es=>
   have h:(es.all fun e=>tx N 6 e.1 && tx N 6 e.2)=true:=h
   rw [List.all_eq_true] at h
   exact fun e he=>by have:=h e he;rw [zC] at this;exact ⟨fU 6 _ this.1,fU 6 _ this.2⟩
  | zi=>trivial
  | loop=>trivial
def ckT (k:Bool×Ty):Bool×Ty:=(false,match k.1 with | true=>.aI k.2 | false=>k.2)
def KY (l:List (Bool×Ty)):List (Bool×Ty):=l.map ckT
def CB:List ((Nat×Option Nat)×List (Bool×Ty))→Type
 | []=>Unit
 | p::l=>jU (KY p.2)×CB l
def m8:List (Bool×Ty)→Nat
 | []=>0
 | (true,_)::l=>m8 l+1
 | (false,_)::l=>m8 l
def pk:List ((Nat×Option Nat)×List (Bool×Ty))→Nat
 | []=>0
 | p::l=>m8 p.2+pk l
def LH.S (H:LH):Type:=jU (H.mV.map (·.2))×jU (H.grow.map fun p=>(false,Ty.aI p.2))×jU (H.boxes.map fun p=>(false,p.2))×CB H.wh×pY H.iN
def LH.m (H:LH):Nat:=H.grow.length+pk H.wh
section
variable {β:Type}
def DO:List Nat→Tr A→(Tr A→Option β)→Option β
 | [],F,k=>k F
 | i::l,F,k=>eP F i (some .cD) (fun F=>DO l F k)
def WV:(l:List (Nat×Bool×Ty))→jU (l.map (·.2))→Tr A→(Tr A→Option β)→Option β
 | [],_,F,k=>k F
 | p::l,x,F,k=>NI (bK p.2.1 p.2.2 x.1) (fun c=>eP F p.1 (some c) (fun F=>WV l x.2 F k))
def YD:List (Nat×Ty)→Nat→Tr A→(Tr A→Option β)→Option β
 | [],_,F,k=>k F
 | p::l,i,F,k=>eP F p.1 (some (.tw (.loc i) p.2.size)) (fun F=>YD l (i+1) F k)
def EV:List Nat→Tr f_→(Tr f_→Option β)→Option β
 | [],t,k=>k t
 | i::l,t,k=>eP t i none (fun t=>EV l t k)
def YG:(l:List ((Nat×Option Nat)×Ty))→List Nat→jU (l.map fun p=>(false,p.2))→Tr f_→(Tr f_→Option β)→Option β
 | [],_,_,t,k=>k t
 | p::l,b::bs,x,t,k=>eP t b (some (.one p.2 x.1)) (fun t=>YG l bs x.2 t k)
 | _::_,[],_,_,_=>none
def YE:(l:List (Nat×Ty))→Nat→jU (l.map fun p=>(false,Ty.aI p.2))→Tr f_→(Tr f_→Option β)→Option β
 | [],_,_,t,k=>k t
 | p::l,i,x,t,k=>eP t i (some (.row p.2 x.1)) (fun t=>YE l (i+1) x.2 t k)
def MU:(ks:List (Bool×Ty))→jU (KY ks)→Nat→List A
 | [],_,_=>[]
 | (true,t)::l,x,i=>.tw (.loc i) t.size::MU l x.2 (i+1)
 | (false,t)::l,x,i=>bK false t x.1::MU l x.2 i
def WW:(ks:List (Bool×Ty))→jU (KY ks)→Nat→Tr f_→(Tr f_→Option β)→Option β
 | [],_,_,t,k=>k t
 | (true,u)::l,x,i,t,k=>eP t i (some (.row u x.1)) (fun t=>WW l x.2 (i+1) t k)
 | (false,_)::l,x,i,t,k=>WW l x.2 i t k
def YF:(l:List ((Nat×Option Nat)×List (Bool×Ty)))→List Nat→Nat→CB l→Tr f_→(Tr f_→Option β)→Option β
 | [],_,_,_,t,k=>k t
 | p::l,b::bs,i,x,t,k=>eP t b (some (.cells (MU p.2 x.1 i))) (fun t=>WW p.2 x.1 i t (fun t=>YF l bs (i+m8 p.2) x.2 t k))
 | _::_,[],_,_,_,_=>none
def Bn (H:LH) (kP bs cs cX:List Nat) (Fe:Tr A) (he:Go.Bm.H) (s:H.S) (k:Tr A→Go.Bm.H→Option β):Option β:=
 DO kP Fe (fun F=>WV H.mV s.1 F (fun F=>YD H.grow he.aS F (fun F=>EV (cX++(bs++cs)) he.t (fun t=>YG H.boxes bs s.2.2.1 t (fun t=>YF H.wh cs (he.aS+H.grow.length) s.2.2.2.1 t (fun t=>YE H.grow he.aS s.2.1 t (fun t=>k F ⟨t,he.aS+H.m,jY H.iN s.2.2.2.2 he.rg,he.lk⟩)))))))
def WG (n:Nat):(l:List (Nat×Bool×Ty))→Tr A→Option (jU (l.map (·.2)))
 | [],_=>some ()
 | p::l,F=>bif Nat.blt p.1 n then (match kA p.2.1 p.2.2 (aZ F.get p.1),WG n l F with
  | some x,some y=>some (x,y)
  | _,_=>none) else none
def Gw (t:Ty) (h:Tr f_):A→Option (List t.T×Option Nat)
 | .tw (.loc o) z=>match h.get o with
  | some (.row t' l)=>bif Nat.beq z t.size && Nat.blt o 16777216 then (match fp (.aI t') (.aI t) l with
   | some l=>some (l,some o)
   | none=>none) else none
  | _=>none
 | .e0=>some ([],none)
 | .v (.slice none 0 0)=>some ([],none)
 | _=>none
def Kg (n:Nat):(l:List (Nat×Ty))→Tr A→Tr f_→Option (jU (l.map fun p=>(false,Ty.aI p.2))×List (Option Nat))
 | [],_,_=>some ((),[])
 | p::l,F,t=>bif Nat.blt p.1 n then (match Gw p.2 t (aZ F.get p.1),Kg n l F t with
  | some x,some y=>some ((x.1,y.1),x.2::y.2)
  | _,_=>none) else none
def WH:(l:List ((Nat×Option Nat)×Ty))→List Nat→Tr f_→Option (jU (l.map fun p=>(false,p.2)))
 | [],_,_=>some ()
 | p::l,b::bs,t=>match t.get b with
  | some (.one t' x)=>match fp t' p.2 x,WH l bs t with
   | some x,some y=>some (x,y)
   | _,_=>none
  | _=>none
 | _::_,[],_=>none
def Lu:(ks:List (Bool×Ty))→List A→Tr f_→Option (jU (KY ks)×List (Option Nat))
 | [],[],_=>some ((),[])
 | (true,u)::l,c::cs,t=>match Gw u t c,Lu l cs t with
  | some x,some y=>some ((x.1,y.1),x.2::y.2)
  | _,_=>none
 | (false,u)::l,c::cs,t=>match kA false u c,Lu l cs t with
  | some x,some y=>some ((x,y.1),y.2)
  | _,_=>none
 | _,_,_=>none
def C_:(l:List ((Nat×Option Nat)×List (Bool×Ty)))→List Nat→Tr f_→Option (CB l×List (Option Nat))
 | [],_,_=>some ((),[])
 | p::l,b::bs,t=>match t.get b with
  | some (.cells cs)=>match Lu p.2 cs t,C_ l bs t with
   | some x,some y=>some ((x.1,y.1),x.2++y.2)
   | _,_=>none
  | _=>none
 | _::_,[],_=>none
def CW (t:Tr f_) (q:Nat):Bool:=match t.get q with
 | some (.cN (.loop .ready none))=>true
 | _=>false
def MT (N:Nat) (bs cX:List Nat) (iN:List (Nat×RK)) (ws:List Nat):Bool:=
 ws.all fun q=>bif Nat.beq (q%2) 0 then Nat.ble N (q / 2) || bs.any (Nat.beq (q / 2)) || cX.any (Nat.beq (q / 2)) else iN.any fun p=>Nat.beq q (g7 p.1)
def Xe:List Nat→List Nat→Bool
 | [],[]=>true
 | a::l,b::k=>Nat.beq a b && Xe l k
 | _,_=>false
theorem EK:∀{l k:List Nat},Xe l k=true→l=k
 | [],[],_=>rfl
 | a::l,b::k,h=>by
  have h:(Nat.beq a b && Xe l k)=true:=h
  rw [zC] at h
  rw [beq_eq h.1,EK h.2]
def Du (q:Nat):Option Nat→Bool
 | some o=>Nat.beq q o
 | none=>false
def A9 (N:Nat) (cX:List Nat):List (Option Nat)→Bool
 | []=>true
 | none::l=>A9 N cX l
 | some o::l=>(Nat.ble N o || cX.any (Nat.beq o)) && !(l.any (Du o)) && A9 N cX l
def B0 (H:LH) (n N:Nat) (bs cs qs cX NJ:List Nat) (F:Tr A) (h:Go.Bm.H) (ds:List Nat) (T:Fp):Option H.S:=
 bif MT N (bs++cs++qs) cX H.iN T.ws && Xe ds NJ && qs.all (CW h.t) then (match WG n H.mV F,Kg n H.grow F h.t,WH H.boxes bs h.t,C_ H.wh cs h.t,xH H.iN h.rg with
 | some v,some g,some b,some e,some c=>bif A9 N cX (g.2++e.2) then some (v,g.1,b,e.1,c) else none
 | _,_,_,_,_=>none) else none
def K0:A→Option Nat
 | .tp (.loc b) []=>some b
 | .ptr b 0=>some b
 | _=>none
def Xq (F:Tr A) (p:Nat×Option Nat):Option Nat:=match p.2 with
 | none=>K0 (aZ F.get p.1)
 | some j=>match aZ F.get p.1 with
  | .rA _ _ F' _ _ _ _=>K0 (aZ F'.get j)
  | _=>none
def MC:List (Nat×Option Nat)→Tr A→Option (List Nat)
 | [],_=>some []
 | p::l,F=>match Xq F p,MC l F with
  | some b,some bs=>some (b::bs)
  | _,_=>none
def Vq:List Nat→Tr A→Option (List Nat)
 | [],_=>some []
 | p::l,F=>match aZ F.get p,Vq l F with
  | .rA q _ _ _ _ _ _,some bs=>some (q::bs)
  | _,_=>none
def MA:List (Nat×Ty)→Tr A→List Nat
 | [],_=>[]
 | p::l,F=>match aZ F.get p.1 with
  | .tw (.loc o) _=>o::MA l F
  | _=>MA l F
def Mz:List A→List Nat
 | []=>[]
 | .tw (.loc o) _::l=>o::Mz l
 | _::l=>Mz l
def MB (t:Tr f_):List Nat→List Nat
 | []=>[]
 | b::l=>match t.get b with
  | some (.cells cs)=>Mz cs++MB t l
  | _=>MB t l
structure Gd where
 bs:List Nat
 cs:List Nat
 qs:List Nat
 cX:List Nat
def H5 (H:LH) (F:Tr A) (h:Go.Bm.H):Option Gd:=match MC (H.boxes.map (·.1)) F,MC (H.wh.map (·.1)) F,Vq H.loops F with
 | some bs,some cs,some qs=>some ⟨bs,cs,qs,MA H.grow F++MB h.t cs⟩
 | _,_,_=>none
def zh (H:LH) (E:Gd) (ds:List Nat) (F:Tr A) (h:Go.Bm.H):Bool:=
 sd (tx h.aS 6) F && sd (Kl h.aS) h.t && Nat.ble (h.aS+H.m) 16777216 && (E.bs++E.cs).all (fun b=>Nat.blt b h.aS) && E.cX.all (fun b=>Nat.blt b h.aS) && ds.all (fun b=>Nat.blt b h.aS) && (E.bs++E.cs).all (fun b=>!(E.cX.any (Nat.beq b))) && E.qs.all (fun q=>CW h.t q && !((E.cX++(E.bs++E.cs)).any (Nat.beq q))) && H.iN.all fun p=>Option.isSome (bn h.rg p.1)
def jT (H:LH) (N:Nat) (E:Gd):Fp:=⟨true,[],true,((E.bs++E.cs).map dk++E.cX.map dk)++((List.range H.m).map (fun k=>dk (N+k))++H.iN.map fun p=>g7 p.1)⟩
variable {r:β}
theorem nE {F F':Tr A} {d:Nat} {p:A} (e:F'.get=fun m=>if m=d then some p else F.get m) (i:Nat):aZ F'.get i=if i=d then p else aZ F.get i:=by
 unfold aZ
 rw [e]
 by_cases h:i=d
 ·simp [h]
 ·simp [h]
theorem sA:∀(l:List Nat) (F:Tr A) (k:Tr A→Option β),DO l F k=some r→∃F',k F'=some r∧∀aY:Nat→A→Prop,(∀i∈l,aY i .cD)→(∀i,i∉l→aY i (aZ F.get i))→∀i,aY i (aZ F'.get i)
 | [],F,k,h=>⟨F,h,fun aY _ h2 i=>h2 i (by simp)⟩
 | d::l,F,k,h=>by
  obtain ⟨_,F1,k1,k2⟩:=bm h
  obtain ⟨F',q1,q2⟩:=sA l F1 k k1
  refine ⟨F',q1,fun aY h1 h2=>q2 aY (fun i hi=>h1 i (.tail _ hi)) (fun i hi=>?_)⟩
  rw [nE k2]
  by_cases hd:i=d
  ·rw [if_pos hd];exact h1 i (by rw [hd];exact .head _)
  ·rw [if_neg hd];exact h2 i (by simp [hd,hi])
def Fm (aY:Nat→A→Prop):(l:List (Nat×Bool×Ty))→jU (l.map (·.2))→Prop
 | [],_=>True
 | p::l,x=>aY p.1 (bK p.2.1 p.2.2 x.1)∧Fm aY l x.2
def Fl (aY:Nat→A→Prop):List (Nat×Ty)→Nat→Prop
 | [],_=>True
 | p::l,i=>aY p.1 (.tw (.loc i) p.2.size)∧Fl aY l (i+1)
def Fs (aY:Nat→Option Ob→Prop):(l:List ((Nat×Option Nat)×Ty))→List Nat→jU (l.map fun p=>(false,p.2))→Prop
 | [],_,_=>True
 | p::l,b::bs,x=>aY b (some (.cells (aA p.2 x.1)))∧Fs aY l bs x.2
 | _::_,[],_=>True
def Fo (aY:Nat→Option Ob→Prop):(l:List (Nat×Ty))→Nat→jU (l.map fun p=>(false,Ty.aI p.2))→Prop
 | [],_,_=>True
 | p::l,i,x=>aY i (some (.cells (List.flatMap (α:=p.2.T) (aA p.2) x.1)))∧Fo aY l (i+1) x.2
def BP (aY:Nat→Option Ob→Prop):(ks:List (Bool×Ty))→jU (KY ks)→Nat→Prop
 | [],_,_=>True
 | (true,u)::l,x,i=>aY i (some (.cells (List.flatMap (α:=u.T) (aA u) x.1)))∧BP aY l x.2 (i+1)
 | (false,_)::l,x,i=>BP aY l x.2 i
def Fq (aY:Nat→Option Ob→Prop):(l:List ((Nat×Option Nat)×List (Bool×Ty)))→List Nat→Nat→CB l→Prop
 | [],_,_,_=>True
 | p::l,b::bs,i,x=>aY b (some (.cells (MU p.2 x.1 i)))∧BP aY p.2 x.1 i∧Fq aY l bs (i+m8 p.2) x.2
 | _::_,[],_,_=>True
theorem yT:∀(l:List (Nat×Bool×Ty)) (x:jU (l.map (·.2))) (F:Tr A) (k:Tr A→Option β),WV l x F k=some r→∃F',k F'=some r∧∀aY:Nat→A→Prop,Fm aY l x→(∀i,aY i (aZ F.get i))→∀i,aY i (aZ F'.get i)
 | [],_,F,k,h=>⟨F,h,fun aY _ h2=>h2⟩
 | p::l,x,F,k,h=>by
  unfold WV at h
  rw [xM] at h
  obtain ⟨_,F1,k1,k2⟩:=bm h
  obtain ⟨F',q1,q2⟩:=yT l x.2 F1 k k1
  refine ⟨F',q1,fun aY h1 h2=>q2 aY h1.2 (fun i=>?_)⟩
  rw [nE k2]
  by_cases hd:i=p.1
  ·rw [if_pos hd,hd];exact h1.1
  ·rw [if_neg hd];exact h2 i
theorem yS:∀(l:List (Nat×Ty)) (j:Nat) (F:Tr A) (k:Tr A→Option β),YD l j F k=some r→∃F',k F'=some r∧∀aY:Nat→A→Prop,Fl aY l j→(∀i,aY i (aZ F.get i))→∀i,aY i (aZ F'.get i)
 | [],_,F,k,h=>⟨F,h,fun aY _ h2=>h2⟩
 | p::l,j,F,k,h=>by
  obtain ⟨_,F1,k1,k2⟩:=bm h
  obtain ⟨F',q1,q2⟩:=yS l (j+1) F1 k k1
  refine ⟨F',q1,fun aY h1 h2=>q2 aY h1.2 (fun i=>?_)⟩
  rw [nE k2]
  by_cases hd:i=p.1
  ·rw [if_pos hd,hd];exact h1.1
  ·rw [if_neg hd];exact h2 i
theorem yn {t t':Tr f_} {d:Nat} {x:Option f_} (e:t'.get=fun m=>if m=d then x else t.get m) (i:Nat):fh t' i=if i=d then x.map f_.low else fh t i:=by
 unfold fh
 rw [e]
 by_cases h:i=d
 ·simp only [if_pos h];cases x<;>rfl
 ·simp only [if_neg h]
theorem sJ:∀(l:List Nat) (t:Tr f_) (k:Tr f_→Option β),EV l t k=some r→∃t',k t'=some r∧∀aY:Nat→Option Ob→Prop,(∀i∈l,aY i none)→(∀i,i∉l→aY i (fh t i))→∀i,aY i (fh t' i)
 | [],t,k,h=>⟨t,h,fun aY _ h2 i=>h2 i (by simp)⟩
 | d::l,t,k,h=>by
  obtain ⟨_,t1,k1,k2⟩:=bm h
  obtain ⟨t',q1,q2⟩:=sJ l t1 k k1
  refine ⟨t',q1,fun aY h1 h2=>q2 aY (fun i hi=>h1 i (.tail _ hi)) (fun i hi=>?_)⟩
  rw [yn k2]
  by_cases hd:i=d
  ·rw [if_pos hd];exact h1 i (by rw [hd];exact .head _)
  ·rw [if_neg hd];exact h2 i (by simp [hd,hi])
theorem GH {t t1:Tr f_} {d:Nat} {x:f_} {aY:Nat→Option Ob→Prop} (e:t1.get=fun m=>if m=d then some x else t.get m) (h1:aY d (some x.low)) (h2:∀i,aY i (fh t i)) (i:Nat):aY i (fh t1 i):=by
 rw [yn e]
 by_cases hd:i=d
 ·rw [if_pos hd,hd];exact h1
 ·rw [if_neg hd];exact h2 i
theorem yW:∀(l:List ((Nat×Option Nat)×Ty)) (bs:List Nat) (x:jU (l.map fun p=>(false,p.2))) (t:Tr f_) (k:Tr f_→Option β),YG l bs x t k=some r→∃t',k t'=some r∧∀aY:Nat→Option Ob→Prop,Fs aY l bs x→(∀i,aY i (fh t i))→∀i,aY i (fh t' i)
 | [],_,_,t,k,h=>⟨t,h,fun aY _ h2=>h2⟩
 | p::l,b::bs,x,t,k,h=>by
  obtain ⟨_,t1,k1,k2⟩:=bm h
  obtain ⟨t',q1,q2⟩:=yW l bs x.2 t1 k k1
  exact ⟨t',q1,fun aY h1 h2=>q2 aY h1.2 (GH k2 h1.1 h2)⟩
 | _::_,[],_,_,_,h=>by cases h
theorem yU:∀(l:List (Nat×Ty)) (j:Nat) (x:jU (l.map fun p=>(false,Ty.aI p.2))) (t:Tr f_) (k:Tr f_→Option β),YE l j x t k=some r→∃t',k t'=some r∧∀aY:Nat→Option Ob→Prop,Fo aY l j x→(∀i,aY i (fh t i))→∀i,aY i (fh t' i)
 | [],_,_,t,k,h=>⟨t,h,fun aY _ h2=>h2⟩
 | p::l,j,x,t,k,h=>by
  obtain ⟨_,t1,k1,k2⟩:=bm h
  obtain ⟨t',q1,q2⟩:=yU l (j+1) x.2 t1 k k1
  exact ⟨t',q1,fun aY h1 h2=>q2 aY h1.2 (GH k2 h1.1 h2)⟩
theorem tM:∀(ks:List (Bool×Ty)) (x:jU (KY ks)) (j:Nat) (t:Tr f_) (k:Tr f_→Option β),WW ks x j t k=some r→∃t',k t'=some r∧∀aY:Nat→Option Ob→Prop,BP aY ks x j→(∀i,aY i (fh t i))→∀i,aY i (fh t' i)
 | [],_,_,t,k,h=>⟨t,h,fun aY _ h2=>h2⟩
 | (true,u)::l,x,j,t,k,h=>by
  obtain ⟨_,t1,k1,k2⟩:=bm h
  obtain ⟨t',q1,q2⟩:=tM l x.2 (j+1) t1 k k1
  exact ⟨t',q1,fun aY h1 h2=>q2 aY h1.2 (GH k2 h1.1 h2)⟩
 | (false,_)::l,x,j,t,k,h=>tM l x.2 j t k h
theorem yV:∀(l:List ((Nat×Option Nat)×List (Bool×Ty))) (bs:List Nat) (j:Nat) (x:CB l) (t:Tr f_) (k:Tr f_→Option β),YF l bs j x t k=some r→∃t',k t'=some r∧∀aY:Nat→Option Ob→Prop,Fq aY l bs j x→(∀i,aY i (fh t i))→∀i,aY i (fh t' i)
 | [],_,_,_,t,k,h=>⟨t,h,fun aY _ h2=>h2⟩
 | p::l,b::bs,j,x,t,k,h=>by
  obtain ⟨_,t1,k1,k2⟩:=bm h
  obtain ⟨t2,k3,k4⟩:=tM p.2 x.1 j t1 _ k1
  obtain ⟨t',q1,q2⟩:=yV l bs _ x.2 t2 k k3
  exact ⟨t',q1,fun aY h1 h2=>q2 aY h1.2.2 (k4 aY h1.2.1 (GH k2 h1.1 h2))⟩
 | _::_,[],_,_,_,_,h=>by cases h
structure ov (H:LH) (kP:List Nat) (E:Gd) (Fe:Tr A) (he:Go.Bm.H) (s:H.S) (Fc:Tr A) (hc:Go.Bm.H):Prop where
 F:∀aY:Nat→A→Prop,(∀i∈kP,aY i .cD)→(∀i,i∉kP→aY i (aZ Fe.get i))→Fm aY H.mV s.1→Fl aY H.grow he.aS→∀i,aY i (aZ Fc.get i)
 t:∀aY:Nat→Option Ob→Prop,(∀i∈E.cX++(E.bs++E.cs),aY i none)→(∀i,i∉E.cX++(E.bs++E.cs)→aY i (fh he.t i))→Fs aY H.boxes E.bs s.2.2.1→Fq aY H.wh E.cs (he.aS+H.grow.length) s.2.2.2.1→Fo aY H.grow he.aS s.2.1→∀i,aY i (fh hc.t i)
 aS:hc.aS=he.aS+H.m
 rg:hc.rg=jY H.iN s.2.2.2.2 he.rg
theorem vG {H:LH} {kP:List Nat} {E:Gd} {Fe:Tr A} {he:Go.Bm.H} {s:H.S} {k:Tr A→Go.Bm.H→Option β} (h:Bn H kP E.bs E.cs E.cX Fe he s k=some r):∃Fc hc,k Fc hc=some r∧ov H kP E Fe he s Fc hc:=by
 obtain ⟨F1,k1,f1⟩:=sA _ _ _ h
 obtain ⟨F2,k2,f2⟩:=yT _ _ _ _ k1
 obtain ⟨F3,k3,f3⟩:=yS _ _ _ _ k2
 obtain ⟨t1,k4,e1⟩:=sJ _ _ _ k3
 obtain ⟨t2,k5,e2⟩:=yW _ _ _ _ _ k4
 obtain ⟨t3,k6,e3⟩:=yV _ _ _ _ _ _ k5
 obtain ⟨t4,k7,e4⟩:=yU _ _ _ _ _ k6
 exact ⟨F3,_,k7,fun aY a b c d=>f3 aY d (f2 aY c (f1 aY a b)),fun aY a b c d e=>e4 aY e (e3 aY d (e2 aY c (e1 aY a b))),rfl,rfl⟩
end
end
section
open Go.RowKit
theorem any_beq {l:List Nat} {i:Nat}:l.any (Nat.beq i)=true↔i∈l:=by
 rw [List.any_eq_true]
 exact ⟨fun ⟨x,h1,h2⟩=>by rw [beq_eq h2];exact h1,fun h=>⟨i,h,Nat.beq_refl i⟩⟩
theorem wc {N:Nat} {bs cX:List Nat} {iN:List (Nat×RK)} {T:Fp} (h:MT N bs cX iN T.ws=true) {i:Nat} (hl:i<cE) (h1:i<N) (h2:i∉cX++bs):wt T i=false:=by
 cases hx:wt T i with
 | false=>rfl
 | true=>
  unfold wt at hx
  rw [zC] at hx
  obtain ⟨q,q1,q2⟩:=List.any_eq_true.1 hx.2
  obtain rfl:=beq_eq q2
  have:=List.all_eq_true.1 h _ q1
  rw [mh hl] at this
  unfold dk at this
  rw [show Nat.beq (2*i%2) 0=true by rw [show 2*i%2=0 by omega];rfl,show 2*i / 2=i by omega] at this
  simp only [cond_true,Bool.or_eq_true] at this
  rcases this with (this | this) | this
  ·have:=Nat.le_of_ble_eq_true this;omega
  ·exact absurd (zS _ (any_beq.1 this)) h2
  ·exact absurd (zQ _ (any_beq.1 this)) h2
theorem wb {N:Nat} {bs cX:List Nat} {iN:List (Nat×RK)} {T:Fp} (h:MT N bs cX iN T.ws=true) {i:Nat} (hl:¬i<cE) (h1:dc iN (lE i)=false):wt T i=false:=by
 cases hx:wt T i with
 | false=>rfl
 | true=>
  unfold wt at hx
  rw [zC] at hx
  obtain ⟨q,q1,q2⟩:=List.any_eq_true.1 hx.2
  obtain rfl:=beq_eq q2
  have:=List.all_eq_true.1 h _ q1
  rw [oL hl] at this
  unfold g7 at this
  rw [show Nat.beq ((2*lE i+1)%2) 0=false by rw [show (2*lE i+1)%2=1 by omega];rfl] at this
  simp only [cond_false] at this
  obtain ⟨p,p1,p2⟩:=List.any_eq_true.1 this
  have e:p.1=lE i:=by have:=beq_eq p2;unfold g7 at this;omega
  rw [show dc iN (lE i)=true from List.any_eq_true.2 ⟨p,p1,by rw [e];exact Nat.beq_refl _⟩] at h1
  cases h1
theorem C8 {n:Nat} {F:Tr A} {aY:Nat→A→Prop} (hg:∀i a t x,i<n→kA a t (aZ F.get i)=some x→aY i (bK a t x)):∀(l:List (Nat×Bool×Ty)) (x:jU (l.map (·.2))),WG n l F=some x→Fm aY l x
 | [],_,_=>trivial
 | p::l,x,h=>by
  unfold WG at h
  obtain ⟨hn,h⟩:=ah h
  split at h
  ·rename_i y z h1 h2
   cases h
   exact ⟨hg _ _ _ _ (ba hn) h1,C8 hg l z h2⟩
  ·cases h
def Fw (t:Ty) (tt:Tr f_) (l:List t.T):Option Nat→Prop
 | some o=>o<cE∧fh tt o=some (.cells (l.flatMap (aA t)))
 | none=>l=[]
def wy (z:Nat) (a:A):Option Nat→Prop
 | some o=>a = .tw (.loc o) z
 | none=>∀g v,V g a v→∃ad,v = .slice ad 0 0
theorem sZ {t:Ty} {tt:Tr f_} {a:A} {l:List t.T} {nm:Option Nat} (h:Gw t tt a=some (l,nm)):Fw t tt l nm∧wy t.size a nm:=by
 unfold Gw at h
 split at h
 ·rename_i o z
  split at h
  ·rename_i t' l' h1
   obtain ⟨h2,h⟩:=ah h
   rw [zC] at h2
   split at h
   ·rename_i l1 hl1
    obtain ⟨e,e2⟩:=ck hl1
    cases e
    cases e2
    simp only [zI,zU] at h
    obtain ⟨rfl,rfl⟩:=h
    refine ⟨⟨ba h2.2,?_⟩,by rw [beq_eq h2.1];rfl⟩
    unfold fh
    rw [h1];rfl
   ·cases h
  ·cases h
 ·simp only [zI,zU] at h
  obtain ⟨rfl,rfl⟩:=h
  exact ⟨rfl,fun g v hv=>by cases hv;exact ⟨_,rfl⟩⟩
 ·simp only [zI,zU] at h
  obtain ⟨rfl,rfl⟩:=h
  exact ⟨rfl,fun g v hv=>by cases hv;exact ⟨_,rfl⟩⟩
 ·cases h
theorem C9 {n:Nat} {F:Tr A} {tt:Tr f_}:∀(l:List (Nat×Ty)) (x:jU (l.map fun p=>(false,Ty.aI p.2))) (names:List (Option Nat)),Kg n l F tt=some (x,names)→names.length=l.length ∧
  ∀(aY:Nat→A→Prop) (oa:Nat→Option Ob→Prop) (j:Nat),
   (∀(k:Nat) (nm:Option Nat) (i z:Nat),names[k]?=some nm→i<n→wy z (aZ F.get i) nm→aY i (.tw (.loc (j+k)) z)) →
   (∀(k:Nat) (nm:Option Nat) (t:Ty) (l:List t.T),names[k]?=some nm→Fw t tt l nm→oa (j+k) (some (.cells (l.flatMap (aA t)))))→Fl aY l j∧Fo oa l j x
 | [],x,names,h=>by
  simp only [Kg,zI,zU] at h
  obtain ⟨_,rfl⟩:=h
  exact ⟨rfl,fun _ _ _ _ _=>⟨trivial,trivial⟩⟩
 | p::l,x,names,h=>by
  unfold Kg at h
  obtain ⟨hn,h⟩:=ah h
  split at h
  ·rename_i y z h1 h2
   simp only [zI,zU] at h
   obtain ⟨rfl,rfl⟩:=h
   obtain ⟨q1,q2⟩:=C9 l z.1 z.2 h2
   obtain ⟨r1,r2⟩:=sZ (l:=y.1) (nm:=y.2) h1
   refine ⟨by simp [q1],fun aY oa j k1 k2=>?_⟩
   obtain ⟨u1,u2⟩:=q2 aY oa (j+1) (fun k nm i z e=>by have:=k1 (k+1) nm i z (by simpa using e);rwa [show j+(k+1)=j+1+k by omega] at this) (fun k nm t l e=>by have:=k2 (k+1) nm t l (by simpa using e);rwa [show j+(k+1)=j+1+k by omega] at this)
   exact ⟨⟨k1 0 y.2 p.1 p.2.size rfl (ba hn) r2,u1⟩,⟨k2 0 y.2 p.2 y.1 rfl r1,u2⟩⟩
  ·cases h
theorem CR {n:Nat} {F:Tr A} {tt:Tr f_}:∀{l:List (Nat×Ty)} {x:jU (l.map fun p=>(false,Ty.aI p.2))} {names:List (Option Nat)},Kg n l F tt=some (x,names)→∀(k o:Nat),names[k]?=some (some o)→o<cE
 | [],x,names,h,k,o,e=>by
  simp only [Kg,zI,zU] at h
  obtain ⟨_,rfl⟩:=h
  simp at e
 | p::l,x,names,h,k,o,e=>by
  unfold Kg at h
  obtain ⟨hn,h⟩:=ah h
  split at h
  ·rename_i y z h1 h2
   simp only [zI,zU] at h
   obtain ⟨rfl,rfl⟩:=h
   cases k with
   | zero=>
    have e:y.2=some o:=by simpa using e
    have:=(sZ (l:=y.1) (nm:=y.2) h1).1
    rw [e] at this
    exact this.1
   | succ k=>exact CR (x:=z.1) (names:=z.2) h2 k o (by simpa using e)
  ·cases h
theorem Da {tt:Tr f_} {aY:Nat→Option Ob→Prop}:∀(l:List ((Nat×Option Nat)×Ty)) (bs:List Nat) (x:jU (l.map fun p=>(false,p.2))),(∀b t (y:t.T),b∈bs→fh tt b=some (.cells (aA t y))→aY b (some (.cells (aA t y))))→WH l bs tt=some x→Fs aY l bs x
 | [],_,_,_,_=>trivial
 | p::l,b::bs,x,hg,h=>by
  unfold WH at h
  split at h
  ·rename_i t' y h1
   split at h
   ·rename_i y' z h2 h3
    cases h
    obtain ⟨e,e2⟩:=ck h2
    obtain ⟨p1,p2⟩:=p
    simp only at e
    subst e
    cases e2
    exact ⟨hg b t' y (.head _) (by unfold fh;rw [h1];rfl),Da l bs z (fun b t y hb=>hg b t y (.tail _ hb)) h3⟩
   ·cases h
  ·cases h
 | _::_,[],_,_,h=>by cases h
theorem Vs.Cm {g:G} {c:A} {cs:List A} {vs:List Value} (h:Vs g (c::cs) vs):∃v us,vs=v::us∧V g c v∧v.oneCell'=true∧Vs g cs us:=by
 match vs,h with
 | [],h=>exact absurd h.1 (by simp)
 | v::us,h=>
  have h0:=h.2 0 c v rfl rfl
  exact ⟨v,us,rfl,h0.1,h0.2,by simpa using h.1,fun j c x e1 e2=>h.2 (j+1) c x (by simpa using e1) (by simpa using e2)⟩
theorem xb {tt:Tr f_}:∀(ks:List (Bool×Ty)) (cs:List A) (x:jU (KY ks)) (names:List (Option Nat)),Lu ks cs tt=some (x,names)→names.length=m8 ks∧(∀(k o:Nat),names[k]?=some (some o)→o<cE)∧∀j,(MU ks x j).length=cs.length ∧
  (∀(oa:Nat→Option Ob→Prop),(∀(k:Nat) (nm:Option Nat) (t:Ty) (l:List t.T),names[k]?=some nm→Fw t tt l nm→oa (j+k) (some (.cells (l.flatMap (aA t)))))→BP oa ks x j) ∧
  ∀(N:Nat) (g g':G),yd N g g'→(∀(k:Nat) (nm:Option Nat) (z:Nat) (c:A),names[k]?=some nm→wy z c nm→∀v,V g c v→V g' (.tw (.loc (j+k)) z) v)→∀vs,Vs g cs vs→Vs g' (MU ks x j) vs
 | [],[],x,names,h=>by
  simp only [Lu,zI,zU] at h
  obtain ⟨_,rfl⟩:=h
  exact ⟨rfl,fun k o e=>by simp at e,fun j=>⟨rfl,fun _ _=>trivial,fun N g g' _ _ vs hv=>⟨hv.1,fun j c x e=>by simp [MU] at e⟩⟩⟩
 | (true,u)::l,c::cs,x,names,h=>by
  unfold Lu at h
  split at h
  ·rename_i y z h1 h2
   simp only [zI,zU] at h
   obtain ⟨rfl,rfl⟩:=h
   obtain ⟨q1,Sb,q2⟩:=xb l cs z.1 z.2 h2
   obtain ⟨r1,r2⟩:=sZ (l:=y.1) (nm:=y.2) h1
   refine ⟨by simp [q1,m8],fun k o e=>?_,fun j=>?_⟩
   ·cases k with
    | zero=>
     have e:y.2=some o:=by simpa using e
     rw [e] at r1
     exact r1.1
    | succ k=>exact Sb k o (by simpa using e)
   ·obtain ⟨u1,u2,u3⟩:=q2 (j+1)
    refine ⟨congrArg Nat.succ u1,fun oa k2=>⟨k2 0 y.2 u y.1 rfl r1,u2 oa (fun k nm t l e=>by have:=k2 (k+1) nm t l (by simpa using e);rwa [show j+(k+1)=j+1+k by omega] at this)⟩,fun N g g' hs hk vs hv=>?_⟩
    obtain ⟨v,us,rfl,v1,v2,v3⟩:=hv.Cm
    exact .cons (hk 0 y.2 u.size c rfl r2 v v1) v2 (u3 N g g' hs (fun k nm z c e=>by have:=hk (k+1) nm z c (by simpa using e);rwa [show j+(k+1)=j+1+k by omega] at this) us v3)
  ·cases h
 | (false,u)::l,c::cs,x,names,h=>by
  unfold Lu at h
  split at h
  ·rename_i y z h1 h2
   simp only [zI,zU] at h
   obtain ⟨rfl,rfl⟩:=h
   obtain ⟨q1,Sb,q2⟩:=xb l cs z.1 z.2 h2
   refine ⟨by simp [q1,m8],Sb,fun j=>?_⟩
   obtain ⟨u1,u2,u3⟩:=q2 j
   refine ⟨congrArg Nat.succ u1,u2,fun N g g' hs hk vs hv=>?_⟩
   obtain ⟨v,us,rfl,v1,v2,v3⟩:=hv.Cm
   exact .cons (nM false u y g g' v hs (jJ h1 v1)) v2 (u3 N g g' hs hk us v3)
  ·cases h
 | [],_::_,_,_,h=>by cases h
 | (true,_)::_,[],_,_,h=>by cases h
 | (false,_)::_,[],_,_,h=>by cases h
theorem yz {tt:Tr f_}:∀(l:List ((Nat×Option Nat)×List (Bool×Ty))) (bs:List Nat) (x:CB l) (names:List (Option Nat)),C_ l bs tt=some (x,names)→names.length=pk l∧(∀(k o:Nat),names[k]?=some (some o)→o<cE) ∧
  ∀(N:Nat) (g g':G) (j:Nat) (aY:Nat→Option Ob→Prop),yd N g g' →
   (∀(k:Nat) (nm:Option Nat) (z:Nat) (c:A),names[k]?=some nm→wy z c nm→∀v,V g c v→V g' (.tw (.loc (j+k)) z) v) →
   (∀(k:Nat) (nm:Option Nat) (t:Ty) (l:List t.T),names[k]?=some nm→Fw t tt l nm→aY (j+k) (some (.cells (l.flatMap (aA t))))) →
   (∀b cs cs',b∈bs→fh tt b=some (.cells cs)→cs'.length=cs.length→(∀vs,Vs g cs vs→Vs g' cs' vs)→aY b (some (.cells cs')))→Fq aY l bs j x
 | [],_,x,names,h=>by
  simp only [C_,zI,zU] at h
  obtain ⟨_,rfl⟩:=h
  exact ⟨rfl,fun k o e=>by simp at e,fun _ _ _ _ _ _ _ _ _=>trivial⟩
 | p::l,b::bs,x,names,h=>by
  unfold C_ at h
  split at h
  ·rename_i cs F8
   split at h
   ·rename_i y z h1 h2
    simp only [zI,zU] at h
    obtain ⟨rfl,rfl⟩:=h
    obtain ⟨q1,Sb,q2⟩:=xb p.2 cs y.1 y.2 h1
    obtain ⟨r1,r1',r2⟩:=yz l bs z.1 z.2 h2
    have ap:∀(k:Nat) (nm:Option Nat),y.2[k]?=some nm→(y.2++z.2)[k]?=some nm:=fun k nm e=>by rw [zK (zB.1 e).1];exact e
    have aq:∀(k:Nat) (nm:Option Nat),z.2[k]?=some nm→(y.2++z.2)[m8 p.2+k]?=some nm:=fun k nm e=>by rw [zJ (by omega),q1,Nat.add_sub_cancel_left];exact e
    refine ⟨by simp [q1,r1,pk],fun k o e=>?_,fun N g g' j aY hs hk hr hb=>?_⟩
    ·by_cases hk:k<y.2.length
     ·rw [zK hk] at e;exact Sb k o e
     ·rw [zJ (by omega)] at e;exact r1' _ o e
    ·obtain ⟨u1,u2,u3⟩:=q2 j
     refine ⟨hb b cs _ (.head _) (by unfold fh;rw [F8];rfl) u1 (u3 N g g' hs (fun k nm zz c e=>hk k nm zz c (ap k nm e))),u2 aY (fun k nm t l e=>hr k nm t l (ap k nm e)),?_⟩
     exact r2 N g g' (j+m8 p.2) aY hs (fun k nm zz c e=>by have:=hk (m8 p.2+k) nm zz c (aq k nm e);rwa [←Nat.add_assoc] at this) (fun k nm t l e=>by have:=hr (m8 p.2+k) nm t l (aq k nm e);rwa [←Nat.add_assoc] at this) (fun b cs cs' hm=>hb b cs cs' (.tail _ hm))
   ·cases h
  ·cases h
 | _::_,[],_,_,h=>by cases h
theorem tA {N:Nat} {cX:List Nat}:∀{names:List (Option Nat)},A9 N cX names=true→(∀(k o:Nat),names[k]?=some (some o)→N≤o∨o∈cX)∧∀(k k' o:Nat),names[k]?=some (some o)→names[k']?=some (some o)→k=k'
 | [],_=>⟨fun k o h=>by simp at h,fun k k' o h=>by simp at h⟩
 | none::l,h=>by
  obtain ⟨h1,h2⟩:=tA (show A9 N cX l=true from h)
  refine ⟨fun k o e=>?_,fun k k' o e e'=>?_⟩
  ·cases k with
   | zero=>cases e
   | succ k=>exact h1 k o (by simpa using e)
  ·cases k with
   | zero=>cases e
   | succ k=>
    cases k' with
    | zero=>cases e'
    | succ k'=>rw [h2 k k' o (by simpa using e) (by simpa using e')]
 | some q::l,h=>by
  have h:((Nat.ble N q || cX.any (Nat.beq q)) && !(l.any (Du q)) && A9 N cX l)=true:=h
  simp only [zC,Bool.or_eq_true,Bool.not_eq_true'] at h
  obtain ⟨⟨ha,hb⟩,hc⟩:=h
  obtain ⟨h1,h2⟩:=tA hc
  have far:∀k,l[k]?=some (some q)→False:=fun k e=>by
   have:l.any (Du q)=true:=List.any_eq_true.2 ⟨some q,zG e,Nat.beq_refl q⟩
   rw [hb] at this;cases this
  refine ⟨fun k o e=>?_,fun k k' o e e'=>?_⟩
  ·cases k with
   | zero=>
    simp only [List.getElem?_cons_zero,zI] at e
    subst e
    exact ha.imp Nat.le_of_ble_eq_true any_beq.1
   | succ k=>exact h1 k o (by simpa using e)
  ·cases k with
   | zero=>
    simp only [List.getElem?_cons_zero,zI] at e
    subst e
    cases k' with
    | zero=>rfl
    | succ k'=>exact (far k' (by simpa using e')).elim
   | succ k=>
    cases k' with
    | zero=>
     simp only [List.getElem?_cons_zero,zI] at e'
     subst e'
     exact (far k (by simpa using e)).elim
    | succ k'=>rw [h2 k k' o (by simpa using e) (by simpa using e')]
structure rz (H:LH) (E:Gd) (ds:List Nat) (F:Tr A) (h:Go.Bm.H):Prop where
 slot:∀i,VP h.aS (aZ F.get i)
 mem:∀i x,fh h.t i=some x→FV h.aS x
 top:h.aS+H.m≤cE
 bsl:∀b∈E.bs++E.cs,b<h.aS
 del:∀b∈E.cX,b<h.aS
 dsl:∀b∈ds,b<h.aS
 apart:∀b∈E.bs++E.cs,b∉E.cX
 loop:∀q∈E.qs,CW h.t q=true∧q∉E.cX++(E.bs++E.cs)
 iN:∀r,dc H.iN r=true→∃x,bn h.rg r=some x
theorem v5 {H:LH} {E:Gd} {ds:List Nat} {F:Tr A} {h:Go.Bm.H} (k:zh H E ds F h=true):rz H E ds F h:=by
 unfold zh at k
 rw [zC,zC,zC,zC,zC,zC,zC,zC] at k
 obtain ⟨⟨⟨⟨⟨⟨⟨⟨k1,k2⟩,k3⟩,k4⟩,k5⟩,k6⟩,k7⟩,k9⟩,k8⟩:=k
 rw [List.all_eq_true] at k4 k5 k6 k7 k8 k9
 refine ⟨Cz k1,fun i x e=>?_,Nat.le_of_ble_eq_true k3,fun b hb=>ba (k4 b hb),fun b hb=>ba (k5 b hb),fun b hb=>ba (k6 b hb),fun b hb hd=>?_,fun q hq=>?_,fun r hr=>?_⟩
 ·unfold fh at e
  split at e
  ·rename_i m hm
   cases e
   exact G2 (mf k2 i m hm)
  ·cases e
 ·have:=k7 b hb
  rw [any_beq.2 hd] at this;cases this
 ·have:=k9 q hq
  rw [zC] at this
  refine ⟨this.1,fun hm=>?_⟩
  have h2:=this.2
  rw [any_beq.2 hm] at h2;cases h2
 ·obtain ⟨p,p1,p2⟩:=List.any_eq_true.1 hr
  have:=k8 p p1
  rw [beq_eq p2] at this
  exact Option.isSome_iff_exists.1 this
theorem yw {t:Tr f_} {q:Nat} (h:CW t q=true):fh t q=some (.cN (.loop .ready none)):=by
 unfold CW at h
 split at h
 ·rename_i hq;unfold fh;rw [hq];rfl
 ·cases h
section
variable {H:LH} {kP NJ:List Nat} {E:Gd} {Fe:Tr A} {he:Go.Bm.H} {s:H.S} {Fc:Tr A} {hc:Go.Bm.H}
theorem uv {aY:Nat→Option Ob→Prop}:∀(l:List ((Nat×Option Nat)×Ty)) (bs:List Nat) (x:jU (l.map fun p=>(false,p.2))),(∀b∈bs,∀ob,aY b ob)→Fs aY l bs x
 | [],_,_,_=>trivial
 | _::_,[],_,_=>trivial
 | p::l,b::bs,x,h=>⟨h b (.head _) _,uv l bs x.2 (fun b hb=>h b (.tail _ hb))⟩
theorem ur {aY:Nat→Option Ob→Prop} {m:Nat}:∀(l:List (Nat×Ty)) (j:Nat) (x:jU (l.map fun p=>(false,Ty.aI p.2))),j+l.length≤m→(∀i,j≤i→i<m→∀ob,aY i ob)→Fo aY l j x
 | [],_,_,_,_=>trivial
 | p::l,j,x,hm,h=>by
  have hm:j+(l.length+1)≤m:=hm
  exact ⟨h j (Nat.le_refl _) (by omega) _,ur l (j+1) x.2 (by omega) (fun i h1 h2=>h i (by omega) h2)⟩
theorem uq {aY:Nat→Option Ob→Prop} {m:Nat}:∀(ks:List (Bool×Ty)) (x:jU (KY ks)) (j:Nat),j+m8 ks≤m→(∀i,j≤i→i<m→∀ob,aY i ob)→BP aY ks x j
 | [],_,_,_,_=>trivial
 | (true,_)::l,x,j,hm,h=>by
  have hm:j+(m8 l+1)≤m:=hm
  exact ⟨h j (Nat.le_refl _) (by omega) _,uq l x.2 (j+1) (by omega) (fun i h1 h2=>h i (by omega) h2)⟩
 | (false,_)::l,x,j,hm,h=>uq l x.2 j hm h
theorem uu {aY:Nat→Option Ob→Prop} {m:Nat}:∀(l:List ((Nat×Option Nat)×List (Bool×Ty))) (bs:List Nat) (j:Nat) (x:CB l),j+pk l≤m→(∀b∈bs,∀ob,aY b ob)→(∀i,j≤i→i<m→∀ob,aY i ob)→Fq aY l bs j x
 | [],_,_,_,_,_,_=>trivial
 | _::_,[],_,_,_,_,_=>trivial
 | p::l,b::bs,j,x,hm,hb,h=>by
  have hm:j+(m8 p.2+pk l)≤m:=hm
  exact ⟨hb b (.head _) _,uq p.2 x.1 j (by omega) h,uu l bs _ x.2 (by omega) (fun b KN=>hb b (.tail _ KN)) (fun i h1 h2=>h i (by omega) h2)⟩
theorem qK (EO:rz H E NJ Fe he) (J:ov H kP E Fe he s Fc hc):(∀i,i<he.aS→i∉E.cX++(E.bs++E.cs)→(hp hc).ob i=(hp he).ob i) ∧
  (∀i,¬i<cE→dc H.iN (lE i)=false→(hp hc).ob i=(hp he).ob i∧((hp hc).fr i↔(hp he).fr i)) ∧
  ∀i,wt (jT H he.aS E) i=false→(hp hc).ob i=(hp he).ob i∧((hp hc).fr i↔(hp he).fr i):=by
 have Wj:=EO.top
 have hm:H.m=H.grow.length+pk H.wh:=rfl
 have KF:∀i,i∉E.cX++(E.bs++E.cs)→(∀k,k<H.m→i≠he.aS+k)→fh hc.t i=fh he.t i:=fun i h1 h2=>by
  have V9:∀b∈E.bs++E.cs,∀ob,b∉E.cX++(E.bs++E.cs)→(∀k,k<H.m→b≠he.aS+k)→ob=fh he.t b:=fun b hb ob hn=>absurd (zS _ hb) hn
  have CQ:∀i,he.aS≤i→i<he.aS+H.m→∀ob,i∉E.cX++(E.bs++E.cs)→(∀k,k<H.m→i≠he.aS+k)→ob=fh he.t i:=fun i q1 q2 ob _ hn=>absurd (show i=he.aS+(i-he.aS) by omega) (hn (i-he.aS) (by omega))
  exact J.t (fun i ob=>i∉E.cX++(E.bs++E.cs)→(∀k,k<H.m→i≠he.aS+k)→ob=fh he.t i) (fun i hi hn=>absurd hi hn) (fun i _ _ _=>rfl)
   (uv _ _ _ (fun b hb=>V9 b (zQ _ hb))) (uu (m:=he.aS+H.m) _ _ _ _ (by omega) (fun b hb=>V9 b (zS _ hb)) (fun i q1 q2=>CQ i (by omega) q2)) (ur (m:=he.aS+H.m) _ _ _ (by omega) CQ) i h1 h2
 have eh:∀i,¬i<cE→dc H.iN (lE i)=false→(hp hc).ob i=(hp he).ob i∧((hp hc).fr i↔(hp he).fr i):=fun i hl hk=>by
  rw [(eW hl).1,(eW hl).2,(eW hl).1,(eW hl).2]
  unfold dL fK
  rw [J.rg,kU _ _ _ EO.iN,hk,if_neg (by simp)]
  exact ⟨rfl,Iff.rfl⟩
 refine ⟨fun i h1 h2=>?_,eh,fun i hw=>?_⟩
 ·have hl:i<cE:=by omega
  show (if i<cE then fh hc.t i else _)=(if i<cE then fh he.t i else _)
  rw [if_pos hl,if_pos hl]
  exact KF i h2 (fun k _=>by omega)
 ·have hw:(((E.bs++E.cs).map dk++E.cX.map dk)++((List.range H.m).map (fun k=>dk (he.aS+k))++H.iN.map fun p=>g7 p.1)).any (Nat.beq (res i))=false:=hw
  rw [List.any_append,List.any_append,List.any_append] at hw
  simp only [Bool.or_eq_false_iff] at hw
  obtain ⟨⟨w1,w2⟩,w3,w4⟩:=hw
  by_cases hl:i<cE
  ·have nin:∀l:List Nat,(l.map dk).any (Nat.beq (res i))=false→i∉l:=fun l h hm=>by
    rw [any_beq.2 (by rw [mh hl];exact List.mem_map.2 ⟨i,hm,rfl⟩)] at h;cases h
   have n3:∀k,k<H.m→i≠he.aS+k:=fun k hk e=>by
    rw [any_beq.2 (by rw [mh hl,e];exact List.mem_map.2 ⟨k,List.mem_range.2 hk,rfl⟩)] at w3;cases w3
   refine ⟨?_,?_⟩
   ·show (if i<cE then fh hc.t i else _)=(if i<cE then fh he.t i else _)
    rw [if_pos hl,if_pos hl]
    exact KF i (fun h=>(zX.1 h).elim (nin _ w2) (nin _ w1)) n3
   ·show (if i<cE then hc.aS≤i else _)↔(if i<cE then he.aS≤i else _)
    rw [if_pos hl,if_pos hl,J.aS]
    refine ⟨fun h=>by omega,fun h=>?_⟩
    rcases Nat.lt_or_ge i (he.aS+H.m) with h1 | h1
    ·exact absurd (show i=he.aS+(i-he.aS) by omega) (n3 (i-he.aS) (by omega))
    ·exact h1
  ·refine eh i hl ?_
   rw [oL hl,uo] at w4
   exact w4
theorem Kd {n:Nat} {F':Tr A} {h':Go.Bm.H} {iR:List Nat} {T:Fp} (EO:rz H E NJ Fe he) (n6:∀i,he.aS≤i→i<cE→fh he.t i=none) (Td:∀i,i∉kP→aZ F'.get i=aZ Fe.get i)
  (SX:∀i,i<he.aS→i∉E.cX++(E.bs++E.cs++E.qs)→(hp h').ob i=(hp he).ob i) (YV:∀i,¬i<cE→dc H.iN (lE i)=false→(hp h').ob i=(hp he).ob i∧((hp h').fr i↔(hp he).fr i))
  (HA:B0 H n he.aS E.bs E.cs E.qs E.cX NJ F' h' iR T=some s) (J:ov H kP E Fe he s Fc hc) {S0:Hp} {g0:G} {w0 w:World} {a:Act} (hf:∀o,he.aS≤o→o<cE→S0.fr o∧g0.bl o=none)
  (hR:R S0 g0 w0 (eX n F' iR (hp h')) a w):R S0 g0 w0 (eX n Fc NJ (hp hc)) a w:=by
 have Wj:=EO.top
 have hm:H.m=H.grow.length+pk H.wh:=rfl
 unfold B0 at HA
 obtain ⟨B6,Hz⟩:=ah HA
 clear HA
 rw [zC,zC] at B6
 obtain ⟨⟨_,W9⟩,hqs⟩:=B6
 rw [List.all_eq_true] at hqs
 obtain rfl:=EK W9
 split at Hz
 ·rename_i v gg b ee c hv hg hb Mi B7
  obtain ⟨Nx,YZ⟩:=ah Hz
  clear Hz
  cases YZ
  obtain ⟨gr,nG⟩:=gg
  obtain ⟨er,nC⟩:=ee
  obtain ⟨n1,n2⟩:=tA Nx
  obtain ⟨p1,p2⟩:=C9 _ _ _ hg
  obtain ⟨c1,c2,c3⟩:=yz _ _ _ _ Mi
  obtain ⟨g,hI,hE,hD,hs,hV⟩:=hR
  have hV:∀i,i<n→V g (aZ F'.get i) (a.tmps.getD i undef):=hV
  have L_:(nG++nC).length=H.m:=by rw [zY,p1,c1];exact hm.symm
  have Km:∀(k o:Nat),(nG++nC)[k]?=some (some o)→o<cE:=fun k o e=>by
   by_cases hk:k<nG.length
   ·rw [zK hk] at e;exact CR hg k o e
   ·rw [zJ (by omega)] at e;exact c2 _ o e
  have ZH:∀(k:Nat) (nm:Option Nat),nG[k]?=some nm→(nG++nC)[k]?=some nm:=fun k nm e=>by rw [zK (zB.1 e).1];exact e
  have cap:∀(k:Nat) (nm:Option Nat),nC[k]?=some nm→(nG++nC)[H.grow.length+k]?=some nm:=fun k nm e=>by rw [zJ (by omega),p1,Nat.add_sub_cancel_left];exact e
  have S8:∀(k o:Nat),(nG++nC)[k]?=some (some o)→he.aS≤o∨o∈E.cX:=n1
  have S7:∀(k k' o:Nat),(nG++nC)[k]?=some (some o)→(nG++nC)[k']?=some (some o)→k=k':=n2
  generalize tR:nG++nC=names at L_ Km ZH cap S8 S7
  have Y8:he.aS+names.length≤cE:=by rw [L_];exact Wj
  have kf:=Er he.aS names g
  have RU:∀(k:Nat) (nm:Option Nat) (z:Nat) (cc:A),names[k]?=some nm→wy z cc nm→∀v,V g cc v→V (gj he.aS names g) (.tw (.loc (he.aS+k)) z) v:=fun k nm z cc e FZ v YN=>by
   cases nm with
   | some o=>
    have FZ:cc = .tw (.loc o) z:=FZ
    rw [FZ] at YN
    have bF:(gj he.aS names g).bl (he.aS+k)=g.bl o:=vP e Y8
    cases YN with
    | sa _ _ ad h1=>exact .sa (.loc (he.aS+k)) z ad (bF.trans h1)
    | tw _ _ m b cap t h1 hn hx hp d hd=>exact .tw (.loc (he.aS+k)) z m b cap t (bF.trans h1) hn hx hp d hd
   | none=>
    obtain ⟨ad,h1⟩:=FZ g _ YN
    rw [h1]
    exact .sa (.loc (he.aS+k)) z ad (vP e Y8)
  have RV:∀(k:Nat) (nm:Option Nat) (t:Ty) (l:List t.T),names[k]?=some nm→Fw t h'.t l nm→∀x,some (Ob.cells (l.flatMap (aA t)))=some x→(he.aS+k<he.aS→(((hp h').ob (he.aS+k)=some x∧FV he.aS x)∨∃cs cs',(hp h').ob (he.aS+k)=some (.cells cs)∧x = .cells cs'∧cs'.length=cs.length∧∀vs,Vs g cs vs→Vs (gj he.aS names g) cs' vs)) ∧
    (he.aS≤he.aS+k→he.aS+k<cE→∃k' nm,he.aS+k=he.aS+k'∧names[k']?=some nm∧(∀o,nm=some o→(hp h').ob o=some x∧FV he.aS x)∧(nm=none→x = .cells [])):=fun k nm t l e D3 x hx=>by
   cases hx
   refine ⟨fun fe=>by omega,fun _ fe=>⟨k,nm,rfl,e,fun o ho=>?_,fun ho=>?_⟩⟩
   ·subst ho
    have D3:o<cE∧fh h'.t o=some (.cells (l.flatMap (aA t))):=D3
    refine ⟨?_,fun c hc=>by obtain ⟨y,_,hy⟩:=List.mem_flatMap.1 hc;exact iK t y c hy⟩
    show (if o<cE then _ else _)=_
    rw [if_pos D3.1];exact D3.2
   ·subst ho
    have D3:l=[]:=D3
    subst D3;rfl
  have eN:∀i,i<cE→(hp h').ob i=fh h'.t i:=fun i hi=>if_pos hi
  have jH:=p2 (fun i c=>i<n→V (gj he.aS names g) c (a.tmps.getD i undef)) (fun i ob=>∀x,ob=some x→(i<he.aS→(((hp h').ob i=some x∧FV he.aS x)∨∃cs cs',(hp h').ob i=some (.cells cs)∧x = .cells cs'∧cs'.length=cs.length∧∀vs,Vs g cs vs→Vs (gj he.aS names g) cs' vs))∧(he.aS≤i→i<cE→∃k nm,i=he.aS+k∧names[k]?=some nm∧(∀o,nm=some o→(hp h').ob o=some x∧FV he.aS x)∧(nm=none→x = .cells []))) he.aS
   (fun k nm i z e hi FZ _=>RU k nm z _ (ZH k nm e) FZ _ (hV i hi)) (fun k nm t l e D3=>RV k nm t l (ZH k nm e) D3)
  have hF:=J.F (fun i c=>i<n→V (gj he.aS names g) c (a.tmps.getD i undef)) (fun i _ _=>.cD _)
   (fun i hi hn=>by
    have:=hV i hn
    rw [Td i hi] at this
    exact EO.slot i g _ _ kf this)
   (C8 (fun i ag t x hi hx _=>nM ag t x g _ _ kf (jJ hx (hV i hi))) _ _ hv) jH.1
  have hT:=J.t _ (fun i _ x hx=>by cases hx)
   (fun i hi x hx=>by
    refine ⟨fun fe=>.inl ?_,fun h1 h2=>by rw [n6 i h1 h2] at hx;cases hx⟩
    have he1:(hp h').ob i=fh he.t i:=by
     by_cases hq:i∈E.qs
     ·rw [eN i (by omega),yw (hqs i hq),yw (EO.loop i hq).1]
     ·rw [SX i fe (fun h=>by
       rcases zX.1 h with h | h
       ·exact hi (zQ _ h)
       ·rcases zX.1 h with h | h
        ·exact hi (zS _ h)
        ·exact hq h)]
      exact if_pos (by omega)
    exact ⟨he1.trans hx,EO.mem i x hx⟩)
   (Da (tt:=h'.t) _ _ _ (fun b t y Zz Zy x hx=>by
    cases hx
    have fe:=EO.bsl b (zQ _ Zz)
    exact ⟨fun _=>.inl ⟨by rw [eN b (by omega)];exact Zy,iK t y⟩,fun h=>by omega⟩) hb)
   (c3 he.aS g (gj he.aS names g) (he.aS+H.grow.length) _ kf (fun k nm z cc e FZ v hv=>by have:=RU (H.grow.length+k) nm z cc (cap k nm e) FZ v hv;rwa [←Nat.add_assoc] at this) (fun k nm t l e D3=>by have:=RV (H.grow.length+k) nm t l (cap k nm e) D3;rwa [←Nat.add_assoc] at this)
    (fun b cs cs' Zz Zy hl hcv x hx=>by
     cases hx
     have fe:=EO.bsl b (zS _ Zz)
     exact ⟨fun _=>.inr ⟨cs,cs',by rw [eN b (by omega)];exact Zy,rfl,hl,hcv⟩,fun h=>by omega⟩)) jH.2
  have hDl:∀i,i∈E.cX→fh hc.t i=none:=fun i hi=>by
   have CQ:∀i,he.aS≤i→i<he.aS+H.m→∀ob:Option Ob,i∈E.cX→ob=none:=fun i q1 _ ob hn=>by have:=EO.del _ hn;omega
   have V9:∀b∈E.bs++E.cs,∀ob:Option Ob,b∈E.cX→ob=none:=fun b hb ob hn=>absurd hn (EO.apart b hb)
   exact J.t (fun i ob=>i∈E.cX→ob=none) (fun _ _ _=>rfl) (fun i hn hd=>absurd (zQ _ hd) hn) (uv _ _ _ (fun b hb=>V9 b (zQ _ hb))) (uu (m:=he.aS+H.m) _ _ _ _ (by omega) (fun b hb=>V9 b (zS _ hb)) (fun i q1 q2=>CQ i (by omega) q2)) (ur (m:=he.aS+H.m) _ _ _ (by omega) CQ) i hi
  have Tk:=kH _ _ _ B7
  have hRg:∀i,¬i<cE→(hp hc).ob i=(hp h').ob i∧((hp hc).fr i↔(hp h').fr i):=fun i hl=>by
   cases hk:dc H.iN (lE i) with
   | true=>
    obtain ⟨q1,_⟩:=Tk _ hk
    rw [(eW hl).1,(eW hl).2,(eW hl).1,(eW hl).2]
    unfold dL fK
    rw [J.rg,kU _ _ _ EO.iN,hk,if_pos rfl,q1]
    exact ⟨rfl,Iff.rfl⟩
   | false=>
    have e1:=(qK EO J).2.1 i hl hk
    have e2:=YV i hl hk
    exact ⟨e1.1.trans e2.1.symm,e1.2.trans e2.2.symm⟩
  have Mj:∀i,i<cE→(hp hc).ob i=fh hc.t i:=fun i hi=>if_pos hi
  have yZ:∀{i},¬stay he.aS i→he.aS≤i∧i<cE:=fun {i} h=>by unfold stay at h;omega
  have hrj:=Ln (S':=hp hc) Y8 (fun i x hi e=>?_) (fun i x hi e=>?_) S7 (fun k o e hi=>?_) (fun i e=>⟨fun hi=>?_,fun hi=>?_⟩) hf hI hE
  ·refine ⟨_,hrj.1,hrj.2,⟨hD.1,fun i d e e1 e2=>?_⟩,hs,fun i hi=>hF i hi⟩
   have Zp:=EO.dsl d (zG e1)
   refine ⟨fun hd=>?_,fun hd=>absurd hd (by have:cE=16777216:=rfl;omega)⟩
   obtain ⟨b',s',q1,q2⟩:=(hD.2 i d e e1 e2).1 hd
   exact ⟨b',s',(kf.bl d (.inl Zp)).trans q1,q2⟩
  ·rcases hi with hi | hi
   ·rw [Mj i (by omega)] at e
    exact (hT i x e).1 hi
   ·refine .inl ⟨(hRg i hi).1.symm.trans e,?_⟩
    rw [(eW hi).1] at e
    unfold dL at e
    split at e
    ·exact CV e
    ·cases e
  ·obtain ⟨h1,h2⟩:=yZ hi
   rw [Mj i h2] at e
   exact (hT i x e).2 h1 h2
  ·have hol:=Km k o e
   rcases S8 k o e with h1 | h1
   ·rcases hi with hi | hi
    ·omega
    ·exact absurd hol hi
   ·rw [Mj o hol];exact hDl o h1
  ·obtain ⟨h1,h2⟩:=yZ hi
   have e:(if i<cE then hc.aS≤i else _):=e
   rw [if_pos h2,J.aS] at e
   rw [L_];exact e
  ·rcases hi with hi | hi
   ·have e:(if i<cE then hc.aS≤i else _):=e
    rw [if_pos (show i<cE by omega),J.aS] at e
    omega
   ·exact (hRg i hi).2.1 e
 ·cases Hz
end
end
section
open Go.RowKit
theorem Inv.CH {g:G} {S:Hp} {w:World} (h:Inv g S w) {q b:Nat} {s:Nat×Nat} {st st':LoopState} {pe pe':Option Code} {rr:Loop} (ho:S.ob q=some (.cN (.loop st pe))) (hg:g.bl q=some (some b,s)) (hr:w.heap[b]?=some (.loop rr)) :
  Inv g (S.set q (.cN (.loop st' pe'))) (w.putObj b (.loop { rr with state:=st',pending:=pe' }))∧Ext S g w (S.set q (.cN (.loop st' pe'))) g (w.putObj b (.loop { rr with state:=st',pending:=pe' })):=by
 have hb:b<w.heap.size:=(Array.getElem?_eq_some_iff.1 hr).1
 refine h.Ch ho hg (by simp) (fun k hk=>World.putObj_heap_other hk) rfl rfl rfl ⟨_,World.putObj_heap_same hb,_,rfl,rfl,rfl⟩ (fun l e=>⟨_,World.putObj_heap_same hb,?_⟩)
 obtain ⟨r,k1,k2⟩:=h.lp b l e
 rw [hr] at k1
 cases k1
 exact k2
theorem Inv.Sw {g:G} {S:Hp} {w:World} (h:Inv g S w) {q:Nat} (hf:S.fr q) (rr:Loop) :
  ∃g',Inv g' (S.new q (.cN (.loop rr.state rr.pending))) (w.alloc (.loop rr))∧Ext S g w (S.new q (.cN (.loop rr.state rr.pending))) g' (w.alloc (.loop rr))∧g'.bl q=some (some w.heap.size,(0,0))∧g'.lp w.heap.size=some (tE rr):=by
 obtain ⟨i1,x1⟩:=h.alloc (s:=(0,0)) hf (x:=.cN (.loop rr.state rr.pending)) (ob:=.loop rr) ⟨_,heap_alloc_new w _,rr,rfl,rfl,rfl⟩
 have KB:(jr g q (some w.heap.size,(0,0))).lp w.heap.size=none:=by
  cases hl:(jr g q (some w.heap.size,(0,0))).lp w.heap.size with
  | none=>rfl
  | some l=>
   obtain ⟨r,k1,_⟩:=h.lp _ l hl
   have:=(Array.getElem?_eq_some_iff.1 k1).1
   omega
 have bF:=b_ (g:=g) (o:=q) (p:=(some w.heap.size,(0,0)))
 generalize jr g q (some w.heap.size,(0,0))=g1 at i1 x1 KB bF
 have hle:Le g1 ⟨g1.bl,g1.mem,fun k=>if k=w.heap.size then some (tE rr) else g1.lp k⟩:=⟨fun _ _ e=>e,fun _ _ _ e=>e,fun b l e=>by
  show (if b=w.heap.size then _ else g1.lp b)=some l
  split
  ·rename_i hb;rw [hb,KB] at e;cases e
  ·exact e⟩
 refine ⟨⟨g1.bl,g1.mem,fun k=>if k=w.heap.size then some (tE rr) else g1.lp k⟩,⟨fun o cs e=>(i1.cells o cs e).imp id fun ⟨b,t,k1,cur,ty,k2,k3,k4⟩=>⟨b,t,k1,cur,ty,k2,k3,k4.mono hle⟩,fun o x e=>?_,i1.fresh,i1.lt,i1.inj,i1.mem,i1.kD,fun b l e=>?_⟩,⟨x1.le.trans hle,x1.os,x1.tape,x1.output,x1.size,x1.frame,fun k ⟨o,s,x,e1,e2⟩=>x1.own k ⟨o,s,x,e1,e2⟩,x1.H8,x1.fr,x1.qI,fun b l e=>?_⟩,bF,if_pos rfl⟩
 ·obtain ⟨b,s,ob,k1,k2,k3⟩:=i1.cN o x e
  exact ⟨b,s,ob,k1,k2,k3.mono hle⟩
 ·have e:(if b=w.heap.size then some (tE rr) else g1.lp b)=some l:=e
  split at e
  ·rename_i hb;cases e;exact ⟨rr,by rw [hb];exact heap_alloc_new w _,rfl⟩
  ·exact i1.lp b l e
 ·have e:(if b=w.heap.size then some (tE rr) else g1.lp b)=some l:=e
  split at e
  ·rename_i hb;exact .inr (by omega)
  ·exact x1.lpo b l e
section
variable {β:Type}
theorem yp {h:H} {q:Nat} {x:f_} {t':Tr f_} (hq:q<16777216) (ht:t'.get=fun m=>if m=q then some x else h.t.get m):mI h { h with t:=t' } (.wr [dk q])∧∀S,Agree (.wr [dk q]) (hp h) S→ig (.wr [dk q]) (hp { h with t:=t' }) S=S.set q x.low:=by
 have e:=oX (h:=h) (x:=x) hq ht
 have hT:∀u∈[Up.set q x.low],touch (.wr [dk q]) u.id=true:=fun u hu=>by rcases zF.1 hu with rfl;exact aB (o:=q) hq (.head _)
 have out:∀i,touch (.wr [dk q]) i=false→(hp { h with t:=t' }).ob i=(hp h).ob i∧((hp { h with t:=t' }).fr i↔(hp h).fr i):=fun i hi=>by
  rw [e];exact cV _ _ i (fun u hu hh=>by rw [hh,hT u hu] at hi;cases hi)
 exact ⟨⟨out,fun i hi=>out i (r_ hi)⟩,fun S hA=>by rw [e,gI hT hA];rfl⟩
theorem zj {h:H} {q:Nat} {t':Tr f_} (hq:q<16777216) (ht:t'.get=fun m=>if m=q then none else h.t.get m):mI h { h with t:=t' } (.wr [dk q])∧∀S,Agree (.wr [dk q]) (hp h) S→ig (.wr [dk q]) (hp { h with t:=t' }) S=S.del q:=by
 have e:hp { h with t:=t' }=app [.del q] (hp h):=Hp.ext' (fun i=>by
  show (if i<cE then fh t' i else _)=if i=q then none else (if i<cE then fh h.t i else _)
  unfold fh
  rw [ht]
  by_cases hi:i=q
  ·subst hi;rw [if_pos (show i<cE from hq),if_pos rfl];simp
  ·simp only [if_neg hi]) (fun i=>Iff.rfl)
 have hT:∀u∈[Up.del q],touch (.wr [dk q]) u.id=true:=fun u hu=>by rcases zF.1 hu with rfl;exact aB (o:=q) hq (.head _)
 have out:∀i,touch (.wr [dk q]) i=false→(hp { h with t:=t' }).ob i=(hp h).ob i∧((hp { h with t:=t' }).fr i↔(hp h).fr i):=fun i hi=>by
  rw [e];exact cV _ _ i (fun u hu hh=>by rw [hh,hT u hu] at hi;cases hi)
 exact ⟨⟨out,fun i hi=>out i (r_ hi)⟩,fun S hA=>by rw [e,gI hT hA];rfl⟩
theorem yI {h:H} {x:f_} {t':Tr f_} (hq:h.aS<16777216) (ht:t'.get=fun m=>if m=h.aS then some x else h.t.get m):mI h { h with t:=t',aS:=h.aS+1 } (.wr [dk h.aS])∧∀S,Agree (.wr [dk h.aS]) (hp h) S→ig (.wr [dk h.aS]) (hp { h with t:=t',aS:=h.aS+1 }) S=S.new h.aS x.low:=by
 have e:=D7 (h:=h) (x:=x) hq ht
 have hT:∀u∈[Up.new h.aS x.low],touch (.wr [dk h.aS]) u.id=true:=fun u hu=>by rcases zF.1 hu with rfl;exact aB (o:=h.aS) hq (.head _)
 have out:∀i,touch (.wr [dk h.aS]) i=false→(hp { h with t:=t',aS:=h.aS+1 }).ob i=(hp h).ob i∧((hp { h with t:=t',aS:=h.aS+1 }).fr i↔(hp h).fr i):=fun i hi=>by
  rw [e];exact cV _ _ i (fun u hu hh=>by rw [hh,hT u hu] at hi;cases hi)
 exact ⟨⟨out,fun i hi=>out i (r_ hi)⟩,fun S hA=>by rw [e,gI hT hA];rfl⟩
theorem LR {h:H} {q:Nat} {x:f_} (hq:q<16777216) (hx:h.t.get q=some x):(hp h).ob q=some x.low:=by
 show (if q<cE then _ else _)=_
 rw [if_pos (show q<cE from hq)];unfold fh;rw [hx]
theorem zw {h:H} {q:Nat} {S:Hp} {x:f_} {l:List Nat} {w:Bool} {s:List Nat} (hq:q<16777216) (hx:h.t.get q=some x) (hA:Agree ⟨false,l,w,s⟩ (hp h) S) (hm:dk q∈l):S.ob q=some x.low:=(hA q (aB hq hm)).1.trans (LR hq hx)
def DQ:Option Code→Option Exit
 | none=>some .normal
 | some .ret=>some .ret
 | some (.exit id)=>some (.exit id)
 | _=>none
def L3:LoopState→Bool
 | .busy=>true
 | _=>false
def RX:Exit→Option (Option Code)
 | .normal=>some none
 | .ret=>some (some .ret)
 | .exit id=>some (some (.exit id))
 | _=>none
def CT:Option Code→LoopState
 | none=>.ready
 | some _=>.done
theorem DP {pe:Option Code} {e:Exit} (h:DQ pe=some e):(pe=none∧e = .normal)∨(pe=some .ret∧e = .ret)∨∃id,pe=some (.exit id)∧e = .exit id:=by
 unfold DQ at h
 split at h
 ·cases h;exact .inl ⟨rfl,rfl⟩
 ·cases h;exact .inr (.inl ⟨rfl,rfl⟩)
 ·cases h;exact .inr (.inr ⟨_,rfl,rfl⟩)
 ·cases h
def wZ:Tr A→List Tmp→List A→(Tr A→Option β)→Option β
 | F,[],[],k=>k F
 | F,t::ts,a::aa,k=>eP F t (some a) (fun F=>wZ F ts aa k)
 | _,_,_,_=>none
theorem si {r:β}:∀(ps:List Tmp) (aa:List A) (F:Tr A) (k:Tr A→Option β),wZ F ps aa k=some r→∃F1,k F1=some r∧aa.length=ps.length∧∀(g:G) (n:Nat) (vs:List Value) (tmps:Array Value),aa.length=vs.length→(∀(i:Nat) (p:A) (v:Value),aa[i]?=some p→vs[i]?=some v→V g p v)→tmps.size=n→(∀i,i<n→V g (aZ F.get i) (tmps.getD i undef)) →
  ((ps.zip vs).foldl (fun tmps x=>tmps.setIfInBounds x.1 x.2) tmps).size=n∧∀i,i<n→V g (aZ F1.get i) (((ps.zip vs).foldl (fun tmps x=>tmps.setIfInBounds x.1 x.2) tmps).getD i undef)
 | [],[],F,k,h=>⟨F,h,rfl,fun g n vs tmps hl hv hs hF=>⟨by simpa using hs,by simpa using hF⟩⟩
 | t::ts,a::aa,F,k,h=>by
  obtain ⟨_,F',k1,k2⟩:=bm h
  obtain ⟨F1,q1,q2,q3⟩:=si ts aa F' k k1
  refine ⟨F1,q1,by simp [q2],fun g n vs tmps hl hv hs hF=>?_⟩
  cases vs with
  | nil=>simp at hl
  | cons v vs=>
   refine q3 g n vs (tmps.setIfInBounds t v) (by simpa using hl) (fun i p v k1 k2=>hv (i+1) p v (by simpa using k1) (by simpa using k2)) (by simpa using hs) (fun i hi=>?_)
   rw [nE k2]
   by_cases Zg:i=t
   ·subst Zg
    rw [if_pos rfl,show (tmps.setIfInBounds i v).getD i undef=v by simp [Array.getD,show i<tmps.size by omega]]
    exact hv 0 a v rfl rfl
   ·rw [if_neg Zg,show (tmps.setIfInBounds t v).getD i undef=tmps.getD i undef by
     simp only [Array.getD_eq_getD_getElem?]
     rw [Array.getElem?_setIfInBounds_ne (fun h=>Zg h.symm)]]
    exact hF i hi
 | [],_::_,_,_,h=>by cases h
 | _::_,[],_,_,h=>by cases h
theorem SC {g:G} {fi ca:List A} {x:A} {fv cv:List Value} {v:Value} (hf:fi.length=fv.length) (h1:∀(i:Nat) (c:A) (x:Value),fi[i]?=some c→fv[i]?=some x→V g c x) (hx:V g x v) (h2:∀(i:Nat) (c:A) (x:Value),ca[i]?=some c→cv[i]?=some x→V g c x) :
  ∀(i:Nat) (p:A) (u:Value),(fi++x::ca)[i]?=some p→(fv++v::cv)[i]?=some u→V g p u:=by
 intro i p u k1 k2
 rcases Nat.lt_trichotomy i fi.length with c1 | c1 | c1
 ·rw [zK c1] at k1
  rw [zK (by omega)] at k2
  exact h1 i p u k1 k2
 ·rw [zJ (by omega)] at k1 k2
  rw [c1,Nat.sub_self] at k1
  rw [c1,hf,Nat.sub_self] at k2
  simp at k1 k2;subst k1 k2;exact hx
 ·rw [zJ (by omega)] at k1 k2
  rw [←hf] at k2
  obtain ⟨d,hd⟩:∃d,i-fi.length=d+1:=⟨i-fi.length-1,by omega⟩
  rw [hd] at k1 k2
  exact h2 d p u (by simpa using k1) (by simpa using k2)
end
end
section
open Go.RowKit
section
variable {P:Program} {E:Env} {cx:Cx} {n:Nat} {β:Type} {r:β}
abbrev KC (β:Type):=Exit→Tr A→H→List Nat→Fp→Option β
def Li (K1:Tr A→H→List Nat→Fp→Option β) (K:KC β):KC β:=fun e F h ds U=>match e with
 | .normal=>K1 F h ds U
 | e=>K e F h ds U
def abx (id:Nat) (K:KC β):KC β:=fun e F h ds U=>match e with
 | .exit i=>bif Nat.beq i id then K .normal F h ds U else K (.exit i) F h ds U
 | e=>K e F h ds U
def scC (K:KC β):KC β:=fun e F h ds U=>match e with
 | .goto _=>none
 | e=>K e F h ds U
def MQ (n:Nat) (F:Tr A) (c:Operand) (k:Tr A→Bool→Option β):Option β:=match c with
 | .tmp d=>match yF n F (.tmp d) with
  | .v (.bool b)=>br b (eP F d (some (.v (.bool true))) (fun F'=>k F' true)) (eP F d (some (.v (.bool false))) (fun F'=>k F' false))
  | _=>none
 | .const (.bool b)=>k F b
 | _=>none
theorem Ib {F:Tr A} {c:Operand} {k:Tr A→Bool→Option β} (h:MQ n F c k=some r):∃F' b,k F' b=some r∧(∀ds S,eX n F' ds S=eX n F ds S)∧yF n F c = .v (.bool b):=by
 unfold MQ at h
 split at h
 ·rename_i d
  split at h
  ·rename_i b hb
   have same:∀(F':Tr A) (c:Bool),b=c→F'.get=(fun m=>if m=d then some (.v (.bool c)) else F.get m)→∀ds S,eX n F' ds S=eX n F ds S:=fun F' c hc e ds S=>by
    have:aZ F'.get=aZ F.get:=by
     funext i
     by_cases hi:i=d
     ·subst hi
      rw [yE hb (by intro h;cases h),hc]
      unfold aZ
      rw [e];simp
     ·unfold aZ
      rw [e];simp [hi]
    unfold eX
    rw [this]
   rcases kh h with ⟨rfl,h1⟩ | ⟨rfl,h1⟩
   ·obtain ⟨_,F',k1,k2⟩:=bm h1
    exact ⟨F',true,k1,same F' true rfl k2,hb⟩
   ·obtain ⟨_,F',k1,k2⟩:=bm h1
    exact ⟨F',false,k1,same F' false rfl k2,hb⟩
  ·cases h
 ·rename_i b
  exact ⟨F,b,h,fun ds S=>rfl,rfl⟩
 ·cases h
def lf:ay→List Nat
 | .region _ ops _=>pL ops
 | .seq x y=>lf x++lf y
 | .cut H x y=>(lf x++(H.mV.map (·.1)++H.grow.map (·.1)))++lf y
 | .cond _ x y=>lf x++lf y
 | .block _ x=>lf x
 | .scope x=>lf x
 | .loop H x=>lf x++(H.mV.map (·.1)++H.grow.map (·.1))
 | .Mq l x=>l.map (·.1)++lf x
 | _=>[]
def xh {σ:Type} (pj:Tr A→H→List Nat→Fp→Option σ) (k:σ→Option β) (K:KC β):KC β:=fun e F h ds T=>match e with
 | .normal=>(match pj F h ds T with
  | some s=>k s
  | none=>none)
 | e=>K e F h ds T
def BN (U:Fp) (K:KC β):KC β:=fun e F h ds T=>K e F h ds (U.cat T)
abbrev NQ (β:Type):=Nat→List Oper→Tr A→H→Fp→(Tr A→H→Fp→Option β)→Option β
def ym (J:LH):Option Nat:=match J.loops with
 | [k]=>bif Nat.ble 1000000 k then some (k-1000000) else none
 | _=>none
def NK:List Oper→Option (Nat×Nat×Nat)
 | [o1,o2]=>match o1.op,o1.dst,o1.guard,o2.op,o2.guard,o2.dst with
  | .move (.tmp s),some a,none,.defer c,none,none=>match c.callee,c.args.toList with
   | .value (.func f),[.tmp b]=>bif Nat.beq a b then some (s,a,f) else none
   | _,_=>none
  | _,_,_,_,_,_=>none
 | _=>none
def Xf {β:Type} (n:Nat) (x:Nat×Nat×Nat) (F:Tr A) (h:H) (ds:List Nat) (U:Fp) (K:Tr A→H→List Nat→Fp→Option β):Option β:=match aZ F.get x.1 with
 | .ptr q off=>bif Nat.beq off 0 && Nat.blt q 16777216 && Nat.blt x.1 n && Nat.blt x.2.1 n then eP F x.2.1 (some (.ptr q 0)) (fun F1=>K F1 h ((q+16777216*(x.2.2+1))::ds) U) else none
 | _=>none
def Xc {β:Type} (n:Nat):List (Nat×Ty)→Tr A→H→List Nat→(Tr A→H→List Nat→Option β)→Option β
 | [],F,h,T,k=>k F h T
 | p::l,F,h,T,k=>bif Nat.blt p.1 n then (match EC false p.2 (aZ F.get p.1) h with
  | some (v,h',T')=>eP F p.1 (some v) (fun F'=>Xc n l F' h' (T++T') k)
  | none=>none) else none
theorem Ev {β:Type} {n:Nat} {r:β} {k:Tr A→H→List Nat→Option β}:∀(l:List (Nat×Ty)) (F:Tr A) (h:H) (T:List Nat),Xc n l F h T k=some r →
  ∃F' h' T',k F' h' (T++T')=some r∧Kp (l.map (·.1)) F F'∧mI h h' (Fp.wr T')∧∀S0 g0 w0 ds S2 a w,Agree (Fp.wr T') (hp h) S2→R S0 g0 w0 (eX n F ds S2) a w→R S0 g0 w0 (eX n F' ds (ig (Fp.wr T') (hp h') S2)) a w
 | [],F,h,T,hr=>⟨F,h,[],by rw [List.append_nil];exact hr,.refl _ F,⟨fun _ _=>⟨rfl,Iff.rfl⟩,fun _ _=>⟨rfl,Iff.rfl⟩⟩,fun S0 g0 w0 ds S2 a w hA hR=>by
  have:ig (Fp.wr []) (hp h) S2=S2:=gI (us:=[]) (fun u hu=>by cases hu) hA
  rw [this];exact hR⟩
 | p::l,F,h,T,hr=>by
  obtain ⟨KA,hr⟩:=ah (show (bif Nat.blt p.1 n then _ else none)=some r from hr)
  have KA:=ba KA
  split at hr
  ·rename_i v h1 T1 hf
   obtain ⟨_,F1,hr,tQ⟩:=bm hr
   obtain ⟨us,c1,c2,c3⟩:=ub hf
   obtain ⟨F',h',T2,q1,q2,q3,q4⟩:=Ev l F1 h1 (T++T1) hr
   have f1:mI h h1 (Fp.wr T1):=⟨fun i hi=>by rw [c1];exact cV us _ i (fun u hu e=>by rw [e,c2 u hu] at hi;cases hi),fun i hi=>by
    rw [c1];exact cV us _ i (fun u hu e=>by
     have:=c2 u hu
     rw [←e] at this
     exact absurd hi (by
      unfold touch at this
      unfold wt
      simpa [Fp.wr] using this))⟩
   refine ⟨F',h',T1++T2,by rw [←List.append_assoc];exact q1,?_,f1.trans q3,fun S0 g0 w0 ds S2 a w hA hR=>?_⟩
   ·intro i hi
    have h1:i≠p.1:=fun e=>hi (by rw [e];exact .head _)
    have h2:i∉l.map (·.1):=fun e=>hi (.tail _ e)
    rw [q2 i h2];unfold aZ;rw [tQ];simp [h1]
   ·have pH:Agree ((Fp.wr T1).cat (Fp.wr T2)) (hp h) S2:=hA
    have e1:ig (Fp.wr T1) (hp h1) S2=app us S2:=by rw [c1];exact gI c2 (by exact pH.left)
    have Y0:=fE (T:=Fp.wr T1) (S2:=S2) q3
    have xE:=Agree.right f1 pH
    have Tz:R S0 g0 w0 (eX n F1 ds (ig (Fp.wr T1) (hp h1) S2)) a w:=by
     obtain ⟨g,hI,hx,hd,hs,hv⟩:=hR
     rw [e1]
     obtain ⟨g',k1,k2,k3⟩:=c3 g S2 w _ hI pH.left (hv p.1 KA)
     refine ⟨g',k1,hx.trans k2,hd.mono k2.le,hs,fun i hi=>?_⟩
     show V g' (aZ F1.get i) _
     by_cases hip:i=p.1
     ·subst hip
      unfold aZ;rw [tQ];simpa using k3
     ·have:aZ F1.get i=aZ F.get i:=by unfold aZ;rw [tQ];simp [hip]
      rw [this];exact (hv i hi).mono k2.le
    have:=q4 S0 g0 w0 ds _ a w xE Tz
    rw [Y0] at this
    exact this
  ·cases hr
def q9 (E:Env) (cx:Cx) (inr:Bool) (n:Nat) (dr:NQ β):ay→Tr A→H→List Nat→Fp→KC β→Option β
 | .skip,F,h,ds,U,K=>K .normal F h ds U
 | .ret,F,h,ds,U,K=>K .ret F h ds U
 | .exit id,F,h,ds,U,K=>K (.exit id) F h ds U
 | .bad _,_,_,_,_,_=>none
 | .region id ops d,F,h,ds,U,K=>bif d then dr id ops F h U (fun F h U=>K .normal F h ds U) else match NK ops with
  | some x=>bif inr then none else Xf n x F h ds U (fun F h ds U=>K .normal F h ds U)
  | none=>u9 E cx n ops ops F h U (fun F h U=>K .normal F h ds U)
 | .seq x y,F,h,ds,U,K=>q9 E cx inr n dr x F h ds U (Li (fun F h ds U=>q9 E cx inr n dr y F h ds U K) K)
 | .cut J x y,F,h,ds,U,K=>match H5 J F h with
  | some e=>bif zh J e ds F h then
    jn (fun k=>q9 E cx inr n dr x F h ds .no (xh (B0 J n h.aS e.bs e.cs e.qs e.cX ds) k (BN U K)))
     (fun s=>Bn J (lf x++(J.mV.map (·.1)++J.grow.map (·.1))) e.bs e.cs e.cX F h s (fun Fc hc=>q9 E cx inr n dr y Fc hc ds .no (BN (U.cat (jT J h.aS e)) K)))
   else none
  | none=>none
 | .cond c x y,F,h,ds,U,K=>MQ n F c (fun F b=>bif b then q9 E cx inr n dr x F h ds U K else q9 E cx inr n dr y F h ds U K)
 | .block id x,F,h,ds,U,K=>q9 E cx inr n dr x F h ds U (abx id K)
 | .scope x,F,h,ds,U,K=>q9 E cx inr n dr x F h ds U (scC K)
 | .label _,F,h,ds,U,K=>K .normal F h ds U
 | .Mq l x,F,h,ds,U,K=>Xc n l F h [] (fun F h T=>q9 E cx inr n dr x F h ds (U.cat (Fp.wr T)) K)
 | .loop J x,F,h,ds,U,K=>match ym J with
  | some m=>Nat.rec (motive:=fun _=>Tr A→H→List Nat→Fp→Option β) (fun _ _ _ _=>none) (fun _ ih F h ds U=>q9 E cx inr n dr x F h ds U (Li ih K)) m F h ds U
  | none=>match H5 J F h with
  | some e=>bif zh J e ds F h then (match B0 J n h.aS e.bs e.cs e.qs e.cX ds F h ds .no with
   | some s0=>loop (fun k s=>Bn J (lf x++(J.mV.map (·.1)++J.grow.map (·.1))) e.bs e.cs e.cX F h s (fun Fc hc=>q9 E cx inr n dr x Fc hc ds .no (xh (B0 J n h.aS e.bs e.cs e.qs e.cX ds) k (BN (U.cat (jT J h.aS e)) K)))) s0
   | none=>none) else none
  | none=>none
 | .range g ps J aa bd,F,h,ds,U,K=>bif inr then none else match yF n F g with
  | .fn f fi ca=>bif Nat.blt h.aS 16777214 then eP h.t h.aS (some (.cN .zi)) (fun t1=>eP t1 (h.aS+1) (some (.cN (.loop .ready none))) (fun t2=>cx.call β f (fi ++ .rA (h.aS+1) n F ps J aa bd::ca) { h with t:=t2,aS:=h.aS+1+1 } (fun _ h3 T3=>match h3.t.get (h.aS+1) with
   | some (.cN (.loop st pe))=>bif L3 st then none else eP h3.t (h.aS+1) none (fun t4=>match DQ pe with
    | some e=>K e F { h3 with t:=t4 } (h.aS::ds) (U.cat (((Fp.wr [dk h.aS]).cat (.wr [dk (h.aS+1)])).cat (T3.cat (.wr [dk (h.aS+1)]))))
    | none=>none)
   | _=>none))) else none
  | _=>none
def Does (P:Program) (inr:Bool) (n:Nat) (c:Code) (F:Tr A) (h:H) (ds:List Nat) (e:Exit) (F':Tr A) (h':H) (iR:List Nat) (T:Fp):Prop:=
 mI h h' T∧∀ro,(inr=false→ro=none)→∀S0 g0 w0,FC F h F' h' n T (fun Q st=>pw P ro S0 g0 w0 c Q st) e ds iR
def BV (P:Program) (n:Nat) (dr:NQ β):Prop:=
 ∀id ops F h U K (r:β),dr id ops F h U K=some r→∃F' h' T,K F' h' (U.cat T)=some r∧Kp (pL ops) F F'∧∀inr ds,Does P inr n (.region id ops.toArray true) F h ds .normal F' h' ds T
theorem all_eq {S S2:Hp} {l m:List Nat} {w:Bool} (h:Agree ⟨true,l,w,m⟩ S S2):S2=S:=Hp.ext' (fun i=>(h i rfl).1) (fun i=>(h i rfl).2)
theorem yB {S S2:Hp} {l m:List Nat} {w:Bool}:ig ⟨true,l,w,m⟩ S S2=S:=Hp.ext' (fun i=>by
 show (if touch ⟨true,l,w,m⟩ i=true then S.ob i else S2.ob i)=S.ob i
 rw [if_pos (show touch ⟨true,l,w,m⟩ i=true from rfl)]) (fun i=>by
 show (if touch ⟨true,l,w,m⟩ i=true then S.fr i else S2.fr i)↔S.fr i
 rw [if_pos (show touch ⟨true,l,w,m⟩ i=true from rfl)])
theorem DT (J:LH) (N:Nat) (e:Gd) (T:Fp):∃l m w,(jT J N e).cat T=⟨true,l,w,m⟩:=⟨_,_,_,rfl⟩
theorem R.entry {n:Nat} {F:Tr A} {h:H} {ds:List Nat} {S0:Hp} {g0:G} {w0 w:World} {a:Act} (hR:R S0 g0 w0 (eX n F ds (hp h)) a w):(∀i,h.aS≤i→i<cE→fh h.t i=none)∧∀o,h.aS≤o→o<cE→S0.fr o∧g0.bl o=none:=by
 obtain ⟨g,hI,hE,_⟩:=hR
 have hI:Inv g (hp h) w:=hI
 have hE:Ext S0 g0 w0 (hp h) g w:=hE
 have fr:∀o,h.aS≤o→o<cE→(hp h).fr o:=fun o h1 h2=>by show (if o<cE then _ else _);rw [if_pos h2];exact h1
 refine ⟨fun i h1 h2=>?_,fun o h1 h2=>⟨hE.fr o (fr o h1 h2),?_⟩⟩
 ·cases hx:fh h.t i with
  | none=>rfl
  | some x=>
   have eN:(hp h).ob i=some x:=by show (if i<cE then _ else _)=_;rw [if_pos h2];exact hx
   have bF:=hI.fresh i (fr i h1 h2)
   cases x with
   | cells cs=>
    rcases hI.cells i cs eN with ⟨k,_⟩ | ⟨b,t,k,_⟩
    ·rw [bF] at k;cases k
    ·rw [bF] at k;cases k
   | cN x=>
    obtain ⟨b,s,ob,k,_⟩:=hI.cN i x eN
    rw [bF] at k;cases k
 ·have bF:=hI.fresh o (fr o h1 h2)
  cases hx:g0.bl o with
  | none=>rfl
  | some p=>rw [hE.le.bl o p hx] at bF;cases bF
section
variable {J:LH} {kP ds:List Nat} {En:Gd} {F:Tr A} {h:H}
theorem xq {s:J.S} {Fc:Tr A} {hc:H} (k:ov J kP En F h s Fc hc) (hv:∀i,i∈J.mV.map (·.1)++J.grow.map (·.1)→i∈kP):Kp kP F Fc:=by
 have aV:∀(l:List (Nat×Bool×Ty)) (x:jU (l.map (·.2))),(∀i∈l.map (·.1),i∈kP)→Fm (fun i c=>i∉kP→c=aZ F.get i) l x:=fun l=>by
  induction l with
  | nil=>exact fun _ _=>trivial
  | cons p l ih=>exact fun x hh=>⟨fun hn=>absurd (hh p.1 (.head _)) hn,ih x.2 (fun i hi=>hh i (.tail _ hi))⟩
 have aW:∀(l:List (Nat×Ty)) (j:Nat),(∀i∈l.map (·.1),i∈kP)→Fl (fun i c=>i∉kP→c=aZ F.get i) l j:=fun l=>by
  induction l with
  | nil=>exact fun _ _=>trivial
  | cons p l ih=>exact fun j hh=>⟨fun hn=>absurd (hh p.1 (.head _)) hn,ih (j+1) (fun i hi=>hh i (.tail _ hi))⟩
 exact k.F (fun i c=>i∉kP→c=aZ F.get i) (fun i h1 h2=>absurd h1 h2) (fun i _ _=>rfl) (aV _ _ (fun i hi=>hv i (zQ _ hi))) (aW _ _ (fun i hi=>hv i (zS _ hi)))
theorem SB {n:Nat} {s s':J.S} {Fc NP F1:Tr A} {hc B7 h1:H} {lH:List Nat} {T1:Fp} (E:rz J En ds F h) (k:ov J kP En F h s Fc hc) (k':ov J kP En F h s' NP B7) (hv:∀i,i∈J.mV.map (·.1)++J.grow.map (·.1)→i∈kP)
  (Y_:Kp kP Fc F1) (nq:mI hc h1 T1) (HA:B0 J n h.aS En.bs En.cs En.qs En.cX ds F1 h1 lH T1=some s') {S0:Hp} {g0:G} {w0 w:World} {a:Act} (n6:∀i,h.aS≤i→i<cE→fh h.t i=none) (hf:∀o,h.aS≤o→o<cE→S0.fr o∧g0.bl o=none)
  (hR:R S0 g0 w0 (eX n F1 lH (hp h1)) a w):R S0 g0 w0 (eX n NP ds (hp B7)) a w:=by
 obtain ⟨j1,j2,_⟩:=qK E k
 have hw:=HA
 unfold B0 at hw
 obtain ⟨B6,_⟩:=ah hw
 rw [zC,zC] at B6
 have YO:=E.top
 exact Kd E n6 (fun i hi=>(Y_ i hi).trans (xq k hv i hi)) (fun i hi hn=>(nq.rd i (wc B6.1.1 (by omega) hi hn)).1.trans (j1 i hi (fun h=>hn (by
   rcases zX.1 h with h | h
   ·exact zQ _ h
   ·exact zS _ (zQ _ h)))))
  (fun i hl hk=>by
   have e1:=nq.rd i (wb B6.1.1 hl hk)
   have e2:=j2 i hl hk
   exact ⟨e1.1.trans e2.1,e1.2.trans e2.2⟩) HA k' hf hR
theorem KO {n:Nat} {s':J.S} {NP F1:Tr A} {B7 h1:H} {lH:List Nat} {T1:Fp} (E:rz J En ds F h) (k':ov J kP En F h s' NP B7)
  (Y_:Kp kP F F1) (nq:mI h h1 T1) (HA:B0 J n h.aS En.bs En.cs En.qs En.cX ds F1 h1 lH T1=some s') {S0:Hp} {g0:G} {w0 w:World} {a:Act} (n6:∀i,h.aS≤i→i<cE→fh h.t i=none) (hf:∀o,h.aS≤o→o<cE→S0.fr o∧g0.bl o=none)
  (hR:R S0 g0 w0 (eX n F1 lH (hp h1)) a w):R S0 g0 w0 (eX n NP ds (hp B7)) a w:=by
 have hw:=HA
 unfold B0 at hw
 obtain ⟨B6,_⟩:=ah hw
 rw [zC,zC] at B6
 have YO:=E.top
 exact Kd E n6 (fun i hi=>Y_ i hi) (fun i hi hn=>(nq.rd i (wc B6.1.1 (by omega) hi hn)).1) (fun i hl hk=>nq.rd i (wb B6.1.1 hl hk)) HA k' hf hR
theorem DW {s:J.S} {Fc:Tr A} {hc:H} (E:rz J En ds F h) (k:ov J kP En F h s Fc hc):mI h hc (jT J h.aS En):=⟨fun i hi=>(by cases hi),(qK E k).2.2⟩
theorem vB {σ:Type} {pj:Tr A→H→List Nat→Fp→Option σ} {k:σ→Option β} {K:KC β} {e:Exit} {T:Fp} (hr:xh pj k K e F h ds T=some r):(e = .normal∧∃s,pj F h ds T=some s∧k s=some r)∨(e≠.normal∧K e F h ds T=some r):=by
 unfold xh at hr
 split at hr
 ·split at hr
  ·rename_i s hs;exact .inl ⟨rfl,s,hs,hr⟩
  ·cases hr
 ·rename_i kF;exact .inr ⟨kF,hr⟩
theorem yK {inr:Bool} {n:Nat} {x:ay} {dr:NQ β} {E:Env} {cx:Cx} {K:KC β} {U:Fp} (hx:∀(F:Tr A) (h:H) (ds:List Nat) (U:Fp) (K:KC β),q9 E cx inr n dr x F h ds U K=some r→∃e F' h' iR T,K e F' h' iR (U.cat T)=some r∧Kp (lf x) F F'∧Does P inr n x.code F h ds e F' h' iR T)
  (EO:rz J En ds F h) (hv:∀i,i∈J.mV.map (·.1)++J.grow.map (·.1)→i∈kP) (ha:∀i,i∈lf x→i∈kP):∀(m:Nat) (s:J.S),iter (fun k s=>Bn J kP En.bs En.cs En.cX F h s (fun Fc hc=>q9 E cx inr n dr x Fc hc ds .no (xh (B0 J n h.aS En.bs En.cs En.qs En.cX ds) k (BN (U.cat (jT J h.aS En)) K)))) m s=some r →
  ∃Fc hc,ov J kP En F h s Fc hc∧∃e F' h' iR T,K e F' h' iR (U.cat ((jT J h.aS En).cat T))=some r∧Kp kP F F'∧mI h h' ((jT J h.aS En).cat T) ∧
   ∀ro,(inr=false→ro=none)→∀S0 g0 w0,(∀i,h.aS≤i→i<cE→fh h.t i=none)→(∀o,h.aS≤o→o<cE→S0.fr o∧g0.bl o=none)→∀Q:Exit→St→Prop,Q e (eX n F' iR (hp h'))→∀a w,R S0 g0 w0 (eX n Fc ds (hp hc)) a w→Code.roundsIn (FR ro) 0 P x.code (lift S0 g0 w0 Q) m a w
 | 0,s,hr=>by cases hr
 | m+1,s,hr=>by
  obtain ⟨Fc,hc,k1,k2⟩:=vG (show Bn J kP En.bs En.cs En.cX F h s (fun Fc hc=>q9 E cx inr n dr x Fc hc ds .no (xh (B0 J n h.aS En.bs En.cs En.qs En.cX ds) (iter (fun k s=>Bn J kP En.bs En.cs En.cX F h s (fun Fc hc=>q9 E cx inr n dr x Fc hc ds .no (xh (B0 J n h.aS En.bs En.cs En.qs En.cX ds) k (BN (U.cat (jT J h.aS En)) K)))) m) (BN (U.cat (jT J h.aS En)) K)))=some r from hr)
  obtain ⟨e1,F1,h1,lH,T1,k3,k4,k5,k6⟩:=hx Fc hc ds .no _ k1
  rw [Fp.oQ] at k3
  refine ⟨Fc,hc,k2,?_⟩
  rcases vB k3 with ⟨rfl,s',q1,q2⟩ | ⟨kF,q1⟩
  ·obtain ⟨NP,B7,u1,e,F',h',iR,T,u2,u3,u4,u5⟩:=yK hx EO hv ha m s' q2
   refine ⟨e,F',h',iR,T,u2,u3,u4,fun ro jx S0 g0 w0 n6 hf Q hq a w hR=>?_⟩
   rw [roundsIn_succ]
   refine wpIn_mono (k6 ro jx S0 g0 w0 (hp hc) Agree.self (fun e st=>e = .normal∧st=eX n F1 lH (hp h1)) ⟨rfl,by rw [pR k5]⟩ a w hR) ?_
   rintro e2 a2 w2 ⟨st,Mm,rfl,rfl⟩
   exact u5 ro jx S0 g0 w0 n6 hf Q hq a2 w2 (SB EO k2 u1 hv (k4.mono ha) k5 q1 n6 hf Mm)
  ·refine ⟨e1,F1,h1,lH,T1,by rw [←Fp.iE];exact q1,(xq k2 hv).trans k4 (fun i hi=>hi) ha,(DW EO k2).trans k5,fun ro jx S0 g0 w0 n6 hf Q hq a w hR=>?_⟩
   rw [roundsIn_succ]
   refine wpIn_mono (k6 ro jx S0 g0 w0 (hp hc) Agree.self (fun e st=>e=e1∧st=eX n F1 lH (hp h1)) ⟨rfl,by rw [pR k5]⟩ a w hR) ?_
   rintro e2 a2 w2 ⟨st,Mm,rfl,rfl⟩
   have hl:lift S0 g0 w0 Q e2 a2 w2:=⟨_,Mm,hq⟩
   cases e2 with
   | normal=>exact absurd rfl kF
   | _=>exact hl
end
theorem Cl {inr:Bool} {n:Nat} {x:ay} {dr:NQ β} {E:Env} {cx:Cx} {K:KC β} {r:β} (hx:∀(F:Tr A) (h:H) (ds:List Nat) (U:Fp) (K:KC β),q9 E cx inr n dr x F h ds U K=some r→∃e F' h' iR T,K e F' h' iR (U.cat T)=some r∧Kp (lf x) F F'∧Does P inr n x.code F h ds e F' h' iR T) :
  ∀(m:Nat) (F:Tr A) (h:H) (ds:List Nat) (U:Fp),Nat.rec (motive:=fun _=>Tr A→H→List Nat→Fp→Option β) (fun _ _ _ _=>none) (fun _ ih F h ds U=>q9 E cx inr n dr x F h ds U (Li ih K)) m F h ds U=some r →
  ∃e F' h' iR T,K e F' h' iR (U.cat T)=some r∧Kp (lf x) F F'∧mI h h' T∧∀ro,(inr=false→ro=none)→∀S0 g0 w0 S2,Agree T (hp h) S2→∀Q:Exit→St→Prop,Q e (eX n F' iR (ig T (hp h') S2))→∀a w,R S0 g0 w0 (eX n F ds S2) a w→Code.roundsIn (FR ro) 0 P x.code (lift S0 g0 w0 Q) m a w
 | 0,F,h,ds,U,hr=>by cases hr
 | m+1,F,h,ds,U,hr=>by
  obtain ⟨e1,F1,h1,lH,T1,k1,kp,k2,k3⟩:=hx F h ds U _ hr
  by_cases kF:e1 = .normal
  ·subst kF
   obtain ⟨e,F2,h2,wK,T2,q1,qp,q2,q3⟩:=Cl hx m F1 h1 lH _ k1
   refine ⟨e,F2,h2,wK,T1.cat T2,by rw [←Fp.iE];exact q1,kp.trans qp (fun i hi=>hi) (fun i hi=>hi),k2.trans q2,fun ro jx S0 g0 w0 S2 hA Q hq a w hR=>?_⟩
   rw [roundsIn_succ]
   refine wpIn_mono (k3 ro jx S0 g0 w0 S2 hA.left (fun e st=>e = .normal∧st=eX n F1 lH (ig T1 (hp h1) S2)) ⟨rfl,rfl⟩ a w hR) ?_
   rintro e2 a2 w2 ⟨st,Mm,rfl,rfl⟩
   exact q3 ro jx S0 g0 w0 _ (Agree.right k2 hA) Q (by rw [fE q2];exact hq) a2 w2 Mm
  ·have k4:K e1 F1 h1 lH (U.cat T1)=some r:=by
    cases e1 with
    | normal=>exact absurd rfl kF
    | _=>exact k1
   refine ⟨e1,F1,h1,lH,T1,k4,kp,k2,fun ro jx S0 g0 w0 S2 hA Q hq a w hR=>?_⟩
   rw [roundsIn_succ]
   refine wpIn_mono (k3 ro jx S0 g0 w0 S2 hA (fun e st=>e=e1∧st=eX n F1 lH (ig T1 (hp h1) S2)) ⟨rfl,rfl⟩ a w hR) ?_
   rintro e2 a2 w2 ⟨st,Mm,rfl,rfl⟩
   have hl:lift S0 g0 w0 Q e2 a2 w2:=⟨_,Mm,hq⟩
   cases e2 with
   | normal=>exact absurd rfl kF
   | _=>exact hl
theorem MF {l:List Oper} {x:Nat×Nat×Nat} (h:NK l=some x):∃o1 o2 c,l=[o1,o2]∧o1.op = .move (.tmp x.1)∧o1.dst=some x.2.1∧o1.guard=none∧o2.op = .defer c∧o2.guard=none∧o2.dst=none∧c.callee = .value (.func x.2.2)∧c.args.toList=[.tmp x.2.1]:=by
 unfold NK at h
 split at h
 ·rename_i o1 o2
  split at h
  ·rename_i s a c e1 e2 e3 e4 e5 e6
   split at h
   ·rename_i f b e7 e8
    obtain ⟨e9,h⟩:=ah h
    have e9:=beq_eq e9
    cases h
    exact ⟨o1,o2,c,rfl,e1,e2,e3,e4,e5,e6,e7,by rw [e8,e9]⟩
   ·cases h
  ·cases h
 ·cases h
theorem MG {P:Program} {n:Nat} (id:Nat) {ops:List Oper} {x:Nat×Nat×Nat} {F:Tr A} {h:H} {ds:List Nat} {U:Fp} {K:Tr A→H→List Nat→Fp→Option β} {r:β} (hd:NK ops=some x) (hr:Xf n x F h ds U K=some r) :
  ∃F' iR,K F' h iR U=some r∧Kp (pL ops) F F'∧∀S0 g0 w0 Q S2,Q .normal (eX n F' iR S2)→pw P none S0 g0 w0 (.region id ops.toArray false) Q (eX n F ds S2):=by
 obtain ⟨s,a,f⟩:=x
 obtain ⟨o1,o2,c,rfl,e1,e2,e3,e4,e5,e6,e7,e8⟩:=MF hd
 simp only at e1 e2 e7 e8
 unfold Xf at hr
 simp only at hr
 split at hr
 ·rename_i q off hs
  obtain ⟨hq,sB⟩:=ah hr
  clear hr
  simp only [zC] at hq
  have h0:=beq_eq hq.1.1.1
  have hq0:=ba hq.1.1.2
  have FZ:=ba hq.1.2
  have han:=ba hq.2
  subst h0
  obtain ⟨_,F1,hr,tQ⟩:=bm sB
  have rC:∀S2:Hp,(eX n F ds S2).put (some a) (.ptr q 0)=eX n F1 ds S2:=fun S2=>by
   simp only [St.put,eX]
   congr 1
   funext i
   simp only [aZ,tQ]
   by_cases hi:i=a
   ·rw [if_pos hi,if_pos hi]
   ·rw [if_neg hi,if_neg hi]
  refine ⟨F1,_,hr,?_,fun S0 g0 w0 Q S2 hQ=>sn (vb (pv:=.ptr q 0) (S':=S2) 0 e3 ?_ ?_)⟩
  ·intro i hi
   have hi:i≠a:=fun hh=>hi (by subst hh;simp [pL,e2,e6])
   simp only [aZ,tQ,if_neg hi]
  ·have e:(eX n F ds S2).uF 0 (.tmp s) = .ptr q 0:=(show (if s<n then aZ F.get s else A.cD)=_ from (if_pos FZ).trans hs)
   have:=vj (P:=P) (S:=S2) (ρ:=(eX n F ds S2).uF 0) e1
   rw [e] at this
   exact this.Kj (by rw [e1];intro c e;cases e)
  ·intro act w hR
   rw [e2,rC] at hR
   have hR:R S0 g0 w0 (eX n F1 ds S2) act w:=hR
   obtain ⟨g,h0,h1,h2,h3,h4⟩:=hR
   refine wpListIn_plain e5 (fun K hK=>⟨fun _ _=>trivial,?_⟩)
   have hv:=h4 a (show a<n from han)
   have hv:V g (aZ F1.get a) (act.tmps.getD a undef):=hv
   rw [show aZ F1.get a = .ptr q 0 by simp only [aZ,tQ,if_pos]] at hv
   have eH:(Oper.semAt (FR none).round act.eval o2).run P w = .ok (.defer (xR (q+16777216*(f+1)) (act.tmps.getD a undef))) w:=by
    show (execOp act.eval o2).run P w=_
    have ed:(q+16777216*(f+1)) / 16777216-1=f:=by omega
    obtain ⟨cal,args,tys⟩:=c
    simp only at e7 e8
    subst e7
    have ea:args = #[.tmp a]:=by apply Array.ext';simpa using e8
    subst ea
    simp [execOp,e4,resolve,xR,ed,Act.eval,Deferred.ofValue]
   rw [eH]
   refine hK _ _ ?_
   rw [e6]
   refine ⟨eX n F1 ((q+16777216*(f+1))::ds) S2,⟨g,h0,h1,⟨?_,fun i d e k1 k2=>?_⟩,h3,h4⟩,hQ⟩
   ·have:=h2.1;simp only [eX,Act.put,zR] at this ⊢;omega
   ·cases i with
    | zero=>
     simp [eX,Act.put] at k1 k2
     subst k1 k2
     refine ⟨fun hd=>absurd hd (by omega),fun _=>⟨_,?_,rfl⟩⟩
     rw [show (q+16777216*(f+1))%16777216=q by omega]
     simpa using hv
    | succ i=>exact h2.2 i d e (by simpa [eX] using k1) (by simpa [Act.put] using k2)
 ·cases hr
theorem gY {inr:Bool} {dr:NQ β} (hE:bR P E) (hx:kO P cx) (qV:BV P n dr):∀(c:ay) (F:Tr A) (h:H) (ds:List Nat) (U:Fp) (K:KC β),q9 E cx inr n dr c F h ds U K=some r →
  ∃e F' h' iR T,K e F' h' iR (U.cat T)=some r∧Kp (lf c) F F'∧Does P inr n c.code F h ds e F' h' iR T
 | .skip,F,h,ds,U,K,hr=>⟨.normal,F,h,ds,.no,by rw [Fp.o7];exact hr,.refl _ F,.refl h,fun ro jx S0 g0 w0 S2 hA Q hq=>by rw [oN] at hq;exact GD hq⟩
 | .ret,F,h,ds,U,K,hr=>⟨.ret,F,h,ds,.no,by rw [Fp.o7];exact hr,.refl _ F,.refl h,fun ro jx S0 g0 w0 S2 hA Q hq=>by rw [oN] at hq;exact Lt hq⟩
 | .exit id,F,h,ds,U,K,hr=>⟨.exit id,F,h,ds,.no,by rw [Fp.o7];exact hr,.refl _ F,.refl h,fun ro jx S0 g0 w0 S2 hA Q hq=>by rw [oN] at hq;exact GF hq⟩
 | .bad _,F,h,ds,U,K,hr=>by cases hr
 | .region id ops d,F,h,ds,U,K,hr=>by
  cases d with
  | true=>
   obtain ⟨F',h',T,k1,kp,k2⟩:=qV id ops F h U _ r hr
   exact ⟨.normal,F',h',ds,T,k1,kp,k2 inr ds⟩
  | false=>
   have hr:(match NK ops with
    | some x=>bif inr then none else Xf n x F h ds U (fun F h ds U=>K .normal F h ds U)
    | none=>u9 E cx n ops ops F h U (fun F h U=>K .normal F h ds U))=some r:=hr
   cases Zq:NK ops with
   | some x=>
    rw [Zq] at hr
    cases inr with
    | true=>cases hr
    | false=>
     obtain ⟨F',iR,k1,kp,k3⟩:=MG (P:=P) id Zq hr
     exact ⟨.normal,F',h,iR,.no,by rw [Fp.o7];exact k1,kp,.refl h,fun ro jx S0 g0 w0 S2 hA Q hq=>by
      rw [oN] at hq
      obtain rfl:=jx rfl
      exact k3 S0 g0 w0 Q S2 hq⟩
   | none=>
   rw [Zq] at hr
   obtain ⟨F',h',T,k1,kp,k2,k3⟩:=s7 hE hx ops F h U _ hr
   exact ⟨.normal,F',h',ds,T,k1,kp,k2,fun ro jx S0 g0 w0 S2 hA Q hq=>sn (k3 ro S0 g0 w0 ds S2 hA Q hq)⟩
 | .seq x y,F,h,ds,U,K,hr=>by
  obtain ⟨e,F1,h1,lH,T1,k1,kp,k2,k3⟩:=gY hE hx qV x F h ds U _ hr
  cases e with
  | normal=>
   obtain ⟨e,F2,h2,wK,T2,q1,qp,q2,q3⟩:=gY hE hx qV y F1 h1 lH _ K k1
   refine ⟨e,F2,h2,wK,T1.cat T2,by rw [←Fp.iE];exact q1,kp.trans qp (fun i hi=>zQ _ hi) (fun i hi=>zS _ hi),k2.trans q2,fun ro jx S0 g0 w0 S2 hA Q hq=>?_⟩
   refine ta (k3 ro jx S0 g0 w0 S2 hA.left _ ?_)
   refine q3 ro jx S0 g0 w0 _ (Agree.right k2 hA) Q ?_
   rw [fE q2];exact hq
  | _=>exact ⟨_,F1,h1,lH,T1,k1,kp.mono (fun i hi=>zQ _ hi),k2,fun ro jx S0 g0 w0 S2 hA Q hq=>ta (k3 ro jx S0 g0 w0 S2 hA _ hq)⟩
 | .cut J x y,F,h,ds,U,K,hr=>by
  have hr:(match H5 J F h with | some e=>_ | none=>none)=some r:=hr
  split at hr
  ·rename_i En Tt
   obtain ⟨ho,hr⟩:=ah hr
   have EO:=v5 ho
   have hv:∀i,i∈J.mV.map (·.1)++J.grow.map (·.1)→i∈lf x++(J.mV.map (·.1)++J.grow.map (·.1)):=fun i hi=>zS _ hi
   obtain ⟨e1,F1,h1,lH,T1,k1,kp,k2,k3⟩:=gY hE hx qV x F h ds .no _ (show q9 E cx inr n dr x F h ds .no _=some r from (eo _ _).symm.trans hr)
   rw [Fp.oQ] at k1
   rcases vB k1 with ⟨rfl,s,q1,q2⟩ | ⟨kF,q1⟩
   ·obtain ⟨Fc,hc,u1,u2⟩:=vG q2
    obtain ⟨e,F2,h2,wK,T2,u3,u4,u5,u6⟩:=gY hE hx qV y Fc hc ds .no _ u1
    rw [Fp.oQ] at u3
    have u3:K e F2 h2 wK ((U.cat (jT J h.aS En)).cat T2)=some r:=u3
    refine ⟨e,F2,h2,wK,(jT J h.aS En).cat T2,by rw [←Fp.iE];exact u3,(xq u2 hv).trans u4 (fun i hi=>zQ _ hi) (fun i hi=>zS _ hi),(DW EO u2).trans u5,fun ro jx S0 g0 w0 S2 hA Q hq=>?_⟩
    obtain ⟨l,m,w,ej⟩:=DT J h.aS En T2
    rw [ej] at hA hq
    rw [yB] at hq
    rw [all_eq hA]
    intro a w hR
    obtain ⟨n6,hf⟩:=hR.entry
    refine ta (k3 ro jx S0 g0 w0 (hp h) Agree.self _ ?_) a w hR
    rw [pR k2]
    intro a1 w1 Tz
    refine u6 ro jx S0 g0 w0 (hp hc) Agree.self Q ?_ a1 w1 (KO EO u2 (kp.mono (fun i hi=>zQ _ hi)) k2 q1 n6 hf Tz)
    rw [pR u5];exact hq
   ·refine ⟨e1,F1,h1,lH,T1,q1,kp.mono (fun i hi=>zQ _ (zQ _ hi)),k2,fun ro jx S0 g0 w0 S2 hA Q hq=>ta (k3 ro jx S0 g0 w0 S2 hA _ ?_)⟩
    cases e1 with
    | normal=>exact absurd rfl kF
    | _=>exact hq
  ·cases hr
 | .cond c x y,F,h,ds,U,K,hr=>by
  obtain ⟨F1,b,k1,k2,k3⟩:=Ib hr
  cases b with
  | true=>
   obtain ⟨e,F2,h2,wK,T2,q1,qp,q2,q3⟩:=gY hE hx qV x F1 h ds U K k1
   refine ⟨e,F2,h2,wK,T2,q1,(Kp.of (l:=[]) k2).trans qp (fun i hi=>by cases hi) (fun i hi=>zQ _ hi),q2,fun ro jx S0 g0 w0 S2 hA Q hq=>?_⟩
   refine yx (b:=true) (by rw [←oO];exact k3) (fun _=>?_) (fun h=>by cases h)
   rw [←k2]
   exact q3 ro jx S0 g0 w0 S2 hA Q hq
  | false=>
   obtain ⟨e,F2,h2,wK,T2,q1,qp,q2,q3⟩:=gY hE hx qV y F1 h ds U K k1
   refine ⟨e,F2,h2,wK,T2,q1,(Kp.of (l:=[]) k2).trans qp (fun i hi=>by cases hi) (fun i hi=>zS _ hi),q2,fun ro jx S0 g0 w0 S2 hA Q hq=>?_⟩
   refine yx (b:=false) (by rw [←oO];exact k3) (fun h=>by cases h) (fun _=>?_)
   rw [←k2]
   exact q3 ro jx S0 g0 w0 S2 hA Q hq
 | .block id x,F,h,ds,U,K,hr=>by
  obtain ⟨e,F1,h1,lH,T1,k1,kp,k2,k3⟩:=gY hE hx qV x F h ds U _ hr
  cases e with
  | exit i=>
   have kk:(bif Nat.beq i id then K .normal F1 h1 lH (U.cat T1) else K (.exit i) F1 h1 lH (U.cat T1))=some r:=k1
   cases hb:Nat.beq i id with
   | true=>
    rw [hb] at kk
    obtain rfl:=beq_eq hb
    refine ⟨.normal,F1,h1,lH,T1,kk,kp,k2,fun ro jx S0 g0 w0 S2 hA Q hq=>qy (k3 ro jx S0 g0 w0 S2 hA _ ?_)⟩
    show (if i=i then Q .normal _ else _)
    rw [if_pos rfl];exact hq
   | false=>
    rw [hb] at kk
    refine ⟨.exit i,F1,h1,lH,T1,kk,kp,k2,fun ro jx S0 g0 w0 S2 hA Q hq=>qy (k3 ro jx S0 g0 w0 S2 hA _ ?_)⟩
    show (if i=id then _ else Q (.exit i) _)
    rw [if_neg (fun e=>by rw [e,Nat.beq_refl] at hb;cases hb)];exact hq
  | _=>exact ⟨_,F1,h1,lH,T1,k1,kp,k2,fun ro jx S0 g0 w0 S2 hA Q hq=>qy (k3 ro jx S0 g0 w0 S2 hA _ hq)⟩
 | .scope x,F,h,ds,U,K,hr=>by
  obtain ⟨e,F1,h1,lH,T1,k1,kp,k2,k3⟩:=gY hE hx qV x F h ds U _ hr
  cases e with
  | goto l=>cases k1
  | _=>exact ⟨_,F1,h1,lH,T1,k1,kp,k2,fun ro jx S0 g0 w0 S2 hA Q hq=>C0 (k3 ro jx S0 g0 w0 S2 hA _ hq)⟩
 | .label l,F,h,ds,U,K,hr=>⟨.normal,F,h,ds,.no,by rw [Fp.o7];exact hr,.refl _ F,.refl h,fun ro jx S0 g0 w0 S2 hA Q hq=>by rw [oN] at hq;exact C1 hq⟩
 | .Mq l x,F,h,ds,U,K,hr=>by
  obtain ⟨F1,h1,T1,k1,k2,k3,k4⟩:=Ev l F h [] (show Xc n l F h [] _=some r from hr)
  obtain ⟨e,F2,h2,wK,T2,q1,qp,q2,q3⟩:=gY hE hx qV x F1 h1 ds _ K k1
  refine ⟨e,F2,h2,wK,(Fp.wr T1).cat T2,by rw [←Fp.iE];exact q1,k2.trans qp (fun i hi=>zQ _ hi) (fun i hi=>zS _ hi),k3.trans q2,fun ro jx S0 g0 w0 S2 hA Q hq a w hR=>?_⟩
  refine q3 ro jx S0 g0 w0 _ (Agree.right k3 hA) Q (by rw [fE q2];exact hq) a w (k4 S0 g0 w0 ds S2 a w hA.left hR)
 | .loop J x,F,h,ds,U,K,hr=>by
  have hr:(match ym J with | some m=>_ | none=>(match H5 J F h with | some e=>_ | none=>none))=some r:=hr
  split at hr
  ·rename_i m _
   obtain ⟨e,F',h',iR,T,u2,u3,u4,u5⟩:=Cl (P:=P) (fun F h ds U K hr=>gY hE hx qV x F h ds U K hr) m F h ds U hr
   exact ⟨e,F',h',iR,T,u2,u3.mono (fun i hi=>zQ _ hi),u4,fun ro jx S0 g0 w0 S2 hA Q hq a w hR=>wpIn_loop_rounds m (u5 ro jx S0 g0 w0 S2 hA Q hq a w hR)⟩
  split at hr
  ·rename_i En Tt
   obtain ⟨ho,hr⟩:=ah hr
   split at hr
   ·rename_i s0 hs0
    have EO:=v5 ho
    have hv:∀i,i∈J.mV.map (·.1)++J.grow.map (·.1)→i∈lf x++(J.mV.map (·.1)++J.grow.map (·.1)):=fun i hi=>zS _ hi
    obtain ⟨Fc,hc,u1,e,F',h',iR,T,u2,u3,u4,u5⟩:=yK (P:=P) (fun F h ds U K hr=>gY hE hx qV x F h ds U K hr) EO hv (fun i hi=>zQ _ hi) lz s0 ((nS _ _).symm.trans hr)
    refine ⟨e,F',h',iR,_,u2,u3,u4,fun ro jx S0 g0 w0 S2 hA Q hq=>?_⟩
    obtain ⟨l,m,w,ej⟩:=DT J h.aS En T
    rw [ej] at hA hq
    rw [yB] at hq
    rw [all_eq hA]
    intro a w hR
    obtain ⟨n6,hf⟩:=hR.entry
    exact wpIn_loop_rounds lz (u5 ro jx S0 g0 w0 n6 hf Q hq a w (KO (T1:=.no) EO u1 (.refl _ F) (.refl h) hs0 n6 hf hR))
   ·cases hr
  ·cases hr
 | .range g ps J aa bd,F,h,ds,U,K,hr=>by
  have hr:(bif inr then none else _)=some r:=hr
  obtain ⟨Zh,hr⟩:=iT hr
  split at hr
  ·rename_i f fi ca hf
   obtain ⟨hn,hr⟩:=ah hr
   have hn:=ba hn
   obtain ⟨_,t1,hr,SU⟩:=bm hr
   obtain ⟨_,t2,hr,YQ⟩:=bm hr
   obtain ⟨pv,h3,T3,hr,k2⟩:=hx.call β f _ _ _ r hr
   split at hr
   ·rename_i st pe h3q
    obtain ⟨hb,hr⟩:=iT hr
    obtain ⟨_,t4,hr,ht4⟩:=bm hr
    split at hr
    ·rename_i e hj
     obtain ⟨f1,v1⟩:=yI (h:=h) (x:=.cN .zi) (by omega) SU
     obtain ⟨f2,v2⟩:=yI (h:={ h with t:=t1,aS:=h.aS+1 }) (x:=.cN (.loop .ready none)) (show h.aS+1<16777216 by omega) YQ
     have f3:mI { h with t:=t2,aS:=h.aS+1+1 } h3 T3:=⟨k2.out,k2.rd⟩
     obtain ⟨f4,v4⟩:=zj (h:=h3) (q:=h.aS+1) (by omega) ht4
     have f12:=f1.trans f2
     have f34:=f3.trans f4
     refine ⟨e,F,{ h3 with t:=t4 },h.aS::ds,_,hr,.refl _ F,f12.trans f34,fun ro jx S0 g0 w0 S2 hA Q hq=>?_⟩
     obtain rfl:=jx Zh
     have Em:=hA.left
     have xD:=Agree.right f12 hA
     rw [←fE f34,←fE f4] at hq
     rw [←fE f2] at xD hq
     have A1:=Em.left
     have A2:=Agree.right f1 Em
     have A3:=xD.left
     have A4:=Agree.right f3 xD
     have HI:S2.fr h.aS:=(A1 h.aS (aB (o:=h.aS) (by omega) (.head _))).2.2 (by show (if h.aS<cE then h.aS≤h.aS else _);rw [if_pos (show h.aS<cE by unfold cE;omega)];exact Nat.le_refl _)
     have Tj:(ig (.wr [dk h.aS]) (hp { h with t:=t1,aS:=h.aS+1 }) S2).fr (h.aS+1):=(A2 (h.aS+1) (aB (o:=h.aS+1) (by omega) (.head _))).2.2 (by show (if h.aS+1<cE then h.aS+1≤h.aS+1 else _);rw [if_pos (show h.aS+1<cE by unfold cE;omega)];exact Nat.le_refl _)
     have vJ:=zw (x:=.cN (.loop st pe)) (by omega) h3q A4 (.head _)
     rw [v2 _ A2] at A3 A4 vJ hq
     rw [v4 _ A4] at hq
     rw [v1 _ A1] at Tj A3 A4 vJ hq
     rintro a w ⟨gg,hI,hxx,hd,hs,hv⟩
     have hI:Inv gg S2 w:=hI
     have hs:a.tmps.size=n:=hs
     refine wpIn_rangeFunc (fun fn _=>?_)
     obtain ⟨i1,x1⟩:=hI.alloc (s:=(0,0)) HI (x:=.cN .zi) (ob:=.deferred (some [])) ⟨_,heap_alloc_new w _,rfl⟩
     have q1:=b_ (g:=gg) (o:=h.aS) (p:=(some w.heap.size,(0,0)))
     generalize jr gg h.aS (some w.heap.size,(0,0))=g1 at i1 x1 q1
     obtain ⟨rr,D2⟩:∃rr:Loop,rr={ state:=.ready,pending:=none,fn,tmps:=a.tmps,params:=ps.toArray,assign:=aa.code,body:=bd.code,defers:=w.heap.size }:=⟨_,rfl⟩
     obtain ⟨g2,i2,x2,q2,l2⟩:=i1.Sw Tj rr
     have nW:(w.alloc (.deferred (some []))).heap.size=w.heap.size+1:=Array.size_push _
     rw [nW] at q2 l2
     have hu:=wu (st:=eX n F ds S2) hs hv 0 g
     rw [←oO,hf] at hu
     generalize hev:a.eval g=u at hu
     cases hu with
     | fn _ _ _ fv cv Mg NG h1 h2=>
     obtain ⟨w1,Kv⟩:∃w1,w1=(w.alloc (.deferred (some []))).alloc (.loop rr):=⟨_,rfl⟩
     rw [←Kv] at i2 x2
     rw [show rr.state = .ready by rw [D2],show rr.pending=none by rw [D2]] at i2 x2
     refine ⟨w.heap.size+1,[{ target:=.collected w.heap.size,args:=#[] }],w1,{ target:=.fn (.func f) cv,args:=fv ++ #[.func (.yield (w.heap.size+1)) #[] #[]] },w1,f,(fv.toList ++ .func (.yield (w.heap.size+1)) #[] #[]::cv.toList).toArray,w1,?_,?_,fun f' _=>trivial,?_,fun h=>by simp [FR,Fence.wide] at h,rm ?_⟩
     ·rw [Kv,D2];exact run_enterLoop_outer fn a.tmps ps.toArray aa.code bd.code
     ·simp only [resolve,hev,Deferred.ofValue,Sem.run_pure]
      congr 3
      simp [Act.eval]
     ·have h2:=k2.fn.run ((fv.toList ++ .func (.yield (w.heap.size+1)) #[] #[]::cv.toList).toArray) w1
      simp only [invoke]
      rw [show fv ++ #[.func (.yield (w.heap.size+1)) #[] #[]]++cv=(fv.toList ++ .func (.yield (w.heap.size+1)) #[] #[]::cv.toList).toArray by apply Array.ext';simp]
      exact h2
     ·have hle:=x1.le.trans x2.le
      refine (k2.ok _ A3 g2 w1 (fv.toList ++ .func (.yield (w.heap.size+1)) #[] #[]::cv.toList) i2 (by simp [Mg,NG]) (SC (by simp [Mg]) (fun i c x e1 e2=>(h1 i c x e1 (by simpa using e2)).mono hle)
       (.rA _ n F ps J aa bd _ _ _ q2 l2 (by rw [D2];rfl) (by rw [D2];rfl) (by rw [D2];rfl) (by rw [D2];exact hs) (fun i hi=>by rw [D2];exact (hv i hi).mono hle)) (fun i c x e1 e2=>(h2 i c x e1 (by simpa using e2)).mono hle))).mono ?_
      rintro e1 w3 ⟨v,g3,rfl,_,i3,x3⟩
      obtain ⟨b3,s3,ob3,k1,oC,k3⟩:=i3.cN (h.aS+1) _ vJ
      have hb3:=x3.le.bl _ _ q2
      rw [k1] at hb3
      obtain ⟨rfl,rfl⟩:b3=w.heap.size+1∧s3=(0,0):=by simpa using hb3
      obtain ⟨r3,rfl,r1,r2⟩:=k3
      have xA:=run_endLoop (P:=P) oC (by rw [r1];intro hh;rw [hh] at hb;cases hb)
      obtain ⟨i4,x4⟩:=i3.CH (st':=.exhausted) (pe':=r3.pending) vJ k1 oC
      have vM:∀(S:Hp) o ob,(S.del (h.aS+1)).ob o=some ob→(S.set (h.aS+1) (.cN (.loop .exhausted r3.pending))).ob o=some ob:=fun S o ob e=>by
       have e:(if o=h.aS+1 then none else S.ob o)=some ob:=e
       show (if o=h.aS+1 then _ else S.ob o)=some ob
       by_cases ho:o=h.aS+1
       ·rw [if_pos ho] at e;cases e
       ·rw [if_neg ho] at e;rw [if_neg ho];exact e
      have i4:=i4.less (vM _) (fun _ e=>e)
      have x4:=x4.trans (Ext.less (vM _) (fun _ e=>e))
      have xu:=((x1.trans (Kv▸x2)).trans x3).trans x4
      have hR:∀S5,Inv g3 S5 (w3.putObj (w.heap.size+1) (.loop { r3 with state:=.exhausted,pending:=r3.pending }))→Ext S2 gg w S5 g3 (w3.putObj (w.heap.size+1) (.loop { r3 with state:=.exhausted,pending:=r3.pending }))→R S0 g0 w0 (eX n F (h.aS::ds) S5) { a with defers:=[{ target:=.collected w.heap.size,args:=#[] }]++a.defers } (w3.putObj (w.heap.size+1) (.loop { r3 with state:=.exhausted,pending:=r3.pending })):=by
       intro S5 i4 xu
       refine ⟨g3,i4,hxx.trans xu,⟨by have:=hd.1;simp [eX] at this ⊢;exact this,fun i d el e1 e2=>?_⟩,hs,fun i hi=>(hv i hi).mono xu.le⟩
       cases i with
       | zero=>
        simp [eX] at e1 e2;subst e1 e2
        exact ⟨fun _=>⟨w.heap.size,(0,0),(x2.le.trans x3.le).bl _ _ q1,rfl⟩,fun hd=>absurd hd (by omega)⟩
       | succ i=>exact (hd.mono xu.le).2 i d el (by simpa [eX] using e1) (by simpa using e2)
      have hR:=hR _ i4 xu
      have xA:(Instr.endLoop (w.heap.size+1)).run P w3 = .ok r3.pending (w3.putObj (w.heap.size+1) (.loop { r3 with state:=.exhausted,pending:=r3.pending })):=xA
      generalize w3.putObj (w.heap.size+1) (.loop { r3 with state:=.exhausted,pending:=r3.pending })=w4 at hR xA
      refine ⟨r3.pending,_,xA,?_⟩
      rw [r2]
      rcases DP hj with ⟨h5,h6⟩ | ⟨h5,h6⟩ | ⟨id,h5,h6⟩
      ·rw [h6] at hq;rw [h5];exact ⟨_,hR,hq⟩
      ·rw [h6] at hq;rw [h5];exact wpIn_ret ⟨_,hR,hq⟩
      ·rw [h6] at hq;rw [h5];exact wpIn_exit ⟨_,hR,hq⟩
    ·cases hr
   ·cases hr
  ·cases hr
end
end
section
open Go.RowKit
abbrev K6:=(β:Type)→NQ β
def sK:Nat→List A→Option (Tr A)
 | _,[]=>some .nil
 | i,p::ps=>match sK (i+1) ps with
  | some F=>NI p (fun p=>eP F i (some p) some)
  | none=>none
def rL {β:Type} (E:Env) (n:Nat) (F:Tr A) (h:H):List ResultVar→(List A→List Nat→Option β)→Option β
 | [],k=>k [] []
 | .tmp i::r,k=>bif Nat.blt i n then rL E n F h r (fun ps l=>k (aZ F.get i::ps) l) else none
 | .cell a T::r,k=>bif Nat.blt a n then LY E T (aZ F.get a) h (fun v _ T1=>rL E n F h r (fun ps l=>k (v::ps) (T1.rs++l))) else none
def v_ {β:Type}:Tr f_→List Nat→(Tr f_→Option β)→Option β
 | t,[],k=>k t
 | t,d::ds,k=>match t.get d with
  | some (.cN .zi)=>bif Nat.blt d 16777216 then eP t d none (fun t=>v_ t ds k) else none
  | _=>none
def yQ:Exit→Bool
 | .normal=>true
 | .ret=>true
 | _=>false
abbrev FT:=Nat→Option (Func×ay)
structure aR (P:Program) (f:Nat) (fn:Func) (x:ay):Prop where
 bl:P.funcs[f]?=some fn
 body:fn.body=some x.code
 name : (fn.name == "runtime.NumGoroutine") = false
def wA (P:Program) (fns:FT):Prop:=∀f fn x,fns f=some (fn,x)→aR P f fn x
def ME (E:Env) (fns:FT) (dr:Cx→Nat→K6) (cx:Cx) {β:Type} (fn:Func) (F:Tr A) (h:H) (ds:List Nat) (U:Fp) (K:A→H→Fp→Option β):Option β:=match ds with
 | []=>rL E fn.ntmps F h fn.results.toList (fun ps l=>K (w_ ps) h (U.cat (.rd l)))
 | [d]=>bif Nat.ble 16777216 d then (match fns (d / 16777216-1) with
  | some (gn,x)=>match sK 0 [.ptr (d%16777216) 0],fn.results.toList,gn.results.toList with
   | some G,[],[]=>bif Nat.ble 1 gn.ntmps then q9 E cx false gn.ntmps (dr cx gn.ntmps β) x G h [] U (fun e _ h' iR U'=>bif yQ e && iR.isEmpty then K (w_ []) h' U' else none) else none
   | _,_,_=>none
  | none=>none) else v_ h.t [d] (fun t'=>rL E fn.ntmps F { h with t:=t' } fn.results.toList (fun ps l=>K (w_ ps) { h with t:=t' } ((U.cat (.wr ([d].map dk))).cat (.rd l))))
 | ds=>v_ h.t ds (fun t'=>rL E fn.ntmps F { h with t:=t' } fn.results.toList (fun ps l=>K (w_ ps) { h with t:=t' } ((U.cat (.wr (ds.map dk))).cat (.rd l))))
def ZJ (E:Env) (fns:FT) (dr:Cx→Nat→K6) (cx:Cx) (β:Type) (f:FuncId) (aa:List A) (h:H) (K:A→H→Fp→Option β):Option β:=match fns f with
 | some (fn,x)=>match sK 0 aa with
  | some F=>bif Nat.ble aa.length fn.ntmps then q9 E cx false fn.ntmps (dr cx fn.ntmps β) x F h [] .no (fun e F' h' ds U=>bif yQ e then ME E fns dr cx fn F' h' ds U K else none) else none
  | none=>none
 | none=>none
def Lm (E:Env) (dr:Cx→Nat→K6) (cx:Cx) (β:Type) (y:A) (aa:List A) (h:H) (K:A→H→Fp→Option β):Option β:=match y with
 | .rA q n F ps _ kP bd=>match h.t.get q with
  | some (.cN (.loop .ready _))=>bif Nat.blt q 16777216 then wZ F ps aa (fun F1=>q9 E cx true n (dr cx n β) kP F1 h [] .no (fun e1 Fa ha lH T1=>match e1 with
   | .normal=>match ha.t.get q with
    | some (.cN (.loop .ready pe))=>eP ha.t q (some (.cN (.loop .busy pe))) (fun t2=>q9 E cx true n (dr cx n β) bd Fa { ha with t:=t2 } lH .no (fun e2 _ hb _ T2=>match hb.t.get q,RX e2 with
     | some (.cN (.loop _ _)),some jump=>eP hb.t q (some (.cN (.loop (CT jump) jump))) (fun t3=>K (.v (.bool jump.isNone)) { hb with t:=t3 } ((T1.cat (.wr [dk q])).cat (T2.cat (.wr [dk q]))))
     | _,_=>none))
    | _=>none
   | _=>none)) else none
  | _=>none
 | _=>none
def wU (E:Env) (fns:FT) (dr:Cx→Nat→K6) (hm:List (Nat×Nat)) (cx:Cx):Cx:=⟨ZJ E fns dr cx,hm,Lm E dr cx⟩
def Ce (hm:List (Nat×Nat)):Cx:=⟨fun _ _ _ _ _=>none,hm,fun _ _ _ _ _=>none⟩
section
variable {P:Program} {E:Env} {n:Nat}
theorem wo:∀(aa:List A) (i:Nat) (F:Tr A),sK i aa=some F→∀j,aZ F.get j=if i≤j then aa.getD (j-i) .un else .un
 | [],i,F,h,j=>by
  cases h
  simp [aZ,Tr.get_nil]
 | p::ps,i,F,h,j=>by
  simp only [sK] at h
  split at h
  ·rename_i F1 h1
   have ih:=wo ps (i+1) F1 h1 j
   rw [xM] at h
   obtain ⟨_,F2,hF,hg⟩:=bm h
   cases hF
   have e:aZ F.get j=if j=i then p else aZ F1.get j:=by
    simp only [aZ,hg]
    by_cases hj:j=i
    ·rw [if_pos hj,if_pos hj]
    ·rw [if_neg hj,if_neg hj]
   rw [e,ih]
   by_cases hj:j=i
   ·subst hj;simp
   ·rw [if_neg hj]
    by_cases hk:i≤j
    ·rw [if_pos hk,if_pos (by omega),show j-i=(j-(i+1))+1 by omega,List.getD_cons_succ]
    ·rw [if_neg hk,if_neg (by omega)]
  ·cases h
theorem DG {P:Program} {T:Nat} {u v:Value} {ad:Addr} {w w':World} {a:Act} {o:Oper} (ho:o.op = .load T (.const u)) (hu:u = .pointer (some ad)) (h:(execOp a.eval o).run P w = .ok (.value v) w'):(loadVar T ad).run P w = .ok v w':=by
 simp only [execOp,ho,Act.eval,hu,Instr.loadAt,Instr.sureAddr,pure_bind] at h
 simp only [Sem.run_bind] at h
 generalize (loadVar T ad).run P w=res at h
 cases res with
 | ok x w1=>
  simp only [Result.andThen_ok,Sem.run_pure,Result.ok.injEq,Next.value.injEq] at h
  obtain ⟨rfl,rfl⟩:=h
  rfl
 | halt x w1=>cases h
theorem Hk {β:Type} {E:Env} {T:Nat} {px:A} {h:H} {K:A→H→Fp→Option β} {r:β} (hr:LY E T px h K=some r) {g:G} {u:Value} (hv:V g px u):∃ad,u = .pointer (some ad):=by
 unfold LY at hr
 split at hr
 ·split at hr
  ·cases hv;exact ⟨_,rfl⟩
  ·cases hv;exact ⟨_,rfl⟩
  ·cases hv;exact ⟨_,rfl⟩
  ·cases hr
 ·cases hr
theorem pP {β:Type} {r:β} (hE:bR P E) {F:Tr A} {h:H}:∀(Nn:List ResultVar) (k:List A→List Nat→Option β),rL E n F h Nn k=some r →
  ∃ps l,k ps l=some r∧∀S2,Agree (.rd l) (hp h) S2→∀(g:G) (w:World) (tmps:Array Value),Inv g S2 w→(∀i,i<n→V g (aZ F.get i) (tmps.getD i undef)) →
   ∃vs:List Value,(Nn.mapM (fun rv=>uY rv tmps)).run P w = .ok vs w∧ps.length=vs.length∧∀(i:Nat) (p:A) (v:Value),ps[i]?=some p→vs[i]?=some v→V g p v
 | [],k,hk=>⟨[],[],hk,fun S2 _ g w tmps _ _=>⟨[],rfl,rfl,by simp⟩⟩
 | .tmp i::Nn,k,hk=>by
  simp only [rL] at hk
  obtain ⟨hi,hk⟩:=ah hk
  obtain ⟨ps,l,k1,k2⟩:=pP hE Nn _ hk
  refine ⟨_,l,k1,fun S2 hA g w tmps hI hv=>?_⟩
  obtain ⟨vs,q1,q2,q3⟩:=k2 S2 hA g w tmps hI hv
  refine ⟨tmps.getD i undef::vs,?_,by simp [q2],fun k q x e1 e2=>?_⟩
  ·have:(uY (.tmp i) tmps).run P w = .ok (tmps.getD i undef) w:=rfl
   rw [List.mapM_cons]
   simp only [Sem.run_bind,this,Result.andThen_ok]
   rw [q1]
   simp only [Result.andThen_ok,Sem.run_pure]
  ·cases k with
   | zero=>
    simp only [List.getElem?_cons_zero,zI] at e1 e2
    subst e1 e2
    exact hv i (ba hi)
   | succ k=>exact q3 k q x (by simpa using e1) (by simpa using e2)
 | .cell a T::Nn,k,hk=>by
  simp only [rL] at hk
  obtain ⟨hi,hk⟩:=ah hk
  obtain ⟨v,l1,k0,kv⟩:=DH hE hk
  obtain ⟨ps,l,k1,k2⟩:=pP hE Nn _ k0
  refine ⟨_,_,k1,fun S2 hA g w tmps hI hv=>?_⟩
  have hA:Agree (.rd (l1++l)) (hp h) S2:=hA
  obtain ⟨vs,q1,q2,q3⟩:=k2 S2 (hA.mono fun i hi=>zS _ hi) g w tmps hI hv
  have hva:=hv a (ba hi)
  obtain ⟨ad,had⟩:=Hk hk hva
  obtain ⟨x, u1, u2⟩ := kv S2 (hA.mono fun i hi => zQ _ hi) { dst := none, op := .load T (.const (tmps.getD a undef)), type := 0, pos := "", after := #[], guard := none } (fun _ => aZ F.get a) (.const (tmps.getD a undef)) rfl rfl g w { tmps := #[], defers := [] } hI (fun y hy => by
   simp only [Op.operands,Array.mem_singleton] at hy
   subst hy;exact hva)
  have eH:(uY (.cell a T) tmps).run P w = .ok x w:=by
   have:=DG rfl had u1
   show (do loadVar T (←asAddr (tmps.getD a undef)):Sem Value).run P w=_
   rw [had]
   exact this
  refine ⟨x::vs,?_,by simp [q2],fun k q y e1 e2=>?_⟩
  ·rw [List.mapM_cons]
   simp only [Sem.run_bind,eH,Result.andThen_ok]
   rw [q1]
   simp only [Result.andThen_ok,Sem.run_pure]
  ·cases k with
   | zero=>
    simp only [List.getElem?_cons_zero,zI] at e1 e2
    subst e1 e2
    exact u2
   | succ k=>exact q3 k q y (by simpa using e1) (by simpa using e2)
theorem Inv.drop {g:G} {S:Hp} {w:World} (h:Inv g S w) {d b:Nat} {s:Nat×Nat} (ho:S.ob d=some (.cN .zi)) (hg:g.bl d=some (some b,s)) :
  w.heap[b]?=some (.deferred (some []))∧Inv g (S.del d) (w.putObj b (.deferred none))∧Ext S g w (S.del d) g (w.putObj b (.deferred none)):=by
 obtain ⟨b1,s1,ob,k1,k2,k3⟩:=h.cN d _ ho
 rw [hg] at k1
 obtain ⟨rfl,rfl⟩:b=b1∧s=s1:=by simpa using k1
 have k3:ob = .deferred (some []):=k3
 subst k3
 have kf:∀{i x},(S.del d).ob i=some x→i≠d∧S.ob i=some x:=fun {i x} e=>by
  have e:(if i=d then none else S.ob i)=some x:=e
  split at e
  ·cases e
  ·exact ⟨by assumption,e⟩
 have D9:∀k,k≠b→(w.putObj b (.deferred none)).heap[k]?=w.heap[k]?:=fun k kF=>World.putObj_heap_other kF
 refine ⟨k2,⟨fun i cs e=>?_,fun i x e=>?_,fun i e=>h.fresh i e,fun i b' s' e=>by rw [World.putObj_size];exact h.lt i b' s' e,fun i j x y b1 s1 s2 e1 e2=>h.inj i j _ _ b1 s1 s2 (kf e1).2 (kf e2).2,fun b' i x e=>?_,fun i b' s' j x e k=>h.kD i b' s' j _ (kf e).2 k,fun b' l e=>?_⟩,
  ⟨.refl g,rfl,rfl,rfl,by rw [World.putObj_size];exact Nat.le_refl _,fun k _ hn=>D9 k (fun hh=>hn ⟨d,s,_,ho,by rw [hh];exact hg⟩),fun k ⟨i,s',x,e1,e2⟩=>.inl ⟨i,s',x,(kf e1).2,e2⟩,fun _ _ e=>.inl e,fun _ e=>e,fun _ _ _ e=>.inl e,fun _ _ e=>.inl e⟩⟩
 ·obtain ⟨kF,e⟩:=kf e
  refine (h.cells i cs e).imp id fun ⟨b1,t,q1,cur,ty,q2,q3⟩=>⟨b1,t,q1,cur,ty,?_,q3⟩
  rw [D9 b1 (fun hb=>by subst hb;rw [k2] at q2;cases q2)];exact q2
 ·obtain ⟨kF,e⟩:=kf e
  obtain ⟨b1,s1,o1,q1,q2,q3⟩:=h.cN i x e
  exact ⟨b1,s1,o1,q1,by rw [D9 b1 (fun hb=>by subst hb;exact kF (h.inj i d _ _ b1 s1 s e ho q1 hg))];exact q2,q3⟩
 ·obtain ⟨cur,ty,fz,q1,q2⟩:=h.mem b' i x e
  exact ⟨cur,ty,fz,by rw [D9 b' (fun hb=>by subst hb;rw [k2] at q1;cases q1)];exact q1,q2⟩
 ·obtain ⟨r,q1,q2⟩:=h.lp b' l e
  exact ⟨r,by rw [D9 b' (fun hb=>by subst hb;rw [k2] at q1;cases q1)];exact q1,q2⟩
theorem v8 {β:Type} {r:β} {h:H}:∀(ds:List Nat) (t:Tr f_) (k:Tr f_→Option β),v_ t ds k=some r→∃t',k t'=some r∧mI { h with t:=t } { h with t:=t' } (.wr (ds.map dk)) ∧
  ∀(fn:Func) (tmps:Array Value) (Rr:Ending→World→Prop) S2,Agree (.wr (ds.map dk)) (hp { h with t:=t }) S2→∀(g:G) (w:World) (l:List Deferred),Inv g S2 w→mU g ds l →
   (∀w',Inv g (ig (.wr (ds.map dk)) (hp { h with t:=t' }) S2) w'→Ext S2 g w (ig (.wr (ds.map dk)) (hp { h with t:=t' }) S2) g w'→∃v,(results fn tmps).run P w' = .ok v w'∧Rr (.returned v) w')→LeavesInM (FR none) 0 P fn tmps Rr l .returning w
 | [],t,k,hk=>⟨t,hk,⟨fun _ _=>⟨rfl,Iff.rfl⟩,fun _ _=>⟨rfl,Iff.rfl⟩⟩,fun fn tmps Rr S2 hA g w l hI hd K=>by
  obtain rfl:l=[]:=List.length_eq_zero_iff.1 (by have:=hd.1;simpa using this.symm)
  have e:ig (.wr (List.map dk [])) (hp { h with t:=t }) S2=S2:=lO hA
  rw [e] at K
  exact K w hI (.refl _ g w)⟩
 | d::ds,t,k,hk=>by
  have hk:(match t.get d with | some (.cN .zi)=>_ | _=>none)=some r:=hk
  split at hk
  ·rename_i eN
   obtain ⟨Tp,hk⟩:=ah hk
   have Tp:=ba Tp
   obtain ⟨_,t1,k1,SU⟩:=bm hk
   obtain ⟨t',q1,q2,q3⟩:=v8 (h:=h) ds t1 k k1
   obtain ⟨f1,v1⟩:=zj (h:={ h with t:=t }) Tp SU
   have ec:(Fp.wr [dk d]).cat (.wr (ds.map dk)) = .wr ((d::ds).map dk):=rfl
   have f1:mI { h with t:=t } { h with t:=t1 } (.wr [dk d]):=f1
   refine ⟨t',q1,ec▸f1.trans q2,fun fn tmps Rr S2 hA g w l hI hd K=>?_⟩
   rw [←ec] at hA K
   rw [←fE q2] at K
   have A1:=hA.left
   have A2:=Agree.right f1 hA
   have v1:=v1 S2 A1
   have v1:ig (.wr [dk d]) (hp { h with t:=t1 }) S2=S2.del d:=v1
   rw [v1] at A2 K
   cases l with
   | nil=>have:=hd.1;simp at this
   | cons el l=>
    obtain ⟨b,s,hg,rfl⟩:=(hd.2 0 d el rfl rfl).1 Tp
    obtain ⟨u1,u2,u3⟩:=hI.drop (zw (x:=.cN .zi) Tp eN A1 (.head _)) hg
    refine ⟨by simp,.inl ⟨b,_,rfl,run_takeDeferred u1,?_⟩⟩
    exact q3 fn tmps Rr _ A2 g _ l u2 ⟨by have:=hd.1;simpa using this,fun i d el e1 e2=>hd.2 (i+1) d el (by simpa using e1) (by simpa using e2)⟩ (fun w' z1 z2=>K w' z1 (u3.trans z2))
  ·cases hk
theorem Wb {g:G} {aa:List A} {vs:List Value} {F:Tr A} {N:Nat} (ZD:sK 0 aa=some F) (hl:aa.length=vs.length) (hn:aa.length≤N) (hv:∀(i:Nat) (p:A) (v:Value),aa[i]?=some p→vs[i]?=some v→V g p v) {S2:Hp} {w:World} (hI:Inv g S2 w) :
  R S2 g w (eX N F [] S2) { tmps:=vs.toArray++Array.replicate (N-vs.toArray.size) undef,defers:=[] } w:=by
 have nW:(vs.toArray++Array.replicate (N-vs.toArray.size) undef).size=N:=by simp;omega
 refine ⟨g,hI,.refl _ g w,⟨rfl,fun i d el e1=>by simp [eX] at e1⟩,nW,fun i hi=>?_⟩
 show V g (aZ F.get i) ((vs.toArray++Array.replicate (N-vs.toArray.size) undef).getD i undef)
 rw [wo aa 0 F ZD i,if_pos (Nat.zero_le i),Nat.sub_zero,Array.getD_eq_getD_getElem?]
 by_cases Zi:i<aa.length
 ·rw [Array.getElem?_append_left (by simp;omega)]
  have h1:aa[i]?=some aa[i]:=zD Zi
  have h2 : vs[i]? = some (vs[i]'(by omega)) := zD (by omega)
  have:=hv i _ _ h1 h2
  simpa [List.getD,h1,h2] using this
 ·rw [Array.getElem?_append_right (by simp;omega)]
  have h1:aa[i]?=none:=zb (by omega)
  have h2:(Array.replicate (N-vs.toArray.size) undef)[i-vs.toArray.size]?.getD undef=undef:=by
   cases hx:(Array.replicate (N-vs.toArray.size) undef)[i-vs.toArray.size]? with
   | none=>rfl
   | some x=>
    obtain ⟨fe,oV⟩:=Array.getElem?_eq_some_iff.1 hx
    rw [←oV];simp
  rw [h2]
  simp only [List.getD,h1,Option.getD_none]
  exact .un
structure FG (P:Program) (fn:Func) (F:Tr A) (h:H) (ds:List Nat) (h':H) (T:Fp) (pv:A):Prop where
 fr:mI h h' T
 ok:∀S2,Agree T (hp h) S2→∀(g:G) (w:World) (a:Act),Inv g S2 w→mU g ds a.defers→(∀i,i<fn.ntmps→V g (aZ F.get i) (a.tmps.getD i undef)) →
  LeavesInM (FR none) 0 P fn a.tmps (fun e w2=>∃v g',e = .returned v∧V g' pv v∧Inv g' (ig T (hp h') S2) w2∧Ext S2 g w (ig T (hp h') S2) g' w2) a.defers .returning w
theorem EN (hE:bR P E) {β:Type} {fn:Func} {F':Tr A} {h':H} {iR:List Nat} {U:Fp} {K:A→H→Fp→Option β} {r:β}
  (k1:v_ h'.t iR (fun t'=>rL E fn.ntmps F' { h' with t:=t' } fn.results.toList (fun ps l=>K (w_ ps) { h' with t:=t' } ((U.cat (.wr (iR.map dk))).cat (.rd l))))=some r) :
  ∃pv h2 T,K pv h2 (U.cat T)=some r∧FG P fn F' h' iR h2 T pv:=by
 obtain ⟨t',k5,k6,k7⟩:=v8 (P:=P) (h:=h') iR h'.t _ k1
 obtain ⟨ps,l,k8,k9⟩:=pP (P:=P) hE _ _ k5
 have f3:mI { h' with t:=t' } { h' with t:=t' } (.rd l):=⟨fun _ _=>⟨rfl,Iff.rfl⟩,fun _ _=>⟨rfl,Iff.rfl⟩⟩
 have k6:mI h' { h' with t:=t' } (.wr (iR.map dk)):=k6
 refine ⟨_,_,(Fp.wr (iR.map dk)).cat (.rd l),by rw [←Fp.iE];exact k8,k6.trans f3,fun S2 hA g w a hI hd hv=>?_⟩
 have A2:Agree (.wr (iR.map dk)) (hp h') S2:=hA.left
 have A3:=Agree.right k6 hA
 rw [←fE f3,lO A3]
 refine k7 fn a.tmps _ _ A2 g w a.defers hI hd (fun w2 i2 x2=>?_)
 obtain ⟨us,u1,u2,u3⟩:=k9 _ A3 g w2 a.tmps i2 hv
 have eH:=jX (P:=P) (fn:=fn) u1
 refine ⟨_,eH,_,g,rfl,?_,i2,x2⟩
 match ps,us,u2,u3 with
 | [p],[u],_,u3=>exact u3 0 p u rfl rfl
 | [],[],_,_=>exact .iM [] #[] rfl (by simp)
 | p::q::ps,u::v::us,u2,u3=>
  rw [dif_neg (by simp)]
  exact .iM _ _ (by simpa using u2) (fun i c x e1 e2=>u3 i c x e1 (by simpa using e2))
theorem MD (hE:bR P E) {β:Type} {fn:Func} {F':Tr A} {h':H} {U:Fp} {K:A→H→Fp→Option β} {r:β}
  (k1:rL E fn.ntmps F' h' fn.results.toList (fun ps l=>K (w_ ps) h' (U.cat (.rd l)))=some r) :
  ∃pv h2 T,K pv h2 (U.cat T)=some r∧FG P fn F' h' [] h2 T pv:=by
 obtain ⟨ps,l,k8,k9⟩:=pP (P:=P) hE _ _ k1
 have f3:mI h' h' (.rd l):=⟨fun _ _=>⟨rfl,Iff.rfl⟩,fun _ _=>⟨rfl,Iff.rfl⟩⟩
 refine ⟨_,_,.rd l,k8,f3,fun S2 hA g w a hI hd hv=>?_⟩
 rw [lO hA]
 have sC:a.defers=[]:=List.length_eq_zero_iff.1 (by have:=hd.1;simpa using this.symm)
 rw [sC]
 obtain ⟨us,u1,u2,u3⟩:=k9 _ hA g w a.tmps hI hv
 have eH:=jX (P:=P) (fn:=fn) u1
 refine ⟨_,eH,_,g,rfl,?_,hI,.refl _ g w⟩
 match ps,us,u2,u3 with
 | [p],[u],_,u3=>exact u3 0 p u rfl rfl
 | [],[],_,_=>exact .iM [] #[] rfl (by simp)
 | p::q::ps,u::v::us,u2,u3=>
  rw [dif_neg (by simp)]
  exact .iM _ _ (by simpa using u2) (fun i c x e1 e2=>u3 i c x e1 (by simpa using e2))
theorem H6 (hE:bR P E) {fns:FT} (hF:wA P fns) {dr:Cx→Nat→K6} {cx:Cx} (hx:kO P cx) (qV:∀n β,BV P n (dr cx n β)) {β:Type} {fn:Func} {F':Tr A} {h':H} {iR:List Nat} {U:Fp} {K:A→H→Fp→Option β} {r:β}
  (k1:ME E fns dr cx fn F' h' iR U K=some r):∃pv h2 T,K pv h2 (U.cat T)=some r∧FG P fn F' h' iR h2 T pv:=by
 unfold ME at k1
 split at k1
 ·exact MD hE k1
 ·rename_i d
  cases hb:Nat.ble 16777216 d with
  | false=>rw [hb] at k1;exact EN hE k1
  | true=>
   rw [hb] at k1
   have hb:=Nat.le_of_ble_eq_true hb
   simp only [cond_true] at k1
   split at k1
   ·rename_i gn x hg
    have Ti:=hF _ gn x hg
    split at k1
    ·rename_i Gt hGa sB D4
     obtain ⟨hn,k1⟩:=ah k1
     have hn:=Nat.le_of_ble_eq_true hn
     obtain ⟨e,F2,h2,wK,T,k2,_,k3,k4⟩:=gY hE hx (qV gn.ntmps β) x Gt h' [] _ _ k1
     obtain ⟨k5,k6⟩:=ah k2
     clear k2
     simp only [zC] at k5
     obtain rfl:wK=[]:=by simpa using k5.2
     refine ⟨_,_,T,k6,k3,fun S2 hA g w a hI hd hv=>?_⟩
     match af4:a.defers,hd with
     | [el],hd=>
      obtain ⟨v,v1,v2⟩:=(hd.2 0 d el rfl rfl).2 hb
      subst v2
      refine ⟨by simp,.inr ⟨fun h=>by simp [FR,Fence.wide] at h,.func (d / 16777216-1),#[],d / 16777216-1,#[v],rfl,?_,fun _ _=>trivial,?_⟩⟩
      ·have Zm:uA P (d / 16777216-1):=⟨gn,Ti.bl,Ti.name,by rw [Ti.body];rfl⟩
       show (callFunc (d / 16777216-1) (#[v] ++ #[])).run P w=_
       exact Zm.run _ w
      ·refine CallsDIn.mono (callsDIn_of_wp (R:=fun e w2=>e = .returned (.tuple #[])∧∃g',Inv g' (ig T (hp h2) S2) w2∧Ext S2 g w (ig T (hp h2) S2) g' w2) Ti.bl Ti.body trivial ?_) ?_
       ·have d0:=k4 none (fun _=>rfl) S2 g w S2 hA (fun e1 st=>e1=e∧st=eX gn.ntmps F2 [] (ig T (hp h2) S2)) ⟨rfl,rfl⟩
        have ZB:=Wb (g:=g) (vs:=[v]) hGa rfl (by simpa using hn) (fun i p u e1 e2=>by
         cases i with
         | zero=>cases e1;cases e2;exact v1
         | succ i=>cases e1) hI
        refine wpIn_mono (d0 _ w ZB) ?_
        rintro e1 a2 w2 ⟨st,hR,rfl,rfl⟩
        obtain ⟨g1,i1,x1,d1,s1,_⟩:=hR
        have sC:a2.defers=[]:=List.length_eq_zero_iff.1 (by have:=d1.1;simpa [eX] using this.symm)
        have Hx:(results gn a2.tmps).run P w2 = .ok (.tuple #[]) w2:=by
         have:=jX (P:=P) (fn:=gn) (tmps:=a2.tmps) (vs:=[]) (w:=w2) (by rw [D4];rfl)
         exact this
        cases e1 with
        | normal=>exact ⟨sC,_,Hx,rfl,g1,i1,x1⟩
        | ret=>exact ⟨sC,_,Hx,rfl,g1,i1,x1⟩
        | _=>exact absurd k5.1 (by simp [yQ])
       ·rintro e1 u' w2 ⟨rfl,rfl,g',i1,x1⟩
        have Hx:(results fn a.tmps).run P w2 = .ok (.tuple #[]) w2:=by
         have:=jX (P:=P) (fn:=fn) (tmps:=a.tmps) (vs:=[]) (w:=w2) (by rw [sB];rfl)
         exact this
        exact ⟨_,Hx,_,g',rfl,.iM [] #[] rfl (by simp),i1,x1⟩
     | [],hd=>exact absurd hd.1 (by simp)
     | _::_::_,hd=>exact absurd hd.1 (by simp)
    ·cases k1
   ·cases k1
 ·exact EN hE k1
theorem hJ {F:Fence} {n:Nat} {fn:Func} {tmps:Array Value} {R R':Ending→World→Prop} (hr:∀e w,R e w→R' e w):∀(ds:List Deferred) (u:FrameMode) (w:World),LeavesInM F n P fn tmps R ds u w→LeavesInM F n P fn tmps R' ds u w
 | [],u,w,h=>by
  cases u with
  | run=>exact h
  | returning=>obtain ⟨v,h1,h2⟩:=h;exact ⟨v,h1,hr _ _ h2⟩
  | panicking c=>exact hr _ _ h
 | d::ds,u,w,h=>by
  obtain ⟨h0,h⟩:=h
  refine ⟨h0,?_⟩
  rcases h with ⟨r,w',h1,h2,h3⟩ | ⟨h1,fv,cap,f,args,h2,h3,h4,h5⟩
  ·exact .inl ⟨r,w',h1,h2,hJ hr ds u w' h3⟩
  ·refine .inr ⟨h1,fv,cap,f,args,h2,h3,h4,h5.mono ?_⟩
   intro e u' w' he
   cases e with
   | returned v=>exact hJ hr ds _ _ he
   | panicked c=>exact hJ hr ds _ _ he
   | outgrown=>exact hr _ _ he
theorem Mr (hE:bR P E) {fns:FT} (hF:wA P fns) {dr:Cx→Nat→K6} {cx:Cx} (hx:kO P cx) (qV:∀n β,BV P n (dr cx n β)) {β:Type} {f:FuncId} {aa:List A} {h:H} {K:A→H→Fp→Option β} {r:β} (hr:ZJ E fns dr cx β f aa h K=some r) :
  ∃pv h' T,K pv h' T=some r∧sO P f aa h h' T pv:=by
 unfold ZJ at hr
 split at hr
 ·rename_i fn x hf
  have HH:=hF f fn x hf
  split at hr
  ·rename_i F ZD
   obtain ⟨hn,hr⟩:=ah hr
   have hn:=Nat.le_of_ble_eq_true hn
   obtain ⟨e,F',h',iR,T0,k1,_,k2,k3⟩:=gY hE hx (qV fn.ntmps β) x F h [] .no _ hr
   rw [Fp.oQ] at k1
   obtain ⟨k4,k1⟩:=ah k1
   obtain ⟨pv,h2,T,k8,k6,k7⟩:=H6 (P:=P) hE hF hx qV k1
   have f12:mI h h2 (T0.cat T):=k2.trans k6
   refine ⟨_,_,_,k8,f12.out,f12.rd,⟨fn,HH.bl,HH.name,by rw [HH.body];rfl⟩,fun S2 hA g w vs hI hl hv=>?_⟩
   have A1:=hA.left
   have A2:Agree T (hp h') _:=Agree.right k2 hA
   rw [←fE k6]
   have d:=k3 none (fun _=>rfl) S2 g w S2 A1 (fun e1 st=>e1=e∧st=eX fn.ntmps F' iR (ig T0 (hp h') S2)) ⟨rfl,rfl⟩
   refine (callsIn_wide (n:=0)).1 (callsIn_of_wp_marks (F:=FR none) HH.bl HH.body trivial ?_)
   refine wpIn_mono (d _ w (Wb ZD hl hn hv hI)) ?_
   rintro e1 a w' ⟨st,hR,rfl,rfl⟩
   obtain ⟨g1,i1,x1,d1,s1,v1⟩:=hR
   have key:LeavesInM (FR none) 0 P fn a.tmps (fun e w2=>∃v g',e = .returned v∧V g' pv v∧Inv g' (ig T (hp h2) (ig T0 (hp h') S2)) w2∧Ext S2 g w (ig T (hp h2) (ig T0 (hp h') S2)) g' w2) a.defers .returning w':=by
    refine hJ ?_ _ _ _ (k7 _ A2 g1 w' a i1 d1 v1)
    rintro e w2 ⟨v,g',q1,q2,q3,q4⟩
    exact ⟨v,g',q1,q2,q3,x1.trans q4⟩
   cases e1 with
   | normal=>exact key
   | ret=>exact key
   | _=>exact absurd k4 (by simp [yQ])
  ·cases hr
 ·cases hr
theorem Gx (hE:bR P E) {dr:Cx→Nat→K6} {cx:Cx} (hx:kO P cx) (qV:∀n β,BV P n (dr cx n β)) {β:Type} {y:A} {aa:List A} {h:H} {K:A→H→Fp→Option β} {r:β} (hr:Lm E dr cx β y aa h K=some r) :
  ∃pv h' T,K pv h' T=some r∧K4 P y aa h h' T pv:=by
 unfold Lm at hr
 split at hr
 ·rename_i q n F ps j kP bd
  split at hr
  ·rename_i pe0 hq0
   obtain ⟨hq,hr⟩:=ah hr
   have hq:=ba hq
   obtain ⟨F1,hr,hlen,tQ⟩:=si _ _ _ _ hr
   obtain ⟨e1,Fa,ha,lH,T1,hr,_,f1,d1⟩:=gY hE hx (qV n β) kP F1 h [] .no _ hr
   rw [Fp.oQ] at hr
   split at hr
   ·split at hr
    ·rename_i pe hqa
     obtain ⟨_,t2,hr,YQ⟩:=bm hr
     obtain ⟨e2,Fb,hb,wK,T2,hr,_,f3,d2⟩:=gY hE hx (qV n β) bd Fa _ lH .no _ hr
     rw [Fp.oQ] at hr
     split at hr
     ·rename_i st3 pe3 jump hqb hj
      obtain ⟨_,t3,hr,YP⟩:=bm hr
      obtain ⟨f2,v2⟩:=yp (h:=ha) hq YQ
      obtain ⟨f4,v4⟩:=yp (h:=hb) hq YP
      have f12:=f1.trans f2
      have f34:=f3.trans f4
      have ft:=f12.trans f34
      refine ⟨_,_,_,hr,ft.out,ft.rd,fun S2 hA g w u vs hI hu hl hv=>?_⟩
      have Em:=hA.left
      have xD:=Agree.right f12 hA
      rw [←fE f34,←fE f4]
      rw [←fE f2] at xD ⊢
      have A1:=Em.left
      have A2:=Agree.right f1 Em
      have A3:=xD.left
      have A4:=Agree.right f3 xD
      have dU:=zw (x:=.cN (.loop .ready pe)) hq hqa A2 (.head _)
      have vJ:=zw (x:=.cN (.loop st3 pe3)) hq hqb A4 (.head _)
      have HC:S2.ob q=some (.cN (.loop .ready pe0))∨True:=.inr trivial
      rw [v4 _ A4]
      rw [v2 _ A2] at A3 A4 vJ ⊢
      cases hu with
      | rA _ _ _ _ _ _ _ b s lp h0 HF h1 h2 h3 h4 h5=>
      obtain ⟨rr,r1,r2⟩:=hI.lp b lp HF
      subst r2
      refine ⟨b,rr,rfl,r1,?_,?_⟩
      ·rw [←hl,hlen,←h1];simp [tE]
      have Vr:(rr.params.zip vs.toArray).foldl (fun tmps (t,a)=>tmps.setIfInBounds t a) rr.tmps=(ps.zip vs).foldl (fun tmps x=>tmps.setIfInBounds x.1 x.2) rr.tmps:=by
       rw [←Array.foldl_toList,Array.toList_zip,←h1];rfl
      rw [Vr]
      obtain ⟨z1,z2⟩:=tQ g n vs rr.tmps hl hv h4 h5
      generalize (ps.zip vs).foldl (fun tmps x=>tmps.setIfInBounds x.1 x.2) rr.tmps=T at z1 z2
      have h2:rr.assign=kP.code:=h2
      have h3:rr.body=bd.code:=h3
      rw [h2,h3]
      refine roundIn_of_wpIn trivial ?_
      show kP.code.wpIn (FR (some b)) 0 P _ _ _
      have ZB:R S2 g w (eX n F1 [] S2) { tmps:=T,defers:=[] } w:=⟨g,hI,.refl _ g w,⟨rfl,fun i d el e1=>by simp [eX] at e1⟩,z1,z2⟩
      refine wpIn_mono (d1 (some b) (fun h=>by cases h) S2 g w S2 A1 (fun e st=>e = .normal∧st=eX n Fa lH (ig T1 (hp ha) S2)) ⟨rfl,rfl⟩ _ w ZB) ?_
      rintro e1 a1 w1 ⟨st,Tz,rfl,rfl⟩
      obtain ⟨g1,i1,x1,Zr,Nv,B1⟩:=Tz
      have i1:Inv g1 (ig T1 (hp ha) S2) w1:=i1
      obtain ⟨b1,s1,ob1,q1,q2,q3⟩:=i1.cN q _ dU
      have Tw:=x1.le.bl _ _ h0
      rw [q1] at Tw
      obtain ⟨rfl,rfl⟩:b1=b∧s1=s:=by simpa using Tw
      obtain ⟨WE,rfl,u1,u2⟩:=q3
      obtain ⟨i2,x2⟩:=i1.CH (st':=.busy) (pe':=WE.pending) dU q1 q2
      rw [u2] at i2 x2
      refine ⟨_,run_beginRound q2 u1,?_⟩
      show bd.code.wpIn (FR (some b1)) 0 P _ _ _
      have eb:({ WE with state:=.busy }:Loop)={ WE with state:=.busy,pending:=pe }:=by rw [←u2]
      rw [eb]
      refine wpIn_mono (d2 (some b1) (fun h=>by cases h) S2 g w _ A3 (fun e st=>e=e2∧st=eX n Fb wK (ig T2 (hp hb) ((ig T1 (hp ha) S2).set q (.cN (.loop .busy pe))))) ⟨rfl,rfl⟩ a1 _ ⟨g1,i2,x1.trans x2,Zr,Nv,B1⟩) ?_
      rintro Vt a2 w3 ⟨st,hR3,rfl,rfl⟩
      obtain ⟨g3,i3,x3,_,_,_⟩:=hR3
      obtain ⟨b3,s3,ob3,p1,p2,p3⟩:=i3.cN q _ vJ
      have Tv:=x3.le.bl _ _ h0
      rw [p1] at Tv
      obtain ⟨rfl,rfl⟩:b3=b1∧s3=s1:=by simpa using Tv
      obtain ⟨rr3,rfl,w1',w2'⟩:=p3
      have fin:∀jc:Option Code,RX Vt=some jc→∃v w4,(Instr.endRound b3 jc).run P w3 = .ok v w4∧∃v' g',Ending.returned v = .returned v'∧V g' (.v (.bool jump.isNone)) v'∧Inv g' ((ig T2 (hp hb) ((ig T1 (hp ha) S2).set q (.cN (.loop .busy pe)))).set q (f_.cN (.loop (CT jump) jump)).low) w4∧Ext S2 g w ((ig T2 (hp hb) ((ig T1 (hp ha) S2).set q (.cN (.loop .busy pe)))).set q (f_.cN (.loop (CT jump) jump)).low) g' w4:=by
       intro jc hj'
       rw [hj] at hj'
       obtain rfl:=Option.some.inj hj'
       have xA:=run_endRound (P:=P) jump p2
       have est:(if jump.isNone=true then LoopState.ready else LoopState.done)=CT jump:=by cases jump<;>rfl
       rw [est] at xA
       obtain ⟨i4,x4⟩:=i3.CH (st':=CT jump) (pe':=jump) vJ p1 p2
       exact ⟨_,_,xA,_,g3,rfl,.v _,i4,x3.trans x4⟩
      cases Vt with
      | normal=>exact fin none rfl
      | ret=>exact fin _ rfl
      | exit id=>exact fin _ rfl
      | goto l=>cases hj
      | panic c=>cases hj
      | outgrown=>cases hj
     ·cases hr
    ·cases hr
   ·cases hr
  ·cases hr
 ·cases hr
theorem sh (hE:bR P E) {fns:FT} (hF:wA P fns) {dr:Cx→Nat→K6} {hm:List (Nat×Nat)} {cx:Cx} (hx:kO P cx) (qV:∀n β,BV P n (dr cx n β)):kO P (wU E fns dr hm cx):=
 ⟨fun _ _ _ _ _ _ h=>Mr hE hF hx qV h,fun _ _ _ _ _ _ h=>Gx hE hx qV h⟩
theorem z8 (hm:List (Nat×Nat)):kO P (Ce hm):=⟨fun _ _ _ _ _ r h=>(by have h:(none:Option _)=some r:=h;cases h),fun _ _ _ _ _ r h=>(by have h:(none:Option _)=some r:=h;cases h)⟩
end
end
section
open Go.RowKit
def cf (T U:Fp):Bool:=(T.w || U.w) && (T.all || U.all || T.rs.any fun a=>U.rs.any (Nat.beq a))
def Lq (ops:Array Oper):Nat→Nat→Nat→Bool
 | 0,_,_=>false
 | f+1,i,j=>dep ops i j || (List.range i).any fun m=>dep ops i m && Lq ops f m j
theorem qu {ops:Array Oper} {L:Nat→Bool} (hd:∀k j,L k=true→dep ops k j=true→L j=true):∀(f k j:Nat),L k=true→Lq ops f k j=true→L j=true
 | 0,_,_,_,h=>by cases h
 | f+1,k,j,hk,h=>by
  simp only [Lq,Bool.or_eq_true,List.any_eq_true,zC] at h
  rcases h with h | ⟨m,_,h1,h2⟩
  ·exact hd k j hk h
  ·exact qu hd f m j (hd k m hk h1) h2
theorem GA {ops:Array Oper} {L:Nat→Bool} {i:Nat} (h:Ge ops i L):∀(f j:Nat),Lq ops f i j=true→L j=true
 | 0,_,h=>by cases h
 | f+1,j,hr=>by
  simp only [Lq,Bool.or_eq_true,List.any_eq_true,zC] at hr
  rcases hr with hr | ⟨m,_,h1,h2⟩
  ·exact h.H9 j hr
  ·exact qu h.down f m j (h.H9 m h1) h2
def indep (ops:Array Oper) (m:Nat) (Ts:List Fp):Bool:=(List.range m).all fun i=>(List.range i).all fun j=>!(cf (Ts.getD j .no) (Ts.getD i .no)) || Lq ops m i j
theorem KX {T U:Fp} {x:Nat} (h1:touch T x=true) (h2:touch U x=true) (hw:T.w=true∨U.w=true):cf T U=true:=by
 unfold cf
 rw [zC]
 refine ⟨by rcases hw with h | h<;>simp [h],?_⟩
 unfold touch at h1 h2
 simp only [Bool.or_eq_true,List.any_eq_true] at h1 h2 ⊢
 rcases h1 with h1 | ⟨a,ha,h1⟩
 ·exact .inl (.inl h1)
 ·rcases h2 with h2 | ⟨b,hb,h2⟩
  ·exact .inl (.inr h2)
  ·exact .inr ⟨a,ha,b,hb,by rw [←beq_eq h1,←beq_eq h2];exact Nat.beq_refl _⟩
def mF (S:Hp) (x:Nat):Option Ob×Prop:=(S.ob x,S.fr x)
theorem pX {S S':Hp} (h:∀x,mF S x=mF S' x):S=S':=Hp.ext' (fun i=>congrArg Prod.fst (h i)) (fun i=>by have:=congrArg Prod.snd (h i);exact Iff.of_eq this)
def wQ (T:Fp) (H S:Hp):Hp:=bif T.w then ig T H S else S
theorem zr (T:Fp) (H S:Hp) (x:Nat):mF (wQ T H S) x=if (T.w && touch T x)=true then mF H x else mF S x:=by
 unfold wQ
 cases hw:T.w with
 | false=>simp
 | true=>
  simp only [cond_true,Bool.true_and]
  show (if touch T x=true then H.ob x else S.ob x,if touch T x=true then H.fr x else S.fr x)=_
  cases touch T x<;>rfl
def ln (L:Nat→Bool):List (Fp×Hp)→Nat→Hp→Hp
 | [],_,S=>S
 | (T,H)::r,j,S=>ln L r (j+1) (bif L j then wQ T H S else S)
def fx (L:Nat→Bool) (x:Nat):List (Fp×Hp)→Nat→Option Ob×Prop→Option Ob×Prop
 | [],_,v=>v
 | (T,H)::r,j,v=>fx L x r (j+1) (if (L j && (T.w && touch T x))=true then mF H x else v)
theorem iF (L:Nat→Bool) (x:Nat):∀(r:List (Fp×Hp)) (j:Nat) (S:Hp),mF (ln L r j S) x=fx L x r j (mF S x)
 | [],_,_=>rfl
 | (T,H)::r,j,S=>by
  unfold ln fx
  rw [iF L x r]
  congr 1
  cases hl:L j with
  | true=>simp only [cond_true,Bool.true_and];exact zr T H S x
  | false=>simp
theorem lW {L L':Nat→Bool} {x:Nat}:∀(r:List (Fp×Hp)) (j:Nat) (v:Option Ob×Prop),(∀m T H,r[m]?=some (T,H)→(T.w && touch T x)=true→L (j+m)=L' (j+m))→fx L x r j v=fx L' x r j v
 | [],_,_,_=>rfl
 | (T,H)::r,j,v,h=>by
  unfold fx
  have e:(if (L j && (T.w && touch T x))=true then mF H x else v)=(if (L' j && (T.w && touch T x))=true then mF H x else v):=by
   cases hw:(T.w && touch T x) with
   | false=>simp
   | true=>rw [show L j=L' j from h 0 T H rfl hw]
  rw [e]
  exact lW r (j+1) _ (fun m T' H' hm hw=>by have:=h (m+1) T' H' (by simpa using hm) hw;rwa [show j+(m+1)=j+1+m by omega] at this)
def zy (H0:Hp) (rs:List (Fp×Hp)):Nat→Hp
 | 0=>H0
 | m+1=>match rs[m]? with
  | some q=>q.2
  | none=>H0
def j_ (H0:Hp) (rs:List (Fp×Hp)):Prop:=∀m T H,rs[m]?=some (T,H)→(∀x,touch T x=false→mF H x=mF (zy H0 rs m) x)∧(T.w=false→H=zy H0 rs m)
theorem jS {H0:Hp} {q:Fp×Hp} {rs:List (Fp×Hp)} (m:Nat) (hm:m≤rs.length):zy H0 (q::rs) (m+1)=zy q.2 rs m:=by
 cases m with
 | zero=>rfl
 | succ m=>
  show (match (q::rs)[m+1]? with | some q=>q.2 | none=>H0)=(match rs[m]? with | some q'=>q'.2 | none=>q.2)
  rw [List.getElem?_cons_succ,zD (show m<rs.length by omega)]
theorem j_.tail {H0:Hp} {q:Fp×Hp} {rs:List (Fp×Hp)} (h:j_ H0 (q::rs)):j_ q.2 rs:=fun m T H hm=>by
 have:=h (m+1) T H (by simpa using hm)
 rw [jS m (Nat.le_of_lt (zB.1 hm).1)] at this
 exact this
theorem pV {x:Nat}:∀(rs:List (Fp×Hp)) (H0:Hp) (j i:Nat),j_ H0 rs→i≤rs.length→fx (fun k=>decide (k<j+i)) x rs j (mF H0 x)=mF (zy H0 rs i) x
 | [],H0,j,i,_,hi=>by
  have:i=0:=by simpa using hi
  subst this;rfl
 | (T,H)::rs,H0,j,0,hc,_=>by
  have Sr:∀(r:List (Fp×Hp)) (k:Nat) (v:Option Ob×Prop),j≤k→fx (fun k=>decide (k<j+0)) x r k v=v:=by
   intro r
   induction r with
   | nil=>intro k v _;rfl
   | cons q r ih=>
    intro k v hk
    obtain ⟨T,H⟩:=q
    unfold fx
    rw [show (decide (k<j+0))=false by simpa using hk]
    simp only [Bool.false_and,Bool.false_eq_true,if_false]
    exact ih (k+1) v (by omega)
  exact Sr _ j _ (Nat.le_refl _)
 | (T,H)::rs,H0,j,i+1,hc,hi=>by
  unfold fx
  rw [show (decide (j<j+(i+1)))=true by simp]
  simp only [Bool.true_and]
  have h0:=hc 0 T H rfl
  have e:(if (T.w && touch T x)=true then mF H x else mF H0 x)=mF H x:=by
   cases hw:T.w with
   | false=>rw [h0.2 hw];simp [zy]
   | true=>
    cases ht:touch T x with
    | true=>simp
    | false=>simp only [Bool.and_false,Bool.false_eq_true,if_false];exact (h0.1 x ht).symm
  rw [e,jS i (by simpa using hi)]
  have:=pV (x:=x) rs H (j+1) i hc.tail (by simpa using hi)
  rw [show j+1+i=j+(i+1) by omega] at this
  exact this
theorem vH {ops:Array Oper} {H0 S2:Hp} {rs:List (Fp×Hp)} (hc:j_ H0 rs) (hi:indep ops rs.length (rs.map (·.1))=true) (hA:∀T H,(T,H)∈rs→Agree T H0 S2) {i:Nat} {T:Fp} {H:Hp} (hr:rs[i]?=some (T,H)) {L:Nat→Bool} (ha:Ge ops i L) :
  Agree T (zy H0 rs i) (ln L rs 0 S2)∧ln (ins L i) rs 0 S2=wQ T H (ln L rs 0 S2):=by
 have fe:=(zB.1 hr).1
 have KJ:∀(a b:Nat) (Ta Tb:Fp) (Ha Hb:Hp),b<rs.length→a<b→rs[a]?=some (Ta,Ha)→rs[b]?=some (Tb,Hb)→cf Ta Tb=true→Lq ops rs.length b a=true:=fun a b Ta Tb Ha Hb h1 h2 h3 h4 h5=>by
  unfold indep at hi
  have:=List.all_eq_true.1 (List.all_eq_true.1 hi b (List.mem_range.2 h1)) a (List.mem_range.2 h2)
  have ga:(rs.map (·.1)).getD a .no=Ta:=by simp [zA,zL,h3]
  have gb:(rs.map (·.1)).getD b .no=Tb:=by simp [zA,zL,h4]
  rw [ga,gb,h5] at this
  simpa using this
 have seg:∀x,touch T x=true→∀m T' H',rs[m]?=some (T',H')→(T'.w && touch T' x)=true→m≠i→L m=decide (m<i):=fun x hx m T' H' hm hw kF=>by
  simp only [zC] at hw
  have hml:=(zB.1 hm).1
  rcases Nat.lt_or_ge m i with xy | xy
  ·rw [show decide (m<i)=true by simpa using xy]
   exact GA ha _ m (KJ m i T' T H' H fe xy hm hr (KX hw.2 hx (.inl hw.1)))
  ·have xy:i<m:=by omega
   rw [show decide (m<i)=false by simp;omega]
   cases hl:L m with
   | false=>rfl
   | true=>
    have:=qu ha.down _ m i hl (KJ i m T T' H H' hml xy hr hm (KX hx hw.2 (.inr hw.1)))
    rw [ha.new] at this;cases this
 have base:∀x,touch T x=true→mF S2 x=mF H0 x:=fun x hx=>by
  have:=hA T H (zG hr) x hx
  exact Prod.ext this.1 (propext this.2)
 have pre:∀x,touch T x=true→mF (ln L rs 0 S2) x=mF (zy H0 rs i) x:=fun x hx=>by
  rw [iF,base x hx,←pV rs H0 0 i hc (Nat.le_of_lt fe)]
  refine lW rs 0 _ (fun m T' H' hm hw=>?_)
  simp only [Nat.zero_add]
  by_cases xy:m=i
  ·subst xy;rw [ha.new];simp
  ·exact seg x hx m T' H' hm hw xy
 refine ⟨fun x hx=>?_,pX fun x=>?_⟩
 ·have:=pre x hx
  exact ⟨congrArg Prod.fst this,Iff.of_eq (congrArg Prod.snd this)⟩
 ·rw [zr]
  by_cases hw:(T.w && touch T x)=true
  ·rw [if_pos hw]
   simp only [zC] at hw
   have e:zy H0 rs (i+1)=H:=by
    show (match rs[i]? with | some q=>q.2 | none=>H0)=H
    rw [hr]
   rw [←e,iF,base x hw.2,←pV rs H0 0 (i+1) hc fe]
   refine lW rs 0 _ (fun m T' H' hm YI=>?_)
   simp only [Nat.zero_add]
   by_cases xy:m=i
   ·subst xy;simp [ins]
   ·have:=seg x hw.2 m T' H' hm YI xy
    show (m == i || L m)=decide (m<i+1)
    rw [this,show (m == i)=false by simpa using xy,Bool.false_or]
    by_cases h1:m<i
    ·rw [show decide (m<i)=true by simpa using h1,show decide (m<i+1)=true by simp;omega]
    ·rw [show decide (m<i)=false by simpa using h1,show decide (m<i+1)=false by simp;omega]
  ·rw [if_neg hw,iF,iF]
   refine lW rs 0 _ (fun m T' H' hm YI=>?_)
   simp only [Nat.zero_add]
   by_cases xy:m=i
   ·subst xy;rw [hr] at hm;cases hm;exact absurd YI hw
   ·show (m == i || L m)=L m
    rw [show (m == i)=false by simpa using xy,Bool.false_or]
end
section
open Go.RowKit
section
variable {P:Program} {E:Env} {cx:Cx} {n:Nat} {β:Type} {r:β}
def lC:List Fp→Fp
 | []=>.no
 | T::r=>T.cat (lC r)
def xQ (E:Env) (cx:Cx) (n:Nat) (l0:List Oper):List Oper→Tr A→H→List Fp→(Tr A→H→List Fp→Option β)→Option β
 | [],F,h,acc,K=>K F h acc
 | o::l,F,h,acc,K=>match o.guard with
  | none=>LK E cx n o.op F h (fun F pv h' T=>tg F o.dst pv (fun F'=>xQ E cx n l0 l F' h' (acc++[T]) K))
  | some (j,want)=>HP l0 n F j want (fun F b=>bif b then LK E cx n o.op F h (fun F pv h' T=>tg F o.dst pv (fun F'=>xQ E cx n l0 l F' h' (acc++[T]) K)) else tg F o.dst .un (fun F'=>xQ E cx n l0 l F' h (acc++[.no]) K))
def drK (E:Env) (cx:Cx) (n:Nat) (β:Type) (_id:Nat) (ops:List Oper) (F:Tr A) (h:H) (U:Fp) (K:Tr A→H→Fp→Option β):Option β:=
 bif V8 ops.toArray then xQ E cx n ops ops F h [] (fun F h Ts=>bif indep ops.toArray ops.length Ts then K F h (U.cat (lC Ts)) else none) else none
def ot (ops:Array Oper) (H0:Hp) (rs:List (Fp×Hp)) (Sf:(Nat→Bool)→Hp) (k:Nat):Prop:=
 ∀m T H,rs[m]?=some (T,H)→∀L,Ge ops (k+m) L→Agree T (zy H0 rs m) (Sf L)∧Sf (ins L (k+m))=wQ T H (Sf L)
theorem ot.tail {ops:Array Oper} {H0:Hp} {q:Fp×Hp} {rs:List (Fp×Hp)} {Sf:(Nat→Bool)→Hp} {k:Nat} (h:ot ops H0 (q::rs) Sf k):ot ops q.2 rs Sf (k+1):=fun m T H hm L ha=>by
 have:=h (m+1) T H (by simpa using hm) L (by rwa [show k+(m+1)=k+1+m by omega])
 rw [jS m (Nat.le_of_lt (zB.1 hm).1),show k+(m+1)=k+1+m by omega] at this
 exact this
theorem j_.cons {H0:Hp} {T:Fp} {H:Hp} {rs:List (Fp×Hp)} (h1:∀x,touch T x=false→mF H x=mF H0 x) (h2:T.w=false→H=H0) (h:j_ H rs):j_ H0 ((T,H)::rs):=fun m T' H' hm=>by
 cases m with
 | zero=>simp at hm;obtain ⟨rfl,rfl⟩:=hm;exact ⟨h1,h2⟩
 | succ m=>
  have Nz:rs[m]?=some (T',H'):=by simpa using hm
  rw [jS m (Nat.le_of_lt (zB.1 Nz).1)]
  exact h m T' H' Nz
theorem ue (hE:bR P E) (hx:kO P cx) {l0:List Oper}:∀(l:List Oper) (F:Tr A) (h:H) (acc:List Fp) (K:Tr A→H→List Fp→Option β),xQ E cx n l0 l F h acc K=some r →
  ∃F' h' rs,K F' h' (acc++rs.map (·.1))=some r∧Kp (pL l) F F'∧rs.length=l.length∧j_ (hp h) rs∧(∀x,wt (lC (rs.map (·.1))) x=false→mF (hp h') x=mF (hp h) x)∧zy (hp h) rs rs.length=hp h'∧∀Sf k,ot l0.toArray (hp h) rs Sf k→∀ds S (Kf:St→Prop),Kf (eX n F' ds S)→q_ P l0.toArray Sf l k (eX n F ds S) Kf
 | [],F,h,acc,K,hr=>⟨F,h,[],by have hr:K F h acc=some r:=hr;simpa using hr,.refl _ F,rfl,fun m T H hm=>by simp at hm,fun _ _=>rfl,rfl,fun Sf k _ ds S Kf hk=>hk⟩
 | o::l,F,h,acc,K,hr=>by
  have yes:∀(F:Tr A),LK E cx n o.op F h (fun F pv h' T=>tg F o.dst pv (fun F'=>xQ E cx n l0 l F' h' (acc++[T]) K))=some r →
    (∀ds S,o.guard=none∨∃j want,o.guard=some (j,want)∧lU l0.toArray (eX n F ds S) j want=some true) →
    ∃F' h' rs,K F' h' (acc++rs.map (·.1))=some r∧Kp (pL (o::l)) F F'∧rs.length=(o::l).length∧j_ (hp h) rs∧(∀x,wt (lC (rs.map (·.1))) x=false→mF (hp h') x=mF (hp h) x)∧zy (hp h) rs rs.length=hp h'∧∀Sf k,ot l0.toArray (hp h) rs Sf k→∀ds S (Kf:St→Prop),Kf (eX n F' ds S)→q_ P l0.toArray Sf (o::l) k (eX n F ds S) Kf:=fun F hr hg=>by
   obtain ⟨F0,e0,pv,h1,T1,k1,k2⟩:=Dl hE hx hr
   obtain ⟨F1,k3,LZ,k4⟩:=pQ k1
   obtain ⟨F2,h2,rs,k5,Yy,k6,k7,kw,k8,k9⟩:=ue hE hx l F1 h1 (acc++[T1]) K k3
   have hg:∀ds S,o.guard=none∨∃j want,o.guard=some (j,want)∧lU l0.toArray (eX n F0 ds S) j want=some true:=fun ds S=>by rw [e0];exact hg ds S
   refine ⟨F2,h2,(T1,hp h1)::rs,by simpa using k5,(Kp.of (l:=[]) e0).trans (m:=pL (o::l)) (LZ.trans Yy (fun i hi=>zQ _ hi) (fun i hi=>zS _ hi)) (fun i hi=>by cases hi) (fun i hi=>hi),by simp [k6],j_.cons (fun x hx=>Prod.ext (k2.out x hx).1 (propext (k2.out x hx).2)) (fun hw=>pX fun x=>Prod.ext (k2.rd x (Gg hw)).1 (propext (k2.rd x (Gg hw)).2)) k7,fun x hx=>(kw x (pZ hx).2).trans (Prod.ext (k2.rd x (pZ hx).1).1 (propext (k2.rd x (pZ hx).1).2)),by rw [zR,jS _ (Nat.le_refl _)];exact k8,fun Sf k hs ds S Kf hk=>?_⟩
   rw [←e0 ds S]
   refine ⟨pv,?_,?_⟩
   ·have rD:∀L,Ge l0.toArray k L→BT P o ((eX n F0 ds S).uF 0) (Sf L) (Sf (ins L k)) pv:=fun L ha=>by
     obtain ⟨q1,q2⟩:=hs 0 T1 (hp h1) rfl L ha
     have q1:Agree T1 (hp h) (Sf L):=q1
     have q2:Sf (ins L k)=wQ T1 (hp h1) (Sf L):=q2
     rw [←oO,q2]
     have:=k2.ok (Sf L) q1
     unfold wQ
     cases hw:T1.w with
     | true=>exact this
     | false=>
      rw [show hp h1=hp h from pX fun x=>Prod.ext (k2.rd x (Gg hw)).1 (propext (k2.rd x (Gg hw)).2),lO q1] at this
      exact this
    unfold sf
    rcases hg ds S with hg | ⟨j,want,hg,hv⟩
    ·rw [hg];exact ⟨0,rD⟩
    ·rw [hg];exact .inl ⟨hv,0,rD⟩
   ·have:=k9 Sf (k+1) hs.tail ds S Kf hk
    rw [←k4 n ds S S,show ((eX n F0 ds S).put o.dst pv).to S=(eX n F0 ds S).put o.dst pv from tb _ _] at this
    exact this
  unfold xQ at hr
  split at hr
  ·rename_i hg
   exact yes F hr (fun _ _=>.inl hg)
  ·rename_i j want hg
   obtain ⟨F1,b,k1,k2,k3⟩:=y7 hr
   cases b with
   | true=>
    simp only [cond_true] at k1
    obtain ⟨F',h',rs,q1,qp,q2,q3,qw,q4,q5⟩:=yes F1 k1 (fun ds S=>.inr ⟨j,want,hg,by rw [k2];exact k3 ds S⟩)
    refine ⟨F',h',rs,q1,(Kp.of (l:=[]) k2).trans qp (fun i hi=>by cases hi) (fun i hi=>hi),q2,q3,qw,q4,fun Sf k hs ds S Kf hk=>?_⟩
    rw [←k2]
    exact q5 Sf k hs ds S Kf hk
   | false=>
    simp only [cond_false] at k1
    obtain ⟨F2,k4,LZ,k5⟩:=pQ k1
    obtain ⟨F',h',rs,q1,qp,q2,q3,qw,q4,q5⟩:=ue hE hx l F2 h (acc++[.no]) K k4
    refine ⟨F',h',(.no,hp h)::rs,by simpa using q1,(Kp.of (l:=[]) k2).trans (m:=pL (o::l)) (LZ.trans qp (fun i hi=>zQ _ hi) (fun i hi=>zS _ hi)) (fun i hi=>by cases hi) (fun i hi=>hi),by simp [q2],.cons (fun _ _=>rfl) (fun _=>rfl) q3,fun x hx=>qw x (pZ hx).2,by rw [zR,jS _ (Nat.le_refl _)];exact q4,fun Sf k hs ds S Kf hk=>⟨.un,?_,?_⟩⟩
    ·unfold sf
     rw [hg]
     exact .inr ⟨k3 ds S,fun g=>.un,fun L ha=>(hs 0 .no (hp h) rfl L ha).2⟩
    ·have:=q5 Sf (k+1) hs.tail ds S Kf hk
     rw [←k5 n ds S S,show ((eX n F1 ds S).put o.dst .un).to S=(eX n F1 ds S).put o.dst .un from tb _ _] at this
     rw [←k2]
     exact this
theorem mY {x:Nat}:∀(Ts:List Fp),touch (lC Ts) x=Ts.any fun T=>touch T x
 | []=>rfl
 | T::r=>by
  show touch (T.cat (lC r)) x=_
  rw [iy,mY r,List.any_cons]
theorem BK {H0:Hp}:∀(rs:List (Fp×Hp)),j_ H0 rs→(∀x,touch (lC (rs.map (·.1))) x=false→mF (zy H0 rs rs.length) x=mF H0 x)∧((lC (rs.map (·.1))).w=false→zy H0 rs rs.length=H0):=fun rs=>by
 induction rs generalizing H0 with
 | nil=>exact fun _=>⟨fun _ _=>rfl,fun _=>rfl⟩
 | cons q rs ih=>
  intro hc
  obtain ⟨T,H⟩:=q
  obtain ⟨i1,i2⟩:=ih hc.tail
  have h0:=hc 0 T H rfl
  rw [zR,jS _ (Nat.le_refl _)]
  refine ⟨fun x hx=>?_,fun hw=>?_⟩
  ·have hx:touch (T.cat (lC (rs.map (·.1)))) x=false:=hx
   rw [iy,Bool.or_eq_false_iff] at hx
   exact (i1 x hx.2).trans (h0.1 x hx.1)
  ·have hw:(T.w || (lC (rs.map (·.1))).w)=false:=hw
   rw [Bool.or_eq_false_iff] at hw
   exact (i2 hw.2).trans (h0.2 hw.1)
theorem EU (hE:bR P E) (hx:kO P cx) (hm:P.follows .mixedOrders=true) (n:Nat) (β:Type):BV P n (drK E cx n β):=fun id ops F h U K r hr=>by
 obtain ⟨hch,hr⟩:=ah hr
 obtain ⟨F',h',rs,k1,kp,k2,k3,kw,k4,k5⟩:=ue hE hx ops F h [] _ hr
 rw [List.nil_append] at k1
 obtain ⟨hi,k1⟩:=ah k1
 rw [←k2] at hi
 refine ⟨F',h',lC (rs.map (·.1)),k1,kp,fun inr ds=>?_⟩
 obtain ⟨e1,e2⟩:=BK rs k3
 rw [k4] at e1 e2
 refine ⟨⟨fun x hx=>⟨congrArg Prod.fst (e1 x hx),Iff.of_eq (congrArg Prod.snd (e1 x hx))⟩,fun x hx=>⟨congrArg Prod.fst (kw x hx),Iff.of_eq (congrArg Prod.snd (kw x hx))⟩⟩,fun ro _ S0 g0 w0 S2 hA Q hq=>?_⟩
 have pH:∀T H,(T,H)∈rs→Agree T (hp h) S2:=fun T H HD x hx=>hA x (by
  rw [mY,List.any_eq_true]
  exact ⟨T,List.mem_map.2 ⟨_,HD,rfl⟩,hx⟩)
 have zero:∀(r:List (Fp×Hp)) (j:Nat) (S:Hp),ln (fun _=>false) r j S=S:=fun r=>by
  induction r with
  | nil=>exact fun _ _=>rfl
  | cons q r ih=>exact fun j S=>ih (j+1) S
 refine GG (fun L=>ln L rs 0 S2) hm hch (zero rs 0 S2) ?_
 refine k5 (fun L=>ln L rs 0 S2) 0 (fun m T H Y5 L ha=>?_) ds S2 _ ?_
 ·rw [Nat.zero_add] at ha ⊢
  exact vH k3 hi pH Y5 ha
 ·have e:ln (fun j=>decide (j<ops.length)) rs 0 S2=ig (lC (rs.map (·.1))) (hp h') S2:=pX fun x=>by
   rw [iF]
   cases ht:touch (lC (rs.map (·.1))) x with
   | true=>
    have b:mF S2 x=mF (hp h) x:=Prod.ext (hA x ht).1 (propext (hA x ht).2)
    have:=pV (x:=x) rs (hp h) 0 rs.length k3 (Nat.le_refl _)
    rw [Nat.zero_add,k4,k2] at this
    rw [b,this]
    show mF (hp h') x=(if touch (lC (rs.map (·.1))) x=true then (hp h').ob x else S2.ob x,if touch (lC (rs.map (·.1))) x=true then (hp h').fr x else S2.fr x)
    rw [if_pos ht,if_pos ht];rfl
   | false=>
    rw [lW (L':=fun _=>false) rs 0 _ (fun m T H Y5 hw=>by
     simp only [zC] at hw
     have:touch (lC (rs.map (·.1))) x=true:=by
      rw [mY,List.any_eq_true]
      exact ⟨T,List.mem_map.2 ⟨_,zG Y5,rfl⟩,hw.2⟩
     rw [this] at ht;cases ht),←iF,zero]
    show mF S2 x=(if touch (lC (rs.map (·.1))) x=true then (hp h').ob x else S2.ob x,if touch (lC (rs.map (·.1))) x=true then (hp h').fr x else S2.fr x)
    rw [if_neg (by rw [ht];simp),if_neg (by rw [ht];simp)];rfl
  show Q .normal ((eX n F' ds S2).to (ln (fun j=>decide (j<ops.length)) rs 0 S2))
  rw [e]
  exact hq
end
end
open Go.RowKit
inductive ux (P:Program):Nat→Nat→BQ→Prop
 | nil (a b:Nat):ux P a b .nil
 | no {a b:Nat} {l r:BQ} (h1:ux P (2*a) (a+b) l) (h2:ux P (2*a) (2*a+b) r):ux P a b (.node l none r)
 | yes {a b:Nat} {e:cp} {l r:BQ} (h:bf P b e) (h1:ux P (2*a) (a+b) l) (h2:ux P (2*a) (2*a+b) r):ux P a b (.node l (some e) r)
theorem Gn {P:Program} {T:BQ} {a b:Nat} (h:ux P a b T):∀t e,cq T t=some e→bf P (a*t+b) e:=by
 have key:∀(a b:Nat) (l r:BQ),(∀t e,cq l t=some e→bf P (2*a*t+(a+b)) e)→(∀t e,cq r t=some e→bf P (2*a*t+(2*a+b)) e) →
   ∀n e v,cq (.node l v r) (n+1)=some e→bf P (a*(n+1)+b) e:=by
  intro a b l r hl hr n e v ht
  rw [Aq] at ht
  cases hn:Nat.beq (n%2) 0 with
  | true=>
   rw [hn] at ht
   have h0:=Nat.eq_of_beq_eq_true hn
   have:=hl _ e ht
   have e1:a*(n+1)+b=2*a*(n / 2)+(a+b):=by
    have:n=2*(n / 2):=by omega
    generalize n / 2=k at this
    subst this
    rw [Nat.mul_add,Nat.mul_one,Nat.mul_comm 2 a,Nat.mul_assoc];omega
   rw [e1];exact this
  | false=>
   rw [hn] at ht
   have h0:n%2≠0:=fun h=>by rw [h] at hn;cases hn
   have:=hr _ e ht
   have e1:a*(n+1)+b=2*a*(n / 2)+(2*a+b):=by
    have:n=2*(n / 2)+1:=by omega
    generalize n / 2=k at this
    subst this
    rw [show 2*k+1+1=2*(k+1) by omega,←Nat.mul_assoc,Nat.mul_comm a 2,Nat.mul_add,Nat.mul_one];omega
   rw [e1];exact this
 induction h with
 | nil=>intro t e h;cases h
 | no h1 h2 DY Ht=>
  intro t e ht
  cases t with
  | zero=>cases ht
  | succ n=>exact key _ _ _ _ DY Ht n e _ ht
 | yes h h1 h2 DY Ht=>
  intro t e ht
  cases t with
  | zero=>cases ht;rw [Nat.mul_zero,Nat.zero_add];exact h
  | succ n=>exact key _ _ _ _ DY Ht n e _ ht
theorem Gj {P:Program} {T:BQ} (h:ux P 1 0 T):∀t e,cq T t=some e→bf P t e:=fun t e ht=>by
 have:=Gn h t e ht
 rwa [Nat.one_mul,Nat.add_zero] at this
inductive Xo (P:Program):List Nat→Prop
 | nil:Xo P []
 | cons {t:Nat} {r:List Nat} (h:gZ P t) (k:Xo P r):Xo P (t::r)
theorem My {P:Program} {l:List Nat} (h:Xo P l):∀t,l.any (Nat.beq t)=true→gZ P t:=by
 induction h with
 | nil=>intro f h;simp at h
 | cons h k ih=>
  rename_i f0 r
  intro f hf
  rw [List.any_cons,Bool.or_eq_true] at hf
  rcases hf with hf | hf
  ·obtain rfl:=Nat.eq_of_beq_eq_true hf;exact h
  ·exact ih f hf
theorem cA {P : Program} {t : Nat} {fs : Array Field} (h1 : P.stoodInHeld t = false) (h2 : P.eqGuardType P.depth t = false) (h3 : P.underlying t = some (.struct fs)) (h4 : fs.toList.all (fun f => f.name != "_") = true) : gZ P t :=
 ⟨h1,h2,fun fs' e f hf=>by
  rw [h3] at e
  cases e
  have:=List.all_eq_true.1 h4 f hf
  simpa using this⟩
theorem aw {P:Program} {t:Nat} {e:cp} (h1:P.underlying t=some e.d) (h2:TI P t e.size e.bytes e.zero) (h3:∀fs,e.d = .struct fs→∀w:World,(fs.mapM fun f=>(do pure (f.offset,←sizeOf f.type):Sem (Nat×Nat))).run P w = .ok e.pl.toArray w)
  (h4:∀u,e.t=some u→u.size=e.size∧oB u (jD e.zero)=some u.cF):bf P t e where
 u:=h1
 ti:=h2
 pl:=h3
 ts:=fun u hu=>(h4 u hu).1
 tz:=fun u hu g=>by
  obtain ⟨i,t1,t2,t3,t4,t5,t6⟩:=h2
  exact (iW (g:=g) u _ _ (h4 u hu).2).2 _ (nw t6 g)
theorem jL {e:cp} (h:e.t=none):∀u,e.t=some u→u.size=e.size∧oB u (jD e.zero)=some u.cF:=fun u hu=>by rw [h] at hu;cases hu
theorem aJ {e:cp} {u:Ty} (h:e.t=some u) (h1:u.size=e.size) (h2:oB u (jD e.zero)=some u.cF):∀u,e.t=some u→u.size=e.size∧oB u (jD e.zero)=some u.cF:=fun u' hu=>by rw [h] at hu;cases hu;exact ⟨h1,h2⟩
inductive HT where
 | o
 | n (h:Option LH) (x y:HT)
 | z (l:List (Nat×Ty)) (t:HT)
def HT.h:HT→Option LH
 | .o=>none
 | .n h _ _=>h
 | .z _ t=>t.h
def HT.l:HT→HT
 | .o=>.o
 | .n _ x _=>x
 | .z _ t=>t.l
def HT.r:HT→HT
 | .o=>.o
 | .n _ _ y=>y
 | .z _ t=>t.r
def HT.fz:HT→List (Nat×Ty)
 | .z l _=>l
 | _=>[]
def Kq (l:List (Nat×Ty)) (x:ay):ay:=match l with
 | []=>x
 | p::l=>.Mq (p::l) x
theorem xg (l:List (Nat×Ty)) (x:ay):(Kq l x).code=x.code:=by cases l<;>rfl
def Ss:LH:=⟨[],[],[],[],[],[]⟩
def mkSeq (h:Option LH) (x y:ay):ay:=match h with
 | some h=>.cut h x y
 | none=>.seq x y
def Dy (h:Option LH) (x:ay):ay:=match h with
 | some h=>.loop h x
 | none=>.loop Ss x
def comp:Code→HT→ay
 | .skip,_=>.skip
 | .ret,_=>.ret
 | .exit id,_=>.exit id
 | .region id ops d,_=>.region id ops.toList d
 | .seq x y,t=>mkSeq t.h (comp x t.l) (Kq t.r.fz (comp y t.r))
 | .cond c x y,t=>.cond c (comp x t.l) (comp y t.r)
 | .block id x,t=>.block id (comp x t.l)
 | .scope x,t=>.scope (comp x t.l)
 | .label l,_=>.label l
 | .loop x,t=>Dy t.h (comp x t.l)
 | .rangeFunc g ps x y,t=>.range g ps.toList Ss (comp x t.l) (comp y t.r)
 | c,_=>.bad c
theorem xf (h:Option LH) (x y:ay):(mkSeq h x y).code = .seq x.code y.code:=by cases h<;>rfl
theorem vv (h:Option LH) (x:ay):(Dy h x).code = .loop x.code:=by cases h<;>rfl
theorem BF (c:Code) (t:HT):(comp c t).code=c:=by
 fun_induction comp c t<;>simp_all [ay.code,xf,vv,xg]
def au (f:Func):Code:=match f.body with
 | some c=>c
 | none=>.skip
theorem ak {P : Program} {f : Nat} {fn : Func} {t : HT} (h1 : P.funcs[f]? = some fn) (h2 : fn.body = some (au fn)) (h3 : (fn.name == "runtime.NumGoroutine") = false) : aR P f fn (comp (au fn) t) := ⟨h1, by rw [BF]; exact h2, h3⟩
section
open Go.RowKit
structure uz (P:Program) (f:FuncId) (t:Ty):Prop where
 fn:uA P f
 ok:∀(n:Nat) (w:World),n≤16777216→Calls P f #[.slice none 0 0,.int .i64 (n:Int)] w fun e w'=>∃v,e = .returned v∧((v = .slice none 0 0∧w'=w)∨∃vs ty cap,v = .slice (some ⟨w.heap.size,0,none⟩) 0 cap∧w'=w.drew.alloc (.cells vs ty)∧cap*t.size≤vs.size∧cap≤maxLen)
structure oy (P:Program) (f:FuncId) (t:Ty):Prop where
 fn:uA P f
 none:∀(n c:Nat) (w:World),Calls P f #[.slice none n c] w fun e w'=>e = .returned (.slice none 0 0)∧w'=w
 some:∀(g:G) (S:Hp) (q:Nat),S.fr q→∀l:List t.T,l.length≤16777216→∀(w:World),Inv g S w→∀(a:Addr) (n c:Nat),(∀w2,Inv g S w2→Given g w2 (.slice (some a) n c) t.size l.length (l.flatMap (aA t))) →
  Calls P f #[.slice (some a) n c] w fun e w'=>∃v g',e = .returned v∧V g' (.tw (.loc q) t.size) v∧Inv g' (S.new q (.cells (l.flatMap (aA t)))) w'∧Ext S g w (S.new q (.cells (l.flatMap (aA t)))) g' w'
inductive NR where
 | fn (sg:dI) (F:Plain sg)
 | grow (t:Ty)
 | clone (t:Ty)
abbrev uC:=Nat→Option NR
def NR.Ok (P:Program) (f:FuncId):NR→Prop
 | .fn sg F=>bB P f sg F
 | .grow t=>uz P f t
 | .clone t=>oy P f t
def lB (P:Program) (rF:uC):Prop:=∀f e,rF f=some e→e.Ok P f
def y0 {β:Type} (t:Ty) (aa:List A) (h:H) (K:A→H→Fp→Option β):Option β:=match aa with
 | [.v (.slice none 0 0),.v (.int .i64 n)]=>gd (bw n) (gd (bp (nN n) 16777216) (mD (.row t []) h (fun q h'=>K (.tw (.loc q) t.size) h' (.wr [dk q]))))
 | _=>none
def ui {β:Type} (t:Ty) (aa:List A) (h:H) (K:A→H→Fp→Option β):Option β:=match aa with
 | [py]=>wV h t py (fun l T=>gd (bp (len (α:=t.T) l) 16777216) (mD (.row t l) h (fun q h'=>K (.tw (.loc q) t.size) h' ⟨false,dk q::T,true,[dk q]⟩)))
 | _=>none
def MJ (rF:uC) (xN:Cx):Cx:=⟨fun β f aa h K=>match rF f with
 | some (.fn sg F)=>Xh sg F aa h K
 | some (.grow t)=>y0 t aa h K
 | some (.clone t)=>ui t aa h K
 | none=>xN.call β f aa h K,xN.hm,xN.rA⟩
section
variable {P:Program} {E:Env}
theorem Eo {β:Type} {f:FuncId} {t:Ty} (hg:uz P f t) {aa:List A} {h:H} {K:A→H→Fp→Option β} {r:β} (hr:y0 t aa h K=some r):∃pv h' T,K pv h' T=some r∧sO P f aa h h' T pv:=by
 unfold y0 at hr
 split at hr
 ·rename_i n
  obtain ⟨hp,hr⟩:=bq hr
  have hp:0≤n:=hp
  obtain ⟨hn,hr⟩:=bq hr
  have hn:n.toNat≤16777216:=hn
  have S6:n=((n.toNat:Nat):Int):=by omega
  obtain ⟨h',k1,hq,hf,hh⟩:=fF hr
  have hT:∀u∈[Up.new h.aS (f_.row t []).low],touch (.wr [dk h.aS]) u.id=true:=fun u hu=>by rcases zF.1 hu with rfl;exact aB (o:=h.aS) hq (.head _)
  have hW:∀u∈[Up.new h.aS (f_.row t []).low],wt (.wr [dk h.aS]) u.id=true:=fun u hu=>by rcases zF.1 hu with rfl;exact aB (l:=[dk h.aS]) (w:=false) (s:=[]) (o:=h.aS) hq (.head _)
  refine ⟨_,_,_,k1,fun i hi=>by rw [hh];exact cV _ _ i (fun u hu e=>by rw [e,hT u hu] at hi;cases hi),fun i hi=>by rw [hh];exact cV _ _ i (fun u hu e=>by rw [e,hW u hu] at hi;cases hi),hg.fn,fun S2 hA=>?_⟩
  rw [hh,gI hT hA]
  show PC P f _ S2 (S2.new h.aS (.cells [])) _
  have Eg:S2.fr h.aS:=(hA _ (aB hq (.head _))).2.2 hf
  intro g w vs hI hl hv
  match vs,hl with
  | [u,v],_=>
   have e1:=(hv 0 _ _ rfl rfl).fS
   have e2:=(hv 1 _ _ rfl rfl).fS
   subst e1 e2
   rw [S6]
   refine (hg.ok n.toNat w hn).mono ?_
   rintro e w' ⟨v,rfl,⟨rfl,rfl⟩ | ⟨vs,ty,cap,rfl,rfl,k3,k4⟩⟩
   ·obtain ⟨q1,q2⟩:=hI.emp Eg
    exact ⟨_,_,rfl,.sa (.loc h.aS) t.size none b_,q1,q2⟩
   ·obtain ⟨q1,q2⟩:=hI.drew.lg Eg (cs:=[]) (vs:=vs) ty (Nat.zero_le _) ⟨by simp,fun j c x e=>by simp at e⟩
    refine ⟨_,_,rfl,.tw (.loc h.aS) t.size 0 w.heap.size cap vs.size ?_ (Nat.zero_le _) k4 k3 0 (fun _=>rfl),q1,Inv.sR q2⟩
    rw [Nat.zero_mul];exact b_
 ·cases hr
theorem BI {β:Type} {f:FuncId} {t:Ty} (hg:oy P f t) {aa:List A} {h:H} {K:A→H→Fp→Option β} {r:β} (hr:ui t aa h K=some r):∃pv h' T,K pv h' T=some r∧sO P f aa h h' T pv:=by
 unfold ui at hr
 split at hr
 ·rename_i py
  obtain ⟨l,T,hr,tU⟩:=sV hr
  obtain ⟨hn,hr⟩:=bq hr
  have hn:List.length (α:=t.T) l≤16777216:=hn
  obtain ⟨h',k1,hq,hf,hh⟩:=fF hr
  have hT:∀u∈[Up.new h.aS (f_.row t l).low],touch ⟨false,dk h.aS::T,true,[dk h.aS]⟩ u.id=true:=fun u hu=>by rcases zF.1 hu with rfl;exact aB (o:=h.aS) hq (.head _)
  have hW:∀u∈[Up.new h.aS (f_.row t l).low],wt ⟨false,dk h.aS::T,true,[dk h.aS]⟩ u.id=true:=fun u hu=>by rcases zF.1 hu with rfl;exact aB (l:=[dk h.aS]) (w:=false) (s:=[]) (o:=h.aS) hq (.head _)
  refine ⟨_,_,_,k1,fun i hi=>by rw [hh];exact cV _ _ i (fun u hu e=>by rw [e,hT u hu] at hi;cases hi),fun i hi=>by rw [hh];exact cV _ _ i (fun u hu e=>by rw [e,hW u hu] at hi;cases hi),hg.fn,fun S2 hA=>?_⟩
  rw [hh,gI hT hA]
  show PC P f _ S2 (S2.new h.aS (.cells (List.flatMap (aA t) l))) _
  have Eg:S2.fr h.aS:=(hA _ (aB hq (.head _))).2.2 hf
  have tU:=tU S2 (hA.mono fun i hi=>.tail _ hi)
  intro g w vs hI W4 hv
  match vs,W4 with
  | [u],_=>
   have e1:=hv 0 _ _ rfl rfl
   have W8:∀w2,Inv g S2 w2→Given g w2 u t.size l.length (l.flatMap (aA t)):=fun w2 hI2=>tU g w2 u hI2 e1
   obtain ⟨A,c,us,rfl,k2,k3,k4⟩:=W8 w hI
   cases A with
   | none=>
    have Y9:l=[]:=by
     rcases Nat.eq_zero_or_pos l.length with h0 | h0
     ·exact zZ h0
     ·obtain ⟨_,e,_⟩:=k4 h0;cases e
    refine (hg.none _ c w).mono ?_
    rintro e w' ⟨rfl,rfl⟩
    rw [Y9]
    obtain ⟨q1,q2⟩:=hI.emp Eg
    exact ⟨_,_,rfl,.sa (.loc h.aS) t.size none b_,q1,q2⟩
   | some a=>exact hg.some g S2 h.aS Eg l hn w hI a _ c W8
 ·cases hr
theorem zl {rF:uC} (hc:lB P rF) {xN:Cx} (hf:kO P xN):kO P (MJ rF xN):=⟨fun β f aa h K r hr=>by
 have hr:(match rF f with | some (.fn sg F)=>Xh sg F aa h K | some (.grow t)=>y0 t aa h K | some (.clone t)=>ui t aa h K | none=>xN.call β f aa h K)=some r:=hr
 split at hr
 ·rename_i sg F he
  exact ML (hc f _ he) hr
 ·rename_i t he
  exact Eo (hc f _ he) hr
 ·rename_i t he
  exact BI (hc f _ he) hr
 ·exact hf.call β f aa h K r hr,hf.rA⟩
def cxT (E:Env) (fns:FT) (hm:List (Nat×Nat)) (rF:uC):Nat→Cx
 | 0=>MJ rF (Ce hm)
 | k+1=>MJ rF (wU E fns (fun cx n=>drK E cx n) hm (cxT E fns hm rF k))
def cxF (E:Env) (fns:FT) (hm:List (Nat×Nat)) (rF:uC) (k:Nat):Cx:=wU E fns (fun cx n=>drK E cx n) hm (cxT E fns hm rF k)
theorem uf (hE:bR P E) (Ec:P.follows .mixedOrders=true) {fns:FT} (hF:wA P fns) {hm:List (Nat×Nat)} {rF:uC} (hc:lB P rF):∀k,kO P (cxT E fns hm rF k)
 | 0=>zl hc (z8 hm)
 | k+1=>zl hc (sh hE hF (uf hE Ec hF hc k) (fun n β=>EU hE (uf hE Ec hF hc k) Ec n β))
theorem rb (hE:bR P E) (Ec:P.follows .mixedOrders=true) {fns:FT} (hF:wA P fns) {hm:List (Nat×Nat)} {rF:uC} (hc:lB P rF) (k:Nat):kO P (cxF E fns hm rF k):=sh hE hF (uf hE Ec hF hc k) (fun n β=>EU hE (uf hE Ec hF hc k) Ec n β)
theorem bB.of {f:FuncId} {sg:dI} {F G:Plain sg} (h:bB P f sg G) (e:∀x c d,F x c d=G x c d):bB P f sg F:=by
 have:F=G:=funext fun x=>funext fun c=>funext fun d=>e x c d
 rw [this];exact h
end
end
section
open Go.RowKit
def aj {α:Type} (d:α) (l:List α) (i:Nat) (f:α→α):List α:=upd l i (f (nth d l i))
def ctN:uC:=fun _=>none
def ctC (f:Nat) (sg:dI) (F:Plain sg) (l:uC):uC:=fun g=>bif Nat.beq g f then some (.fn sg F) else l g
def ctG (f:Nat) (t:Ty) (l:uC):uC:=fun g=>bif Nat.beq g f then some (.grow t) else l g
def ctL (f:Nat) (t:Ty) (l:uC):uC:=fun g=>bif Nat.beq g f then some (.clone t) else l g
theorem aO {P:Program}:lB P ctN:=fun f e h=>by cases h
theorem ao {P:Program} {f:Nat} {sg:dI} {F:Plain sg} {l:uC} (h:bB P f sg F) (k:lB P l):lB P (ctC f sg F l):=fun g e hg=>by
 have hg:(bif Nat.beq g f then some (NR.fn sg F) else l g)=some e:=hg
 cases hb:Nat.beq g f with
 | true=>rw [hb] at hg;cases hg;rw [beq_eq hb];exact h
 | false=>rw [hb] at hg;exact k g e hg
theorem EY {P:Program} {f:Nat} {t:Ty} {l:uC} (h:oy P f t) (k:lB P l):lB P (ctL f t l):=fun g e hg=>by
 have hg:(bif Nat.beq g f then some (NR.clone t) else l g)=some e:=hg
 cases hb:Nat.beq g f with
 | true=>rw [hb] at hg;cases hg;rw [beq_eq hb];exact h
 | false=>rw [hb] at hg;exact k g e hg
theorem MM {P:Program} {f:Nat} {t:Ty} {l:uC} (h:uz P f t) (k:lB P l):lB P (ctG f t l):=fun g e hg=>by
 have hg:(bif Nat.beq g f then some (NR.grow t) else l g)=some e:=hg
 cases hb:Nat.beq g f with
 | true=>rw [hb] at hg;cases hg;rw [beq_eq hb];exact h
 | false=>rw [hb] at hg;exact k g e hg
inductive Iz (P:Program):Nat→Nat→Tr (Func×ay)→Prop
 | nil (a b:Nat):Iz P a b .nil
 | no {a b:Nat} {l r:Tr (Func×ay)} (h1:Iz P (2*a) (a+b) l) (h2:Iz P (2*a) (2*a+b) r):Iz P a b (.node l none r)
 | yes {a b:Nat} {fn:Func} {x:ay} {l r:Tr (Func×ay)} (h:aR P b fn x) (h1:Iz P (2*a) (a+b) l) (h2:Iz P (2*a) (2*a+b) r):Iz P a b (.node l (some (fn,x)) r)
theorem Mp {P:Program} {T:Tr (Func×ay)} {a b:Nat} (h:Iz P a b T):∀t fn x,T.get t=some (fn,x)→aR P (a*t+b) fn x:=by
 have key:∀(a b:Nat) (l r:Tr (Func×ay)),(∀t fn x,l.get t=some (fn,x)→aR P (2*a*t+(a+b)) fn x)→(∀t fn x,r.get t=some (fn,x)→aR P (2*a*t+(2*a+b)) fn x) →
   ∀n fn x v,(Tr.node l v r).get (n+1)=some (fn,x)→aR P (a*(n+1)+b) fn x:=by
  intro a b l r hl hr n fn x v ht
  rw [Tr.gP] at ht
  cases hn:Nat.beq (n%2) 0 with
  | true=>
   rw [hn] at ht
   have h0:=Nat.eq_of_beq_eq_true hn
   have:=hl _ fn x ht
   have e1:a*(n+1)+b=2*a*(n / 2)+(a+b):=by
    have:n=2*(n / 2):=by omega
    generalize n / 2=k at this
    subst this
    rw [Nat.mul_add,Nat.mul_one,Nat.mul_comm 2 a,Nat.mul_assoc];omega
   rw [e1];exact this
  | false=>
   rw [hn] at ht
   have h0:n%2≠0:=fun h=>by rw [h] at hn;cases hn
   have:=hr _ fn x ht
   have e1:a*(n+1)+b=2*a*(n / 2)+(2*a+b):=by
    have:n=2*(n / 2)+1:=by omega
    generalize n / 2=k at this
    subst this
    rw [show 2*k+1+1=2*(k+1) by omega,←Nat.mul_assoc,Nat.mul_comm a 2,Nat.mul_add,Nat.mul_one];omega
   rw [e1];exact this
 induction h with
 | nil=>intro t fn x h;cases h
 | no h1 h2 DY Ht=>
  intro t fn x ht
  cases t with
  | zero=>cases ht
  | succ n=>exact key _ _ _ _ DY Ht n fn x _ ht
 | yes h h1 h2 DY Ht=>
  intro t fn x ht
  cases t with
  | zero=>cases ht;rw [Nat.mul_zero,Nat.zero_add];exact h
  | succ n=>exact key _ _ _ _ DY Ht n fn x _ ht
theorem Mo {P:Program} {T:Tr (Func×ay)} (h:Iz P 1 0 T):wA P (fun f=>T.get f):=fun f fn x hf=>by
 have:=Mp h f fn x hf
 rwa [Nat.one_mul,Nat.add_zero] at this
theorem Vv {P:Program} {E:Env} {fns:FT} {hm:List (Nat×Nat)} {rF:uC} (hE:bR P E) (Ec:P.follows .mixedOrders=true) (hF:wA P fns) (hc:lB P rF) (k:Nat) {f:FuncId} {sg:dI} {F:Plain sg} (e:∀x c d,F x c d=Ll (cxF E fns hm rF k) f sg x c d):bB P f sg F:=
 (Gr (rb hE Ec hF hc k) f sg).of e
theorem _root_.Go.Bm.V.JH {g:G} {t:Ty} {f:Bool} {l:List t.T} {v:Value} (hv:V g (.tl t f l) v):(∃a n c,v = .slice (some a) n c∧VD g.mem (.sl t.size f (l.map (dw t))) v)∨(l=[]∧v = .slice none 0 0):=by
 cases hv with
 | tl _ _ _ _ hd=>
  generalize pT:List.map (dw t) l=es at hd
  have oY:es.length=l.length:=by rw [←pT,zH]
  have mE:=hd
  cases hd with
  | uQ sz full A=>
   cases A with
   | none=>exact .inr ⟨zZ oY.symm,rfl⟩
   | some a=>exact .inl ⟨_,_,_,rfl,mE⟩
  | sl _ _ _ a cap vs hz hc hf hn hx hl hm FY=>
   cases a with
   | some p=>exact .inl ⟨_,_,_,rfl,mE⟩
   | none=>
    have h0:cap=0:=hn rfl
    have h1:es.length=0:=by omega
    refine .inr ⟨zZ (by omega),?_⟩
    rw [h0,h1];rfl
theorem PC.less {P:Program} {f:FuncId} {aa:List A} {S S1 S2:Hp} {r:A} (h:PC P f aa S S1 r) (hs:∀o x,S2.ob o=some x→S1.ob o=some x) (hf:∀o,S2.fr o→S1.fr o):PC P f aa S S2 r:=fun g w vs hI hl hv=>by
 refine (h g w vs hI hl hv).mono ?_
 rintro e w' ⟨v,g',rfl,q1,q2,q3⟩
 exact ⟨v,g',rfl,q1,q2.less hs hf,q3.trans (.less hs hf)⟩
theorem Kz {h:H} {i:Nat} (hl:i<cE):(hp h).ob i=fh h.t i∧((hp h).fr i↔h.aS≤i):=⟨if_pos hl,by show (if i<cE then _ else _)↔_;rw [if_pos hl]⟩
theorem nY {t:Tr f_} {n m:Nat} {l:List Rg} {k k':List Nat} (h:n≤m):(∀o x,(hp ⟨.nil,m,l,k'⟩).ob o=some x→(hp ⟨t,n,l,k⟩).ob o=some x)∧∀o,(hp ⟨.nil,m,l,k'⟩).fr o→(hp ⟨t,n,l,k⟩).fr o:=by
 refine ⟨fun o x e=>?_,fun o e=>?_⟩
 ·by_cases ho:o<cE
  ·rw [(Kz ho).1] at e
   have e0:fh .nil o=none:=by unfold fh;rw [Tr.get_nil]
   rw [show (⟨.nil,m,l,k'⟩:H).t = .nil from rfl,e0] at e
   cases e
  ·rw [(eW ho).1] at e ⊢;exact e
 ·by_cases ho:o<cE
  ·rw [(Kz ho).2] at e ⊢;exact Nat.le_trans h e
  ·rw [(eW ho).2] at e ⊢;exact e
theorem uh {P:Program} {cx:Cx} (hx:kO P cx) {f:FuncId} {t:Ty} {rs:List (Bool×Ty)} {F:List t.T→Option (jU rs×Unit)}
  (hn:Gs cx f ⟨[(false,.aI t)],rs,[],[]⟩ [.v (.slice none 0 0)] () ()=F []) (h1:∀l,Gs cx f ⟨[(false,.aI t)],rs,[],[]⟩ [.nn t l] () ()=F l):bB P f ⟨[(false,.aI t)],rs,[],[]⟩ (fun x _ _=>F x.1):=by
 refine ⟨fun x c d y h=>(nJ hx f _ _ c d y.1 y.2 ((h1 x.1).trans h)).1,fun x c d y d' h=>?_⟩
 obtain ⟨l,u⟩:=x
 obtain ⟨_,t1,n1,k1,p1⟩:=nJ hx f _ _ c d y d' ((h1 l).trans h)
 obtain ⟨a1,a2⟩:=nY (t:=t1) (n:=n1) (m:=n1) (l:=dq [] d'++dq [] c) (k:=k1) (k':=k1) (Nat.le_refl _)
 have full:∀m,n1≤m→PC P f [.nn t l] (hp (h0 [] [] c d)) (hp ⟨.nil,m,dq [] d'++dq [] c,k1⟩) (rK rs y):=fun m hm=>p1.less (nY hm).1 (nY hm).2
 cases l with
 | cons a l=>
  refine ⟨.nil,n1,k1,fun g w vs hI hl hv=>?_⟩
  match vs,hl with
  | [v],_=>
   rcases (hv 0 _ _ rfl rfl:V g (.tl t false (a::l)) v).JH with ⟨b,n,c2,rfl,hd⟩ | ⟨e,_⟩
   ·exact full n1 (Nat.le_refl _) g w _ hI rfl fun i p v e1 e2=>by
     cases i with
     | zero=>cases e1;cases e2;exact .nn _ _ _ _ _ hd
     | succ i=>cases e1
   ·cases e
 | nil=>
  obtain ⟨_,t0,n0,k0,p0⟩:=nJ hx f _ _ c d y d' (hn.trans h)
  refine ⟨.nil,n1+n0,k1,fun g w vs hI hl hv=>?_⟩
  match vs,hl with
  | [v],_=>
   rcases (hv 0 _ _ rfl rfl:V g (.tl t false []) v).JH with ⟨b,n,c2,rfl,hd⟩ | ⟨_,rfl⟩
   ·exact full _ (Nat.le_add_right _ _) g w _ hI rfl fun i p v e1 e2=>by
     cases i with
     | zero=>cases e1;cases e2;exact .nn _ _ _ _ _ hd
     | succ i=>cases e1
   ·exact (p0.less (S2:=hp ⟨.nil,n1+n0,dq [] d'++dq [] c,k1⟩) (nY (Nat.le_add_left _ _)).1 (nY (Nat.le_add_left _ _)).2) g w _ hI rfl fun i p v e1 e2=>by
     cases i with
     | zero=>cases e1;cases e2;exact .v _
     | succ i=>cases e1
end
end Go.Bm
namespace Go.Proofs.YtklkjncibchelaaGreat
open Go.Bm
set_option maxRecDepth 20000
def R0:RK:=(.box (.pair (.pair (.int .i64) (.pair (.int .i64) (.pair (.int .i64) (.int .i64)))) (.pair (.iX 9 1) (.pair (.ptr 1) (.pair (.ptr 3) (.pair (.iX 5 1) (.pair (.iX 7 14) (.int .i64))))))))
def R1:RK:=(.box (.iX 2 1))
def R2:RK:=(.row (.int .u8))
def R3:RK:=(.box (.pair (.int .i64) (.pair (.int .i64) (.iX 4 2))))
def R4:RK:=(.row (.pair (.int .i64) (.int .i64)))
def R5:RK:=(.row (.ptr 6))
def R6:RK:=(.box (.pair (.aI (.pair (.int .u8) (.pair (.int .u8) (.pair (.int .u8) (.pair (.int .u8) (.pair (.int .i64) (.pair (.int .i64) (.int .i64)))))))) (.pair (.iX 8 1) (.pair (.aI (.pair (.int .i64) .bool)) (.pair (.pair (.pair (.int .u8) (.pair (.int .u8) (.pair (.int .u8) (.pair (.int .u8) (.pair (.int .i64) (.pair (.int .i64) (.int .i64))))))) (.pair (.int .i64) (.pair (.int .i64) (.pair (.int .u64) (.pair (.int .u64) (.pair (.aI (.pair (.int .i64) .bool)) (.pair (.int .u64) (.pair (.int .u64) (.pair (.int .i64) (.pair (.int .i64) (.pair (.aI (.int .i64)) (.pair (.int .i64) (.pair (.aI (.int .i64)) (.pair (.int .i64) (.pair .bool (.pair .bool (.pair .bool (.pair (.int .i64) (.pair (.int .i64) (.aI (.int .i64))))))))))))))))))))) (.pair .bool (.int .i64)))))))
def R7:RK:=(.row (.pair (.int .i64) (.pair (.pair (.int .u8) (.pair (.int .u8) (.pair (.int .u8) (.pair (.int .u8) (.pair (.int .i64) (.pair (.int .i64) (.int .i64))))))) (.pair (.int .i64) (.pair (.int .i64) (.pair (.int .i64) (.pair (.int .i64) (.pair (.int .i64) (.aI (.int .i64))))))))))
def R8:RK:=(.row (.int .u64))
def R9:RK:=(.row (.aI (.pair (.int .u8) (.pair (.int .i64) (.int .i64)))))
def ty1:cp:=⟨.func #[] #[] false,1,8,.nilFunc,[],none,false⟩
theorem te1:bf Tryz.prog 1 ty1:=aw Tryz.underlying1 (aL (by kernel_rfl) rfl rfl) (fun _ h=>by cases h) (jL rfl)
def ty2:cp:=⟨.int .i64,1,8,.int .i64 0,[],(some (.int .i64)),false⟩
theorem te2:bf Tryz.prog 2 ty2:=aw Tryz.underlying2 (aL (by kernel_rfl) rfl rfl) (fun _ h=>by cases h) (aJ rfl (by kernel_rfl) (by kernel_rfl))
def ty3:cp:=⟨.int .i64,1,8,.int .i64 0,[],(some (.int .i64)),false⟩
theorem X2:bf Tryz.prog 3 ty3:=aw Tryz.underlying3 (aL (by kernel_rfl) rfl rfl) (fun _ h=>by cases h) (aJ rfl (by kernel_rfl) (by kernel_rfl))
def ty4:cp:=⟨.bool,1,1,.bool false,[],(some .bool),false⟩
theorem te4:bf Tryz.prog 4 ty4:=aw Tryz.underlying4 (aL (by kernel_rfl) rfl rfl) (fun _ h=>by cases h) (aJ rfl (by kernel_rfl) (by kernel_rfl))
def ty5:cp:=⟨.int .u8,1,1,.int .u8 0,[],(some (.int .u8)),false⟩
theorem te5:bf Tryz.prog 5 ty5:=aw Tryz.underlying5 (aL (by kernel_rfl) rfl rfl) (fun _ h=>by cases h) (aJ rfl (by kernel_rfl) (by kernel_rfl))
def ty9:cp:=⟨.string,1,16,.string ByteArray.empty,[],none,false⟩
theorem te9:bf Tryz.prog 9 ty9:=aw Tryz.underlying9 (aL (by kernel_rfl) rfl rfl) (fun _ h=>by cases h) (jL rfl)
def PW:cp:=⟨.int .u64,1,8,.int .u64 0,[],(some (.int .u64)),false⟩
theorem X9:bf Tryz.prog 12 PW:=aw Tryz.underlying12 (aL (by kernel_rfl) rfl rfl) (fun _ h=>by cases h) (aJ rfl (by kernel_rfl) (by kernel_rfl))
def PV : cp := ⟨.struct #[⟨"msg", 9, 0, false, "", "runtime", 0⟩, ⟨"addr", 12, 1, false, "", "runtime", 16⟩], 2, 24, .agg #[.string ByteArray.empty, .int .u64 0], [(0, 1), (1, 1)], none, false⟩
theorem X8:bf Tryz.prog 13 PV:=aw Tryz.underlying13 (aL (by kernel_rfl) rfl rfl) (fun fs h w=>by cases h;kernel_rfl) (jL rfl)
def PU:cp:=⟨.int .i32,1,4,.int .i32 0,[],(some (.int .i32)),false⟩
theorem X7:bf Tryz.prog 21 PU:=aw Tryz.underlying21 (aL (by kernel_rfl) rfl rfl) (fun _ h=>by cases h) (aJ rfl (by kernel_rfl) (by kernel_rfl))
def PT:cp:=⟨.int .i64,1,8,.int .i64 0,[],(some (.int .i64)),false⟩
theorem X6:bf Tryz.prog 23 PT:=aw Tryz.underlying23 (aL (by kernel_rfl) rfl rfl) (fun _ h=>by cases h) (aJ rfl (by kernel_rfl) (by kernel_rfl))
def PS:cp:=⟨.array 4 5,4,4,.agg #[.int .u8 0,.int .u8 0,.int .u8 0,.int .u8 0],[],(some (.arr 4 (.int .u8))),false⟩
theorem X5:bf Tryz.prog 27 PS:=aw Tryz.underlying27 (aL (by kernel_rfl) rfl rfl) (fun _ h=>by cases h) (aJ rfl (by kernel_rfl) (by kernel_rfl))
def PR:cp:=⟨.slice 30,1,24,.slice none 0 0,[],(some (.aI (.aI (.pair (.int .u8) (.pair (.int .u8) (.pair (.int .u8) (.pair (.int .u8) (.pair (.int .i64) (.pair (.int .i64) (.int .i64)))))))))),false⟩
theorem X4:bf Tryz.prog 28 PR:=aw Tryz.underlying28 (aL (by kernel_rfl) rfl rfl) (fun _ h=>by cases h) (aJ rfl (by kernel_rfl) (by kernel_rfl))
def PQ:cp:=⟨.array 4 3,4,32,.agg #[.int .i64 0,.int .i64 0,.int .i64 0,.int .i64 0],[],(some (.arr 4 (.int .i64))),false⟩
theorem X3:bf Tryz.prog 29 PQ:=aw Tryz.underlying29 (aL (by kernel_rfl) rfl rfl) (fun _ h=>by cases h) (aJ rfl (by kernel_rfl) (by kernel_rfl))
def PO:cp:=⟨.slice 40,1,24,.slice none 0 0,[],(some (.aI (.pair (.int .u8) (.pair (.int .u8) (.pair (.int .u8) (.pair (.int .u8) (.pair (.int .i64) (.pair (.int .i64) (.int .i64))))))))),false⟩
theorem X1:bf Tryz.prog 30 PO:=aw Tryz.underlying30 (aL (by kernel_rfl) rfl rfl) (fun _ h=>by cases h) (aJ rfl (by kernel_rfl) (by kernel_rfl))
def PN:cp:=⟨.pointer 85,1,8,.pointer none,[],(some (.ptr 0)),false⟩
theorem X0:bf Tryz.prog 31 PN:=aw Tryz.underlying31 (aL (by kernel_rfl) rfl rfl) (fun _ h=>by cases h) (aJ rfl (by kernel_rfl) (by kernel_rfl))
def PM : cp := ⟨.struct #[⟨"Scopes", 3, 0, false, "", "", 0⟩, ⟨"Threads", 3, 1, false, "", "", 8⟩, ⟨"Immortal", 3, 2, false, "", "", 16⟩, ⟨"Heap", 3, 3, false, "", "", 24⟩], 4, 32, .agg #[.int .i64 0, .int .i64 0, .int .i64 0, .int .i64 0], [(0, 1), (1, 1), (2, 1), (3, 1)], (some (.pair (.int .i64) (.pair (.int .i64) (.pair (.int .i64) (.int .i64))))), false⟩
theorem XZ:bf Tryz.prog 34 PM:=aw Tryz.underlying34 (aL (by kernel_rfl) rfl rfl) (fun fs h w=>by cases h;kernel_rfl) (aJ rfl (by kernel_rfl) (by kernel_rfl))
def PL : cp := ⟨.struct #[⟨"Scopes", 3, 0, false, "", "", 0⟩, ⟨"Threads", 3, 1, false, "", "", 8⟩, ⟨"Immortal", 3, 2, false, "", "", 16⟩, ⟨"Heap", 3, 3, false, "", "", 24⟩], 4, 32, .agg #[.int .i64 0, .int .i64 0, .int .i64 0, .int .i64 0], [(0, 1), (1, 1), (2, 1), (3, 1)], (some (.pair (.int .i64) (.pair (.int .i64) (.pair (.int .i64) (.int .i64))))), false⟩
theorem XY:bf Tryz.prog 35 PL:=aw Tryz.underlying35 (aL (by kernel_rfl) rfl rfl) (fun fs h w=>by cases h;kernel_rfl) (aJ rfl (by kernel_rfl) (by kernel_rfl))
def PK:cp:=⟨.slice 45,1,24,.slice none 0 0,[],(some (.aI (.pair (.int .i64) (.pair (.pair (.int .u8) (.pair (.int .u8) (.pair (.int .u8) (.pair (.int .u8) (.pair (.int .i64) (.pair (.int .i64) (.int .i64))))))) (.pair (.int .i64) (.pair (.int .i64) (.pair (.int .i64) (.pair (.int .i64) (.pair (.int .i64) (.aI (.int .i64))))))))))),false⟩
theorem Gl:bf Tryz.prog 37 PK:=aw Tryz.underlying37 (aL (by kernel_rfl) rfl rfl) (fun _ h=>by cases h) (aJ rfl (by kernel_rfl) (by kernel_rfl))
def PJ : cp := ⟨.struct #[⟨"Op", 5, 0, false, "", "", 0⟩, ⟨"R", 5, 1, false, "", "", 1⟩, ⟨"H", 5, 2, false, "", "", 2⟩, ⟨"V", 5, 3, false, "", "", 3⟩, ⟨"A", 3, 4, false, "", "", 8⟩, ⟨"B", 3, 5, false, "", "", 16⟩, ⟨"C", 3, 6, false, "", "", 24⟩], 7, 32, .agg #[.int .u8 0, .int .u8 0, .int .u8 0, .int .u8 0, .int .i64 0, .int .i64 0, .int .i64 0], [(0, 1), (1, 1), (2, 1), (3, 1), (4, 1), (5, 1), (6, 1)], (some (.pair (.int .u8) (.pair (.int .u8) (.pair (.int .u8) (.pair (.int .u8) (.pair (.int .i64) (.pair (.int .i64) (.int .i64)))))))), false⟩
theorem XX:bf Tryz.prog 39 PJ:=aw Tryz.underlying39 (aL (by kernel_rfl) rfl rfl) (fun fs h w=>by cases h;kernel_rfl) (aJ rfl (by kernel_rfl) (by kernel_rfl))
def PI : cp := ⟨.struct #[⟨"Op", 5, 0, false, "", "", 0⟩, ⟨"R", 5, 1, false, "", "", 1⟩, ⟨"H", 5, 2, false, "", "", 2⟩, ⟨"V", 5, 3, false, "", "", 3⟩, ⟨"A", 3, 4, false, "", "", 8⟩, ⟨"B", 3, 5, false, "", "", 16⟩, ⟨"C", 3, 6, false, "", "", 24⟩], 7, 32, .agg #[.int .u8 0, .int .u8 0, .int .u8 0, .int .u8 0, .int .i64 0, .int .i64 0, .int .i64 0], [(0, 1), (1, 1), (2, 1), (3, 1), (4, 1), (5, 1), (6, 1)], (some (.pair (.int .u8) (.pair (.int .u8) (.pair (.int .u8) (.pair (.int .u8) (.pair (.int .i64) (.pair (.int .i64) (.int .i64)))))))), false⟩
theorem XW:bf Tryz.prog 40 PI:=aw Tryz.underlying40 (aL (by kernel_rfl) rfl rfl) (fun fs h w=>by cases h;kernel_rfl) (aJ rfl (by kernel_rfl) (by kernel_rfl))
def PH:cp:=⟨.slice 3,1,24,.slice none 0 0,[],(some (.aI (.int .i64))),false⟩
theorem Gk:bf Tryz.prog 41 PH:=aw Tryz.underlying41 (aL (by kernel_rfl) rfl rfl) (fun _ h=>by cases h) (aJ rfl (by kernel_rfl) (by kernel_rfl))
def PG : cp := ⟨.struct #[⟨"Code", 23, 0, false, "", "", 0⟩, ⟨"N", 3, 1, false, "", "", 8⟩, ⟨"Said", 41, 2, false, "", "", 16⟩], 3, 40, .agg #[.int .i64 0, .int .i64 0, .slice none 0 0], [(0, 1), (1, 1), (2, 1)], (some (.pair (.int .i64) (.pair (.int .i64) (.aI (.int .i64))))), false⟩
theorem XV:bf Tryz.prog 42 PG:=aw Tryz.underlying42 (aL (by kernel_rfl) rfl rfl) (fun fs h w=>by cases h;kernel_rfl) (aJ rfl (by kernel_rfl) (by kernel_rfl))
def PF : cp := ⟨.struct #[⟨"Code", 23, 0, false, "", "", 0⟩, ⟨"N", 3, 1, false, "", "", 8⟩, ⟨"Said", 41, 2, false, "", "", 16⟩], 3, 40, .agg #[.int .i64 0, .int .i64 0, .slice none 0 0], [(0, 1), (1, 1), (2, 1)], (some (.pair (.int .i64) (.pair (.int .i64) (.aI (.int .i64))))), false⟩
theorem XU:bf Tryz.prog 43 PF:=aw Tryz.underlying43 (aL (by kernel_rfl) rfl rfl) (fun fs h w=>by cases h;kernel_rfl) (aJ rfl (by kernel_rfl) (by kernel_rfl))
def PE : cp := ⟨.struct #[⟨"Thread", 3, 0, false, "", "", 0⟩, ⟨"Call", 40, 1, false, "", "", 8⟩, ⟨"From", 3, 8, false, "", "", 40⟩, ⟨"Point", 3, 9, false, "", "", 48⟩, ⟨"To", 3, 10, false, "", "", 56⟩, ⟨"Answer", 43, 11, false, "", "", 64⟩], 14, 104, .agg #[.int .i64 0, .int .u8 0, .int .u8 0, .int .u8 0, .int .u8 0, .int .i64 0, .int .i64 0, .int .i64 0, .int .i64 0, .int .i64 0, .int .i64 0, .int .i64 0, .int .i64 0, .slice none 0 0], [(0, 1), (1, 7), (8, 1), (9, 1), (10, 1), (11, 3)], (some (.pair (.int .i64) (.pair (.pair (.int .u8) (.pair (.int .u8) (.pair (.int .u8) (.pair (.int .u8) (.pair (.int .i64) (.pair (.int .i64) (.int .i64))))))) (.pair (.int .i64) (.pair (.int .i64) (.pair (.int .i64) (.pair (.int .i64) (.pair (.int .i64) (.aI (.int .i64)))))))))), false⟩
theorem XT:bf Tryz.prog 44 PE:=aw Tryz.underlying44 (aL (by kernel_rfl) rfl rfl) (fun fs h w=>by cases h;kernel_rfl) (aJ rfl (by kernel_rfl) (by kernel_rfl))
def PD : cp := ⟨.struct #[⟨"Thread", 3, 0, false, "", "", 0⟩, ⟨"Call", 40, 1, false, "", "", 8⟩, ⟨"From", 3, 8, false, "", "", 40⟩, ⟨"Point", 3, 9, false, "", "", 48⟩, ⟨"To", 3, 10, false, "", "", 56⟩, ⟨"Answer", 43, 11, false, "", "", 64⟩], 14, 104, .agg #[.int .i64 0, .int .u8 0, .int .u8 0, .int .u8 0, .int .u8 0, .int .i64 0, .int .i64 0, .int .i64 0, .int .i64 0, .int .i64 0, .int .i64 0, .int .i64 0, .int .i64 0, .slice none 0 0], [(0, 1), (1, 7), (8, 1), (9, 1), (10, 1), (11, 3)], (some (.pair (.int .i64) (.pair (.pair (.int .u8) (.pair (.int .u8) (.pair (.int .u8) (.pair (.int .u8) (.pair (.int .i64) (.pair (.int .i64) (.int .i64))))))) (.pair (.int .i64) (.pair (.int .i64) (.pair (.int .i64) (.pair (.int .i64) (.pair (.int .i64) (.aI (.int .i64)))))))))), false⟩
theorem P2:bf Tryz.prog 45 PD:=aw Tryz.underlying45 (aL (by kernel_rfl) rfl rfl) (fun fs h w=>by cases h;kernel_rfl) (aJ rfl (by kernel_rfl) (by kernel_rfl))
def PB:cp:=⟨.slice 53,1,24,.slice none 0 0,[],(some (.aI (.aI (.pair (.int .u8) (.pair (.int .i64) (.int .i64)))))),false⟩
theorem XS:bf Tryz.prog 47 PB:=aw Tryz.underlying47 (aL (by kernel_rfl) rfl rfl) (fun _ h=>by cases h) (aJ rfl (by kernel_rfl) (by kernel_rfl))
def PA : cp := ⟨.struct #[⟨"P", 35, 0, false, "", "", 0⟩, ⟨"Fins", 47, 4, false, "", "", 32⟩, ⟨"Progs", 28, 5, false, "", "", 56⟩], 6, 80, .agg #[.int .i64 0, .int .i64 0, .int .i64 0, .int .i64 0, .slice none 0 0, .slice none 0 0], [(0, 4), (4, 1), (5, 1)], (some (.pair (.pair (.int .i64) (.pair (.int .i64) (.pair (.int .i64) (.int .i64)))) (.pair (.aI (.aI (.pair (.int .u8) (.pair (.int .i64) (.int .i64))))) (.aI (.aI (.pair (.int .u8) (.pair (.int .u8) (.pair (.int .u8) (.pair (.int .u8) (.pair (.int .i64) (.pair (.int .i64) (.int .i64)))))))))))), false⟩
theorem XR:bf Tryz.prog 48 PA:=aw Tryz.underlying48 (aL (by kernel_rfl) rfl rfl) (fun fs h w=>by cases h;kernel_rfl) (aJ rfl (by kernel_rfl) (by kernel_rfl))
def Pz : cp := ⟨.struct #[⟨"P", 35, 0, false, "", "", 0⟩, ⟨"Fins", 47, 4, false, "", "", 32⟩, ⟨"Progs", 28, 5, false, "", "", 56⟩], 6, 80, .agg #[.int .i64 0, .int .i64 0, .int .i64 0, .int .i64 0, .slice none 0 0, .slice none 0 0], [(0, 4), (4, 1), (5, 1)], (some (.pair (.pair (.int .i64) (.pair (.int .i64) (.pair (.int .i64) (.int .i64)))) (.pair (.aI (.aI (.pair (.int .u8) (.pair (.int .i64) (.int .i64))))) (.aI (.aI (.pair (.int .u8) (.pair (.int .u8) (.pair (.int .u8) (.pair (.int .u8) (.pair (.int .i64) (.pair (.int .i64) (.int .i64)))))))))))), false⟩
theorem XQ:bf Tryz.prog 49 Pz:=aw Tryz.underlying49 (aL (by kernel_rfl) rfl rfl) (fun fs h w=>by cases h;kernel_rfl) (aJ rfl (by kernel_rfl) (by kernel_rfl))
def Py:cp:=⟨.slice 88,1,24,.slice none 0 0,[],(some (.aI (.pair (.int .u8) (.pair (.int .i64) (.int .i64))))),false⟩
theorem XP:bf Tryz.prog 53 Py:=aw Tryz.underlying53 (aL (by kernel_rfl) rfl rfl) (fun _ h=>by cases h) (aJ rfl (by kernel_rfl) (by kernel_rfl))
def Px:cp:=⟨.pointer 70,1,8,.pointer none,[],(some (.ptr 10)),false⟩
theorem XO:bf Tryz.prog 58 Px:=aw Tryz.underlying58 (aL (by kernel_rfl) rfl rfl) (fun _ h=>by cases h) (aJ rfl (by kernel_rfl) (by kernel_rfl))
def Pw:cp:=⟨.int .u16,1,2,.int .u16 0,[],(some (.int .u16)),false⟩
theorem XN:bf Tryz.prog 64 Pw:=aw Tryz.underlying64 (aL (by kernel_rfl) rfl rfl) (fun _ h=>by cases h) (aJ rfl (by kernel_rfl) (by kernel_rfl))
def Pv:cp:=⟨.pointer 160,1,8,.pointer none,[],(some (.ptr 11)),false⟩
theorem XM:bf Tryz.prog 67 Pv:=aw Tryz.underlying67 (aL (by kernel_rfl) rfl rfl) (fun _ h=>by cases h) (aJ rfl (by kernel_rfl) (by kernel_rfl))
def Pu:cp:=⟨.slice 155,1,24,.slice none 0 0,[],(some (.aI (.pair (.aI (.pair (.int .u8) (.pair (.int .u8) (.pair (.int .u8) (.pair (.int .u8) (.pair (.int .i64) (.pair (.int .i64) (.int .i64)))))))) (.pair (.arr 4 (.int .u64)) (.pair (.aI (.pair (.int .i64) .bool)) (.pair (.pair (.pair (.int .u8) (.pair (.int .u8) (.pair (.int .u8) (.pair (.int .u8) (.pair (.int .i64) (.pair (.int .i64) (.int .i64))))))) (.pair (.int .i64) (.pair (.int .i64) (.pair (.int .u64) (.pair (.int .u64) (.pair (.aI (.pair (.int .i64) .bool)) (.pair (.int .u64) (.pair (.int .u64) (.pair (.int .i64) (.pair (.int .i64) (.pair (.aI (.int .i64)) (.pair (.int .i64) (.pair (.aI (.int .i64)) (.pair (.int .i64) (.pair .bool (.pair .bool (.pair .bool (.pair (.int .i64) (.pair (.int .i64) (.aI (.int .i64))))))))))))))))))))) (.int .i64))))))),false⟩
theorem XL:bf Tryz.prog 68 Pu:=aw Tryz.underlying68 (aL (by kernel_rfl) rfl rfl) (fun _ h=>by cases h) (aJ rfl (by kernel_rfl) (by kernel_rfl))
def Pt : cp := ⟨.struct #[⟨"X", 67, 0, false, "", "", 0⟩, ⟨"T", 68, 1, false, "", "", 8⟩, ⟨"Ops", 37, 2, false, "", "", 32⟩, ⟨"Steps", 3, 3, false, "", "", 56⟩], 4, 64, .agg #[.pointer none, .slice none 0 0, .slice none 0 0, .int .i64 0], [(0, 1), (1, 1), (2, 1), (3, 1)], (some (.pair (.ptr 11) (.pair (.aI (.pair (.aI (.pair (.int .u8) (.pair (.int .u8) (.pair (.int .u8) (.pair (.int .u8) (.pair (.int .i64) (.pair (.int .i64) (.int .i64)))))))) (.pair (.arr 4 (.int .u64)) (.pair (.aI (.pair (.int .i64) .bool)) (.pair (.pair (.pair (.int .u8) (.pair (.int .u8) (.pair (.int .u8) (.pair (.int .u8) (.pair (.int .i64) (.pair (.int .i64) (.int .i64))))))) (.pair (.int .i64) (.pair (.int .i64) (.pair (.int .u64) (.pair (.int .u64) (.pair (.aI (.pair (.int .i64) .bool)) (.pair (.int .u64) (.pair (.int .u64) (.pair (.int .i64) (.pair (.int .i64) (.pair (.aI (.int .i64)) (.pair (.int .i64) (.pair (.aI (.int .i64)) (.pair (.int .i64) (.pair .bool (.pair .bool (.pair .bool (.pair (.int .i64) (.pair (.int .i64) (.aI (.int .i64))))))))))))))))))))) (.int .i64)))))) (.pair (.aI (.pair (.int .i64) (.pair (.pair (.int .u8) (.pair (.int .u8) (.pair (.int .u8) (.pair (.int .u8) (.pair (.int .i64) (.pair (.int .i64) (.int .i64))))))) (.pair (.int .i64) (.pair (.int .i64) (.pair (.int .i64) (.pair (.int .i64) (.pair (.int .i64) (.aI (.int .i64)))))))))) (.int .i64))))), false⟩
theorem XK:bf Tryz.prog 69 Pt:=aw Tryz.underlying69 (aL (by kernel_rfl) rfl rfl) (fun fs h w=>by cases h;kernel_rfl) (aJ rfl (by kernel_rfl) (by kernel_rfl))
def Ps : cp := ⟨.struct #[⟨"X", 67, 0, false, "", "", 0⟩, ⟨"T", 68, 1, false, "", "", 8⟩, ⟨"Ops", 37, 2, false, "", "", 32⟩, ⟨"Steps", 3, 3, false, "", "", 56⟩], 4, 64, .agg #[.pointer none, .slice none 0 0, .slice none 0 0, .int .i64 0], [(0, 1), (1, 1), (2, 1), (3, 1)], (some (.pair (.ptr 11) (.pair (.iX 16 33) (.pair (.iX 17 14) (.int .i64))))), false⟩
theorem XJ:bf Tryz.prog 70 Ps:=aw Tryz.underlying70 (aL (by kernel_rfl) rfl rfl) (fun fs h w=>by cases h;kernel_rfl) (aJ rfl (by kernel_rfl) (by kernel_rfl))
def Pr:cp:=⟨.pointer 169,1,8,.pointer none,[],(some (.ptr 1)),false⟩
theorem XI:bf Tryz.prog 79 Pr:=aw Tryz.underlying79 (aL (by kernel_rfl) rfl rfl) (fun _ h=>by cases h) (aJ rfl (by kernel_rfl) (by kernel_rfl))
def Pq:cp:=⟨.pointer 172,1,8,.pointer none,[],(some (.ptr 3)),false⟩
theorem XH:bf Tryz.prog 80 Pq:=aw Tryz.underlying80 (aL (by kernel_rfl) rfl rfl) (fun _ h=>by cases h) (aJ rfl (by kernel_rfl) (by kernel_rfl))
def Pp:cp:=⟨.slice 89,1,24,.slice none 0 0,[],none,false⟩
theorem XG:bf Tryz.prog 83 Pp:=aw Tryz.underlying83 (aL (by kernel_rfl) rfl rfl) (fun _ h=>by cases h) (jL rfl)
def Po : cp := ⟨.struct #[⟨"p", 35, 0, false, "", "penfold/world", 0⟩, ⟨"fins", 47, 4, false, "", "penfold/world", 32⟩, ⟨"arena", 79, 5, false, "", "penfold/world", 56⟩, ⟨"ground", 80, 6, false, "", "penfold/world", 64⟩, ⟨"threads", 83, 7, false, "", "penfold/world", 72⟩, ⟨"ops", 37, 8, false, "", "penfold/world", 96⟩, ⟨"steps", 3, 9, false, "", "penfold/world", 120⟩], 10, 128, .agg #[.int .i64 0, .int .i64 0, .int .i64 0, .int .i64 0, .slice none 0 0, .pointer none, .pointer none, .slice none 0 0, .slice none 0 0, .int .i64 0], [(0, 4), (4, 1), (5, 1), (6, 1), (7, 1), (8, 1), (9, 1)], none, false⟩
theorem XF:bf Tryz.prog 84 Po:=aw Tryz.underlying84 (aL (by kernel_rfl) rfl rfl) (fun fs h w=>by cases h;kernel_rfl) (jL rfl)
def Pn : cp := ⟨.struct #[⟨"p", 35, 0, false, "", "penfold/world", 0⟩, ⟨"fins", 47, 4, false, "", "penfold/world", 32⟩, ⟨"arena", 79, 5, false, "", "penfold/world", 56⟩, ⟨"ground", 80, 6, false, "", "penfold/world", 64⟩, ⟨"threads", 83, 7, false, "", "penfold/world", 72⟩, ⟨"ops", 37, 8, false, "", "penfold/world", 96⟩, ⟨"steps", 3, 9, false, "", "penfold/world", 120⟩], 10, 128, .agg #[.int .i64 0, .int .i64 0, .int .i64 0, .int .i64 0, .slice none 0 0, .pointer none, .pointer none, .slice none 0 0, .slice none 0 0, .int .i64 0], [(0, 4), (4, 1), (5, 1), (6, 1), (7, 1), (8, 1), (9, 1)], (some (.pair (.pair (.int .i64) (.pair (.int .i64) (.pair (.int .i64) (.int .i64)))) (.pair (.iX 9 1) (.pair (.ptr 1) (.pair (.ptr 3) (.pair (.iX 5 1) (.pair (.iX 7 14) (.int .i64)))))))), false⟩
theorem XE:bf Tryz.prog 85 Pn:=aw Tryz.underlying85 (aL (by kernel_rfl) rfl rfl) (fun fs h w=>by cases h;kernel_rfl) (aJ rfl (by kernel_rfl) (by kernel_rfl))
def Pm : cp := ⟨.struct #[⟨"Op", 5, 0, false, "", "", 0⟩, ⟨"A", 3, 1, false, "", "", 8⟩, ⟨"B", 3, 2, false, "", "", 16⟩], 3, 24, .agg #[.int .u8 0, .int .i64 0, .int .i64 0], [(0, 1), (1, 1), (2, 1)], (some (.pair (.int .u8) (.pair (.int .i64) (.int .i64)))), false⟩
theorem XD:bf Tryz.prog 87 Pm:=aw Tryz.underlying87 (aL (by kernel_rfl) rfl rfl) (fun fs h w=>by cases h;kernel_rfl) (aJ rfl (by kernel_rfl) (by kernel_rfl))
def Pk : cp := ⟨.struct #[⟨"Op", 5, 0, false, "", "", 0⟩, ⟨"A", 3, 1, false, "", "", 8⟩, ⟨"B", 3, 2, false, "", "", 16⟩], 3, 24, .agg #[.int .u8 0, .int .i64 0, .int .i64 0], [(0, 1), (1, 1), (2, 1)], (some (.pair (.int .u8) (.pair (.int .i64) (.int .i64)))), false⟩
theorem XC:bf Tryz.prog 88 Pk:=aw Tryz.underlying88 (aL (by kernel_rfl) rfl rfl) (fun fs h w=>by cases h;kernel_rfl) (aJ rfl (by kernel_rfl) (by kernel_rfl))
def Pj:cp:=⟨.pointer 96,1,8,.pointer none,[],(some (.ptr 6)),false⟩
theorem XB:bf Tryz.prog 89 Pj:=aw Tryz.underlying89 (aL (by kernel_rfl) rfl rfl) (fun _ h=>by cases h) (aJ rfl (by kernel_rfl) (by kernel_rfl))
def Ph:cp:=⟨.slice 92,1,24,.slice none 0 0,[],(some (.aI (.int .u64))),false⟩
theorem XA:bf Tryz.prog 90 Ph:=aw Tryz.underlying90 (aL (by kernel_rfl) rfl rfl) (fun _ h=>by cases h) (aJ rfl (by kernel_rfl) (by kernel_rfl))
def Pg:cp:=⟨.slice 140,1,24,.slice none 0 0,[],(some (.aI (.pair (.int .i64) .bool))),false⟩
theorem Xz:bf Tryz.prog 91 Pg:=aw Tryz.underlying91 (aL (by kernel_rfl) rfl rfl) (fun _ h=>by cases h) (aJ rfl (by kernel_rfl) (by kernel_rfl))
def Pf:cp:=⟨.int .u64,1,8,.int .u64 0,[],(some (.int .u64)),false⟩
theorem Xy:bf Tryz.prog 92 Pf:=aw Tryz.underlying92 (aL (by kernel_rfl) rfl rfl) (fun _ h=>by cases h) (aJ rfl (by kernel_rfl) (by kernel_rfl))
def Pe : cp := ⟨.struct #[⟨"Call", 40, 0, false, "", "", 0⟩, ⟨"Pc", 3, 7, false, "", "", 32⟩, ⟨"Area", 3, 8, false, "", "", 40⟩, ⟨"Hand", 92, 9, false, "", "", 48⟩, ⟨"Val", 92, 10, false, "", "", 56⟩, ⟨"Chain", 91, 11, false, "", "", 64⟩, ⟨"Word", 92, 12, false, "", "", 88⟩, ⟨"Next", 92, 13, false, "", "", 96⟩, ⟨"At", 3, 14, false, "", "", 104⟩, ⟨"Top", 3, 15, false, "", "", 112⟩, ⟨"List", 41, 16, false, "", "", 120⟩, ⟨"Op", 3, 17, false, "", "", 144⟩, ⟨"Said", 41, 18, false, "", "", 152⟩, ⟨"N", 3, 19, false, "", "", 176⟩, ⟨"Held", 4, 20, false, "", "", 184⟩, ⟨"Done", 4, 21, false, "", "", 185⟩, ⟨"Point", 4, 22, false, "", "", 186⟩, ⟨"Answer", 43, 23, false, "", "", 192⟩], 26, 232, .agg #[.int .u8 0, .int .u8 0, .int .u8 0, .int .u8 0, .int .i64 0, .int .i64 0, .int .i64 0, .int .i64 0, .int .i64 0, .int .u64 0, .int .u64 0, .slice none 0 0, .int .u64 0, .int .u64 0, .int .i64 0, .int .i64 0, .slice none 0 0, .int .i64 0, .slice none 0 0, .int .i64 0, .bool false, .bool false, .bool false, .int .i64 0, .int .i64 0, .slice none 0 0], [(0, 7), (7, 1), (8, 1), (9, 1), (10, 1), (11, 1), (12, 1), (13, 1), (14, 1), (15, 1), (16, 1), (17, 1), (18, 1), (19, 1), (20, 1), (21, 1), (22, 1), (23, 3)], (some (.pair (.pair (.int .u8) (.pair (.int .u8) (.pair (.int .u8) (.pair (.int .u8) (.pair (.int .i64) (.pair (.int .i64) (.int .i64))))))) (.pair (.int .i64) (.pair (.int .i64) (.pair (.int .u64) (.pair (.int .u64) (.pair (.aI (.pair (.int .i64) .bool)) (.pair (.int .u64) (.pair (.int .u64) (.pair (.int .i64) (.pair (.int .i64) (.pair (.aI (.int .i64)) (.pair (.int .i64) (.pair (.aI (.int .i64)) (.pair (.int .i64) (.pair .bool (.pair .bool (.pair .bool (.pair (.int .i64) (.pair (.int .i64) (.aI (.int .i64)))))))))))))))))))))), false⟩
theorem Xx:bf Tryz.prog 93 Pe:=aw Tryz.underlying93 (aL (by kernel_rfl) rfl rfl) (fun fs h w=>by cases h;kernel_rfl) (aJ rfl (by kernel_rfl) (by kernel_rfl))
def Pd : cp := ⟨.struct #[⟨"Call", 40, 0, false, "", "", 0⟩, ⟨"Pc", 3, 7, false, "", "", 32⟩, ⟨"Area", 3, 8, false, "", "", 40⟩, ⟨"Hand", 92, 9, false, "", "", 48⟩, ⟨"Val", 92, 10, false, "", "", 56⟩, ⟨"Chain", 91, 11, false, "", "", 64⟩, ⟨"Word", 92, 12, false, "", "", 88⟩, ⟨"Next", 92, 13, false, "", "", 96⟩, ⟨"At", 3, 14, false, "", "", 104⟩, ⟨"Top", 3, 15, false, "", "", 112⟩, ⟨"List", 41, 16, false, "", "", 120⟩, ⟨"Op", 3, 17, false, "", "", 144⟩, ⟨"Said", 41, 18, false, "", "", 152⟩, ⟨"N", 3, 19, false, "", "", 176⟩, ⟨"Held", 4, 20, false, "", "", 184⟩, ⟨"Done", 4, 21, false, "", "", 185⟩, ⟨"Point", 4, 22, false, "", "", 186⟩, ⟨"Answer", 43, 23, false, "", "", 192⟩], 26, 232, .agg #[.int .u8 0, .int .u8 0, .int .u8 0, .int .u8 0, .int .i64 0, .int .i64 0, .int .i64 0, .int .i64 0, .int .i64 0, .int .u64 0, .int .u64 0, .slice none 0 0, .int .u64 0, .int .u64 0, .int .i64 0, .int .i64 0, .slice none 0 0, .int .i64 0, .slice none 0 0, .int .i64 0, .bool false, .bool false, .bool false, .int .i64 0, .int .i64 0, .slice none 0 0], [(0, 7), (7, 1), (8, 1), (9, 1), (10, 1), (11, 1), (12, 1), (13, 1), (14, 1), (15, 1), (16, 1), (17, 1), (18, 1), (19, 1), (20, 1), (21, 1), (22, 1), (23, 3)], (some (.pair (.pair (.int .u8) (.pair (.int .u8) (.pair (.int .u8) (.pair (.int .u8) (.pair (.int .i64) (.pair (.int .i64) (.int .i64))))))) (.pair (.int .i64) (.pair (.int .i64) (.pair (.int .u64) (.pair (.int .u64) (.pair (.aI (.pair (.int .i64) .bool)) (.pair (.int .u64) (.pair (.int .u64) (.pair (.int .i64) (.pair (.int .i64) (.pair (.aI (.int .i64)) (.pair (.int .i64) (.pair (.aI (.int .i64)) (.pair (.int .i64) (.pair .bool (.pair .bool (.pair .bool (.pair (.int .i64) (.pair (.int .i64) (.aI (.int .i64)))))))))))))))))))))), false⟩
theorem Xw:bf Tryz.prog 94 Pd:=aw Tryz.underlying94 (aL (by kernel_rfl) rfl rfl) (fun fs h w=>by cases h;kernel_rfl) (aJ rfl (by kernel_rfl) (by kernel_rfl))
def Pb : cp := ⟨.struct #[⟨"calls", 30, 0, false, "", "penfold/world", 0⟩, ⟨"regs", 90, 1, false, "", "penfold/world", 24⟩, ⟨"entries", 91, 2, false, "", "penfold/world", 48⟩, ⟨"run", 94, 3, false, "", "penfold/world", 72⟩, ⟨"busy", 4, 29, false, "", "penfold/world", 304⟩, ⟨"at", 3, 30, false, "", "penfold/world", 312⟩], 31, 320, .agg #[.slice none 0 0, .slice none 0 0, .slice none 0 0, .int .u8 0, .int .u8 0, .int .u8 0, .int .u8 0, .int .i64 0, .int .i64 0, .int .i64 0, .int .i64 0, .int .i64 0, .int .u64 0, .int .u64 0, .slice none 0 0, .int .u64 0, .int .u64 0, .int .i64 0, .int .i64 0, .slice none 0 0, .int .i64 0, .slice none 0 0, .int .i64 0, .bool false, .bool false, .bool false, .int .i64 0, .int .i64 0, .slice none 0 0, .bool false, .int .i64 0], [(0, 1), (1, 1), (2, 1), (3, 26), (29, 1), (30, 1)], (some (.pair (.aI (.pair (.int .u8) (.pair (.int .u8) (.pair (.int .u8) (.pair (.int .u8) (.pair (.int .i64) (.pair (.int .i64) (.int .i64)))))))) (.pair (.aI (.int .u64)) (.pair (.aI (.pair (.int .i64) .bool)) (.pair (.pair (.pair (.int .u8) (.pair (.int .u8) (.pair (.int .u8) (.pair (.int .u8) (.pair (.int .i64) (.pair (.int .i64) (.int .i64))))))) (.pair (.int .i64) (.pair (.int .i64) (.pair (.int .u64) (.pair (.int .u64) (.pair (.aI (.pair (.int .i64) .bool)) (.pair (.int .u64) (.pair (.int .u64) (.pair (.int .i64) (.pair (.int .i64) (.pair (.aI (.int .i64)) (.pair (.int .i64) (.pair (.aI (.int .i64)) (.pair (.int .i64) (.pair .bool (.pair .bool (.pair .bool (.pair (.int .i64) (.pair (.int .i64) (.aI (.int .i64))))))))))))))))))))) (.pair .bool (.int .i64))))))), false⟩
theorem Xv:bf Tryz.prog 95 Pb:=aw Tryz.underlying95 (aL (by kernel_rfl) rfl rfl) (fun fs h w=>by cases h;kernel_rfl) (aJ rfl (by kernel_rfl) (by kernel_rfl))
def Pa : cp := ⟨.struct #[⟨"calls", 30, 0, false, "", "penfold/world", 0⟩, ⟨"regs", 90, 1, false, "", "penfold/world", 24⟩, ⟨"entries", 91, 2, false, "", "penfold/world", 48⟩, ⟨"run", 94, 3, false, "", "penfold/world", 72⟩, ⟨"busy", 4, 29, false, "", "penfold/world", 304⟩, ⟨"at", 3, 30, false, "", "penfold/world", 312⟩], 31, 320, .agg #[.slice none 0 0, .slice none 0 0, .slice none 0 0, .int .u8 0, .int .u8 0, .int .u8 0, .int .u8 0, .int .i64 0, .int .i64 0, .int .i64 0, .int .i64 0, .int .i64 0, .int .u64 0, .int .u64 0, .slice none 0 0, .int .u64 0, .int .u64 0, .int .i64 0, .int .i64 0, .slice none 0 0, .int .i64 0, .slice none 0 0, .int .i64 0, .bool false, .bool false, .bool false, .int .i64 0, .int .i64 0, .slice none 0 0, .bool false, .int .i64 0], [(0, 1), (1, 1), (2, 1), (3, 26), (29, 1), (30, 1)], (some (.pair (.aI (.pair (.int .u8) (.pair (.int .u8) (.pair (.int .u8) (.pair (.int .u8) (.pair (.int .i64) (.pair (.int .i64) (.int .i64)))))))) (.pair (.iX 8 1) (.pair (.aI (.pair (.int .i64) .bool)) (.pair (.pair (.pair (.int .u8) (.pair (.int .u8) (.pair (.int .u8) (.pair (.int .u8) (.pair (.int .i64) (.pair (.int .i64) (.int .i64))))))) (.pair (.int .i64) (.pair (.int .i64) (.pair (.int .u64) (.pair (.int .u64) (.pair (.aI (.pair (.int .i64) .bool)) (.pair (.int .u64) (.pair (.int .u64) (.pair (.int .i64) (.pair (.int .i64) (.pair (.aI (.int .i64)) (.pair (.int .i64) (.pair (.aI (.int .i64)) (.pair (.int .i64) (.pair .bool (.pair .bool (.pair .bool (.pair (.int .i64) (.pair (.int .i64) (.aI (.int .i64))))))))))))))))))))) (.pair .bool (.int .i64))))))), false⟩
theorem Xu:bf Tryz.prog 96 Pa:=aw Tryz.underlying96 (aL (by kernel_rfl) rfl rfl) (fun fs h w=>by cases h;kernel_rfl) (aJ rfl (by kernel_rfl) (by kernel_rfl))
def JF:cp:=⟨.pointer 45,1,8,.pointer none,[],none,false⟩
theorem Q2:bf Tryz.prog 109 JF:=aw Tryz.underlying109 (aL (by kernel_rfl) rfl rfl) (fun _ h=>by cases h) (jL rfl)
def JE:cp:=⟨.func #[163,88] #[] false,1,8,.nilFunc,[],none,false⟩
theorem Q1:bf Tryz.prog 113 JE:=aw Tryz.underlying113 (aL (by kernel_rfl) rfl rfl) (fun _ h=>by cases h) (jL rfl)
def JD : cp := ⟨.struct #[⟨"a", 3, 0, false, "", "penfold/fin", 0⟩, ⟨"b", 3, 1, false, "", "penfold/fin", 8⟩, ⟨"do", 113, 2, false, "", "penfold/fin", 16⟩], 3, 24, .agg #[.int .i64 0, .int .i64 0, .nilFunc], [(0, 1), (1, 1), (2, 1)], none, false⟩
theorem Q0:bf Tryz.prog 114 JD:=aw Tryz.underlying114 (aL (by kernel_rfl) rfl rfl) (fun fs h w=>by cases h;kernel_rfl) (jL rfl)
def JC : cp := ⟨.struct #[⟨"a", 3, 0, false, "", "penfold/fin", 0⟩, ⟨"b", 3, 1, false, "", "penfold/fin", 8⟩, ⟨"do", 113, 2, false, "", "penfold/fin", 16⟩], 3, 24, .agg #[.int .i64 0, .int .i64 0, .nilFunc], [(0, 1), (1, 1), (2, 1)], none, false⟩
theorem QZ:bf Tryz.prog 115 JC:=aw Tryz.underlying115 (aL (by kernel_rfl) rfl rfl) (fun fs h w=>by cases h;kernel_rfl) (jL rfl)
def JB:cp:=⟨.array 5 115,15,120,.agg #[.int .i64 0,.int .i64 0,.nilFunc,.int .i64 0,.int .i64 0,.nilFunc,.int .i64 0,.int .i64 0,.nilFunc,.int .i64 0,.int .i64 0,.nilFunc,.int .i64 0,.int .i64 0,.nilFunc],[],none,false⟩
theorem QY:bf Tryz.prog 116 JB:=aw Tryz.underlying116 (aL (by kernel_rfl) rfl rfl) (fun _ h=>by cases h) (jL rfl)
def JA : cp := ⟨.struct #[⟨"At", 3, 0, false, "", "", 0⟩, ⟨"Size", 3, 1, false, "", "", 8⟩], 2, 16, .agg #[.int .i64 0, .int .i64 0], [(0, 1), (1, 1)], (some (.pair (.int .i64) (.int .i64))), false⟩
theorem QX:bf Tryz.prog 122 JA:=aw Tryz.underlying122 (aL (by kernel_rfl) rfl rfl) (fun fs h w=>by cases h;kernel_rfl) (aJ rfl (by kernel_rfl) (by kernel_rfl))
def Jz : cp := ⟨.struct #[⟨"At", 3, 0, false, "", "", 0⟩, ⟨"Size", 3, 1, false, "", "", 8⟩], 2, 16, .agg #[.int .i64 0, .int .i64 0], [(0, 1), (1, 1)], (some (.pair (.int .i64) (.int .i64))), false⟩
theorem QW:bf Tryz.prog 123 Jz:=aw Tryz.underlying123 (aL (by kernel_rfl) rfl rfl) (fun fs h w=>by cases h;kernel_rfl) (aJ rfl (by kernel_rfl) (by kernel_rfl))
def Jy : cp := ⟨.struct #[⟨"a", 79, 0, false, "", "penfold/found", 0⟩, ⟨"p", 35, 1, false, "", "penfold/found", 8⟩, ⟨"s", 3, 5, false, "", "penfold/found", 40⟩], 6, 48, .agg #[.pointer none, .int .i64 0, .int .i64 0, .int .i64 0, .int .i64 0, .int .i64 0], [(0, 1), (1, 4), (5, 1)], (some (.pair (.ptr 1) (.pair (.pair (.int .i64) (.pair (.int .i64) (.pair (.int .i64) (.int .i64)))) (.int .i64)))), false⟩
theorem QV:bf Tryz.prog 128 Jy:=aw Tryz.underlying128 (aL (by kernel_rfl) rfl rfl) (fun fs h w=>by cases h;kernel_rfl) (aJ rfl (by kernel_rfl) (by kernel_rfl))
def Jx : cp := ⟨.struct #[⟨"a", 79, 0, false, "", "penfold/found", 0⟩, ⟨"p", 35, 1, false, "", "penfold/found", 8⟩, ⟨"s", 3, 5, false, "", "penfold/found", 40⟩], 6, 48, .agg #[.pointer none, .int .i64 0, .int .i64 0, .int .i64 0, .int .i64 0, .int .i64 0], [(0, 1), (1, 4), (5, 1)], (some (.pair (.ptr 1) (.pair (.pair (.int .i64) (.pair (.int .i64) (.pair (.int .i64) (.int .i64)))) (.int .i64)))), false⟩
theorem QU:bf Tryz.prog 129 Jx:=aw Tryz.underlying129 (aL (by kernel_rfl) rfl rfl) (fun fs h w=>by cases h;kernel_rfl) (aJ rfl (by kernel_rfl) (by kernel_rfl))
def Jw : cp := ⟨.struct #[⟨"State", 3, 0, false, "", "", 0⟩, ⟨"Count", 3, 1, false, "", "", 8⟩, ⟨"Parent", 3, 2, false, "", "", 16⟩, ⟨"Epoch", 3, 3, false, "", "", 24⟩], 4, 32, .agg #[.int .i64 0, .int .i64 0, .int .i64 0, .int .i64 0], [(0, 1), (1, 1), (2, 1), (3, 1)], (some (.pair (.int .i64) (.pair (.int .i64) (.pair (.int .i64) (.int .i64))))), false⟩
theorem QT:bf Tryz.prog 131 Jw:=aw Tryz.underlying131 (aL (by kernel_rfl) rfl rfl) (fun fs h w=>by cases h;kernel_rfl) (aJ rfl (by kernel_rfl) (by kernel_rfl))
def Jv : cp := ⟨.struct #[⟨"State", 3, 0, false, "", "", 0⟩, ⟨"Count", 3, 1, false, "", "", 8⟩, ⟨"Parent", 3, 2, false, "", "", 16⟩, ⟨"Epoch", 3, 3, false, "", "", 24⟩], 4, 32, .agg #[.int .i64 0, .int .i64 0, .int .i64 0, .int .i64 0], [(0, 1), (1, 1), (2, 1), (3, 1)], (some (.pair (.int .i64) (.pair (.int .i64) (.pair (.int .i64) (.int .i64))))), false⟩
theorem QS:bf Tryz.prog 132 Jv:=aw Tryz.underlying132 (aL (by kernel_rfl) rfl rfl) (fun fs h w=>by cases h;kernel_rfl) (aJ rfl (by kernel_rfl) (by kernel_rfl))
def Ju : cp := ⟨.struct #[⟨"p", 35, 0, false, "", "penfold/begin", 0⟩, ⟨"l", 91, 4, false, "", "penfold/begin", 32⟩, ⟨"c", 40, 5, false, "", "penfold/begin", 56⟩, ⟨"h", 92, 12, false, "", "penfold/begin", 88⟩, ⟨"v", 92, 13, false, "", "penfold/begin", 96⟩], 14, 104, .agg #[.int .i64 0, .int .i64 0, .int .i64 0, .int .i64 0, .slice none 0 0, .int .u8 0, .int .u8 0, .int .u8 0, .int .u8 0, .int .i64 0, .int .i64 0, .int .i64 0, .int .u64 0, .int .u64 0], [(0, 4), (4, 1), (5, 7), (12, 1), (13, 1)], (some (.pair (.pair (.int .i64) (.pair (.int .i64) (.pair (.int .i64) (.int .i64)))) (.pair (.aI (.pair (.int .i64) .bool)) (.pair (.pair (.int .u8) (.pair (.int .u8) (.pair (.int .u8) (.pair (.int .u8) (.pair (.int .i64) (.pair (.int .i64) (.int .i64))))))) (.pair (.int .u64) (.int .u64)))))), false⟩
theorem QR:bf Tryz.prog 135 Ju:=aw Tryz.underlying135 (aL (by kernel_rfl) rfl rfl) (fun fs h w=>by cases h;kernel_rfl) (aJ rfl (by kernel_rfl) (by kernel_rfl))
def Jt : cp := ⟨.struct #[⟨"p", 35, 0, false, "", "penfold/begin", 0⟩, ⟨"l", 91, 4, false, "", "penfold/begin", 32⟩, ⟨"c", 40, 5, false, "", "penfold/begin", 56⟩, ⟨"h", 92, 12, false, "", "penfold/begin", 88⟩, ⟨"v", 92, 13, false, "", "penfold/begin", 96⟩], 14, 104, .agg #[.int .i64 0, .int .i64 0, .int .i64 0, .int .i64 0, .slice none 0 0, .int .u8 0, .int .u8 0, .int .u8 0, .int .u8 0, .int .i64 0, .int .i64 0, .int .i64 0, .int .u64 0, .int .u64 0], [(0, 4), (4, 1), (5, 7), (12, 1), (13, 1)], (some (.pair (.pair (.int .i64) (.pair (.int .i64) (.pair (.int .i64) (.int .i64)))) (.pair (.aI (.pair (.int .i64) .bool)) (.pair (.pair (.int .u8) (.pair (.int .u8) (.pair (.int .u8) (.pair (.int .u8) (.pair (.int .i64) (.pair (.int .i64) (.int .i64))))))) (.pair (.int .u64) (.int .u64)))))), false⟩
theorem QQ:bf Tryz.prog 136 Jt:=aw Tryz.underlying136 (aL (by kernel_rfl) rfl rfl) (fun fs h w=>by cases h;kernel_rfl) (aJ rfl (by kernel_rfl) (by kernel_rfl))
def Js : cp := ⟨.struct #[⟨"Scope", 3, 0, false, "", "", 0⟩, ⟨"Counted", 4, 1, false, "", "", 8⟩], 2, 16, .agg #[.int .i64 0, .bool false], [(0, 1), (1, 1)], (some (.pair (.int .i64) .bool)), false⟩
theorem QP:bf Tryz.prog 139 Js:=aw Tryz.underlying139 (aL (by kernel_rfl) rfl rfl) (fun fs h w=>by cases h;kernel_rfl) (aJ rfl (by kernel_rfl) (by kernel_rfl))
def Jr : cp := ⟨.struct #[⟨"Scope", 3, 0, false, "", "", 0⟩, ⟨"Counted", 4, 1, false, "", "", 8⟩], 2, 16, .agg #[.int .i64 0, .bool false], [(0, 1), (1, 1)], (some (.pair (.int .i64) .bool)), false⟩
theorem QO:bf Tryz.prog 140 Jr:=aw Tryz.underlying140 (aL (by kernel_rfl) rfl rfl) (fun fs h w=>by cases h;kernel_rfl) (aJ rfl (by kernel_rfl) (by kernel_rfl))
def Jq:cp:=⟨.array 4 92,4,32,.agg #[.int .u64 0,.int .u64 0,.int .u64 0,.int .u64 0],[],(some (.arr 4 (.int .u64))),false⟩
theorem QN:bf Tryz.prog 153 Jq:=aw Tryz.underlying153 (aL (by kernel_rfl) rfl rfl) (fun _ h=>by cases h) (aJ rfl (by kernel_rfl) (by kernel_rfl))
def Jp : cp := ⟨.struct #[⟨"L", 30, 0, false, "", "", 0⟩, ⟨"Regs", 153, 1, false, "", "", 24⟩, ⟨"C", 91, 5, false, "", "", 56⟩, ⟨"R", 94, 6, false, "", "", 80⟩, ⟨"At", 3, 32, false, "", "", 312⟩], 33, 320, .agg #[.slice none 0 0, .int .u64 0, .int .u64 0, .int .u64 0, .int .u64 0, .slice none 0 0, .int .u8 0, .int .u8 0, .int .u8 0, .int .u8 0, .int .i64 0, .int .i64 0, .int .i64 0, .int .i64 0, .int .i64 0, .int .u64 0, .int .u64 0, .slice none 0 0, .int .u64 0, .int .u64 0, .int .i64 0, .int .i64 0, .slice none 0 0, .int .i64 0, .slice none 0 0, .int .i64 0, .bool false, .bool false, .bool false, .int .i64 0, .int .i64 0, .slice none 0 0, .int .i64 0], [(0, 1), (1, 4), (5, 1), (6, 26), (32, 1)], (some (.pair (.aI (.pair (.int .u8) (.pair (.int .u8) (.pair (.int .u8) (.pair (.int .u8) (.pair (.int .i64) (.pair (.int .i64) (.int .i64)))))))) (.pair (.arr 4 (.int .u64)) (.pair (.aI (.pair (.int .i64) .bool)) (.pair (.pair (.pair (.int .u8) (.pair (.int .u8) (.pair (.int .u8) (.pair (.int .u8) (.pair (.int .i64) (.pair (.int .i64) (.int .i64))))))) (.pair (.int .i64) (.pair (.int .i64) (.pair (.int .u64) (.pair (.int .u64) (.pair (.aI (.pair (.int .i64) .bool)) (.pair (.int .u64) (.pair (.int .u64) (.pair (.int .i64) (.pair (.int .i64) (.pair (.aI (.int .i64)) (.pair (.int .i64) (.pair (.aI (.int .i64)) (.pair (.int .i64) (.pair .bool (.pair .bool (.pair .bool (.pair (.int .i64) (.pair (.int .i64) (.aI (.int .i64))))))))))))))))))))) (.int .i64)))))), false⟩
theorem QM:bf Tryz.prog 154 Jp:=aw Tryz.underlying154 (aL (by kernel_rfl) rfl rfl) (fun fs h w=>by cases h;kernel_rfl) (aJ rfl (by kernel_rfl) (by kernel_rfl))
def Jo : cp := ⟨.struct #[⟨"L", 30, 0, false, "", "", 0⟩, ⟨"Regs", 153, 1, false, "", "", 24⟩, ⟨"C", 91, 5, false, "", "", 56⟩, ⟨"R", 94, 6, false, "", "", 80⟩, ⟨"At", 3, 32, false, "", "", 312⟩], 33, 320, .agg #[.slice none 0 0, .int .u64 0, .int .u64 0, .int .u64 0, .int .u64 0, .slice none 0 0, .int .u8 0, .int .u8 0, .int .u8 0, .int .u8 0, .int .i64 0, .int .i64 0, .int .i64 0, .int .i64 0, .int .i64 0, .int .u64 0, .int .u64 0, .slice none 0 0, .int .u64 0, .int .u64 0, .int .i64 0, .int .i64 0, .slice none 0 0, .int .i64 0, .slice none 0 0, .int .i64 0, .bool false, .bool false, .bool false, .int .i64 0, .int .i64 0, .slice none 0 0, .int .i64 0], [(0, 1), (1, 4), (5, 1), (6, 26), (32, 1)], (some (.pair (.aI (.pair (.int .u8) (.pair (.int .u8) (.pair (.int .u8) (.pair (.int .u8) (.pair (.int .i64) (.pair (.int .i64) (.int .i64)))))))) (.pair (.arr 4 (.int .u64)) (.pair (.aI (.pair (.int .i64) .bool)) (.pair (.pair (.pair (.int .u8) (.pair (.int .u8) (.pair (.int .u8) (.pair (.int .u8) (.pair (.int .i64) (.pair (.int .i64) (.int .i64))))))) (.pair (.int .i64) (.pair (.int .i64) (.pair (.int .u64) (.pair (.int .u64) (.pair (.aI (.pair (.int .i64) .bool)) (.pair (.int .u64) (.pair (.int .u64) (.pair (.int .i64) (.pair (.int .i64) (.pair (.aI (.int .i64)) (.pair (.int .i64) (.pair (.aI (.int .i64)) (.pair (.int .i64) (.pair .bool (.pair .bool (.pair .bool (.pair (.int .i64) (.pair (.int .i64) (.aI (.int .i64))))))))))))))))))))) (.int .i64)))))), false⟩
theorem QL:bf Tryz.prog 155 Jo:=aw Tryz.underlying155 (aL (by kernel_rfl) rfl rfl) (fun fs h w=>by cases h;kernel_rfl) (aJ rfl (by kernel_rfl) (by kernel_rfl))
def Jn:cp:=⟨.pointer 252,1,8,.pointer none,[],(some (.ptr 12)),false⟩
theorem QK:bf Tryz.prog 157 Jn:=aw Tryz.underlying157 (aL (by kernel_rfl) rfl rfl) (fun _ h=>by cases h) (aJ rfl (by kernel_rfl) (by kernel_rfl))
def Jm:cp:=⟨.pointer 255,1,8,.pointer none,[],(some (.ptr 14)),false⟩
theorem QJ:bf Tryz.prog 158 Jm:=aw Tryz.underlying158 (aL (by kernel_rfl) rfl rfl) (fun _ h=>by cases h) (aJ rfl (by kernel_rfl) (by kernel_rfl))
def Jl : cp := ⟨.struct #[⟨"P", 35, 0, false, "", "", 0⟩, ⟨"F", 47, 4, false, "", "", 32⟩, ⟨"A", 157, 5, false, "", "", 56⟩, ⟨"G", 158, 6, false, "", "", 64⟩], 7, 72, .agg #[.int .i64 0, .int .i64 0, .int .i64 0, .int .i64 0, .slice none 0 0, .pointer none, .pointer none], [(0, 4), (4, 1), (5, 1), (6, 1)], (some (.pair (.pair (.int .i64) (.pair (.int .i64) (.pair (.int .i64) (.int .i64)))) (.pair (.aI (.aI (.pair (.int .u8) (.pair (.int .i64) (.int .i64))))) (.pair (.ptr 12) (.ptr 14))))), false⟩
theorem QI:bf Tryz.prog 159 Jl:=aw Tryz.underlying159 (aL (by kernel_rfl) rfl rfl) (fun fs h w=>by cases h;kernel_rfl) (aJ rfl (by kernel_rfl) (by kernel_rfl))
def Jk : cp := ⟨.struct #[⟨"P", 35, 0, false, "", "", 0⟩, ⟨"F", 47, 4, false, "", "", 32⟩, ⟨"A", 157, 5, false, "", "", 56⟩, ⟨"G", 158, 6, false, "", "", 64⟩], 7, 72, .agg #[.int .i64 0, .int .i64 0, .int .i64 0, .int .i64 0, .slice none 0 0, .pointer none, .pointer none], [(0, 4), (4, 1), (5, 1), (6, 1)], (some (.pair (.pair (.int .i64) (.pair (.int .i64) (.pair (.int .i64) (.int .i64)))) (.pair (.aI (.aI (.pair (.int .u8) (.pair (.int .i64) (.int .i64))))) (.pair (.ptr 12) (.ptr 14))))), false⟩
theorem QH:bf Tryz.prog 160 Jk:=aw Tryz.underlying160 (aL (by kernel_rfl) rfl rfl) (fun fs h w=>by cases h;kernel_rfl) (aJ rfl (by kernel_rfl) (by kernel_rfl))
def Jj:cp:=⟨.pointer 165,1,8,.pointer none,[],none,false⟩
theorem QG:bf Tryz.prog 163 Jj:=aw Tryz.underlying163 (aL (by kernel_rfl) rfl rfl) (fun _ h=>by cases h) (jL rfl)
def Ji : cp := ⟨.struct #[⟨"slots", 90, 0, false, "", "penfold/fin", 0⟩, ⟨"said", 41, 1, false, "", "penfold/fin", 24⟩, ⟨"held", 4, 2, false, "", "penfold/fin", 48⟩, ⟨"skip", 3, 3, false, "", "penfold/fin", 56⟩], 4, 64, .agg #[.slice none 0 0, .slice none 0 0, .bool false, .int .i64 0], [(0, 1), (1, 1), (2, 1), (3, 1)], (some (.pair (.aI (.int .u64)) (.pair (.aI (.int .i64)) (.pair .bool (.int .i64))))), false⟩
theorem QF:bf Tryz.prog 164 Ji:=aw Tryz.underlying164 (aL (by kernel_rfl) rfl rfl) (fun fs h w=>by cases h;kernel_rfl) (aJ rfl (by kernel_rfl) (by kernel_rfl))
def Jh : cp := ⟨.struct #[⟨"slots", 90, 0, false, "", "penfold/fin", 0⟩, ⟨"said", 41, 1, false, "", "penfold/fin", 24⟩, ⟨"held", 4, 2, false, "", "penfold/fin", 48⟩, ⟨"skip", 3, 3, false, "", "penfold/fin", 56⟩], 4, 64, .agg #[.slice none 0 0, .slice none 0 0, .bool false, .int .i64 0], [(0, 1), (1, 1), (2, 1), (3, 1)], none, false⟩
theorem QE:bf Tryz.prog 165 Jh:=aw Tryz.underlying165 (aL (by kernel_rfl) rfl rfl) (fun fs h w=>by cases h;kernel_rfl) (jL rfl)
def Jg:cp:=⟨.slice 5,1,24,.slice none 0 0,[],(some (.aI (.int .u8))),false⟩
theorem QD:bf Tryz.prog 167 Jg:=aw Tryz.underlying167 (aL (by kernel_rfl) rfl rfl) (fun _ h=>by cases h) (aJ rfl (by kernel_rfl) (by kernel_rfl))
def Jf : cp := ⟨.struct #[⟨"b", 167, 0, false, "", "penfold/arena", 0⟩], 1, 24, .agg #[.slice none 0 0], [(0, 1)], (some (.aI (.int .u8))), false⟩
theorem QC:bf Tryz.prog 168 Jf:=aw Tryz.underlying168 (aL (by kernel_rfl) rfl rfl) (fun fs h w=>by cases h;kernel_rfl) (aJ rfl (by kernel_rfl) (by kernel_rfl))
def Je : cp := ⟨.struct #[⟨"b", 167, 0, false, "", "penfold/arena", 0⟩], 1, 24, .agg #[.slice none 0 0], [(0, 1)], (some (.iX 2 1)), false⟩
theorem QB:bf Tryz.prog 169 Je:=aw Tryz.underlying169 (aL (by kernel_rfl) rfl rfl) (fun fs h w=>by cases h;kernel_rfl) (aJ rfl (by kernel_rfl) (by kernel_rfl))
def Jd:cp:=⟨.slice 123,1,24,.slice none 0 0,[],(some (.aI (.pair (.int .i64) (.int .i64)))),false⟩
theorem QA:bf Tryz.prog 170 Jd:=aw Tryz.underlying170 (aL (by kernel_rfl) rfl rfl) (fun _ h=>by cases h) (aJ rfl (by kernel_rfl) (by kernel_rfl))
def Jc : cp := ⟨.struct #[⟨"from", 3, 0, false, "", "penfold/ground", 0⟩, ⟨"end", 3, 1, false, "", "penfold/ground", 8⟩, ⟨"free", 170, 2, false, "", "penfold/ground", 16⟩], 3, 40, .agg #[.int .i64 0, .int .i64 0, .slice none 0 0], [(0, 1), (1, 1), (2, 1)], (some (.pair (.int .i64) (.pair (.int .i64) (.aI (.pair (.int .i64) (.int .i64)))))), false⟩
theorem Qz:bf Tryz.prog 171 Jc:=aw Tryz.underlying171 (aL (by kernel_rfl) rfl rfl) (fun fs h w=>by cases h;kernel_rfl) (aJ rfl (by kernel_rfl) (by kernel_rfl))
def Jb : cp := ⟨.struct #[⟨"from", 3, 0, false, "", "penfold/ground", 0⟩, ⟨"end", 3, 1, false, "", "penfold/ground", 8⟩, ⟨"free", 170, 2, false, "", "penfold/ground", 16⟩], 3, 40, .agg #[.int .i64 0, .int .i64 0, .slice none 0 0], [(0, 1), (1, 1), (2, 1)], (some (.pair (.int .i64) (.pair (.int .i64) (.iX 4 2)))), false⟩
theorem Qy:bf Tryz.prog 172 Jb:=aw Tryz.underlying172 (aL (by kernel_rfl) rfl rfl) (fun fs h w=>by cases h;kernel_rfl) (aJ rfl (by kernel_rfl) (by kernel_rfl))
def Ja : cp := ⟨.struct #[⟨"Scope", 3, 0, false, "", "", 0⟩, ⟨"Epoch", 3, 1, false, "", "", 8⟩, ⟨"At", 3, 2, false, "", "", 16⟩], 3, 24, .agg #[.int .i64 0, .int .i64 0, .int .i64 0], [(0, 1), (1, 1), (2, 1)], (some (.pair (.int .i64) (.pair (.int .i64) (.int .i64)))), false⟩
theorem Qx:bf Tryz.prog 180 Ja:=aw Tryz.underlying180 (aL (by kernel_rfl) rfl rfl) (fun fs h w=>by cases h;kernel_rfl) (aJ rfl (by kernel_rfl) (by kernel_rfl))
def I_ : cp := ⟨.struct #[⟨"Scope", 3, 0, false, "", "", 0⟩, ⟨"Epoch", 3, 1, false, "", "", 8⟩, ⟨"At", 3, 2, false, "", "", 16⟩], 3, 24, .agg #[.int .i64 0, .int .i64 0, .int .i64 0], [(0, 1), (1, 1), (2, 1)], (some (.pair (.int .i64) (.pair (.int .i64) (.int .i64)))), false⟩
theorem Qw:bf Tryz.prog 181 I_:=aw Tryz.underlying181 (aL (by kernel_rfl) rfl rfl) (fun fs h w=>by cases h;kernel_rfl) (aJ rfl (by kernel_rfl) (by kernel_rfl))
def I9:cp:=⟨.func #[193] #[] false,1,8,.nilFunc,[],none,false⟩
theorem Qv:bf Tryz.prog 192 I9:=aw Tryz.underlying192 (aL (by kernel_rfl) rfl rfl) (fun _ h=>by cases h) (jL rfl)
def I8:cp:=⟨.pointer 197,1,8,.pointer none,[],none,false⟩
theorem Qu:bf Tryz.prog 193 I8:=aw Tryz.underlying193 (aL (by kernel_rfl) rfl rfl) (fun _ h=>by cases h) (jL rfl)
def I7:cp:=⟨.map 3 192,1,8,.map none,[],none,false⟩
theorem Qt:bf Tryz.prog 194 I7:=aw Tryz.underlying194 (aL (by kernel_rfl) rfl rfl) (fun _ h=>by cases h) (jL rfl)
def I6 : cp := ⟨.struct #[⟨"p", 35, 0, false, "", "penfold/take", 0⟩, ⟨"a", 79, 4, false, "", "penfold/take", 32⟩, ⟨"r", 94, 5, false, "", "penfold/take", 40⟩], 31, 272, .agg #[.int .i64 0, .int .i64 0, .int .i64 0, .int .i64 0, .pointer none, .int .u8 0, .int .u8 0, .int .u8 0, .int .u8 0, .int .i64 0, .int .i64 0, .int .i64 0, .int .i64 0, .int .i64 0, .int .u64 0, .int .u64 0, .slice none 0 0, .int .u64 0, .int .u64 0, .int .i64 0, .int .i64 0, .slice none 0 0, .int .i64 0, .slice none 0 0, .int .i64 0, .bool false, .bool false, .bool false, .int .i64 0, .int .i64 0, .slice none 0 0], [(0, 4), (4, 1), (5, 26)], (some (.pair (.pair (.int .i64) (.pair (.int .i64) (.pair (.int .i64) (.int .i64)))) (.pair (.ptr 1) (.pair (.pair (.int .u8) (.pair (.int .u8) (.pair (.int .u8) (.pair (.int .u8) (.pair (.int .i64) (.pair (.int .i64) (.int .i64))))))) (.pair (.int .i64) (.pair (.int .i64) (.pair (.int .u64) (.pair (.int .u64) (.pair (.aI (.pair (.int .i64) .bool)) (.pair (.int .u64) (.pair (.int .u64) (.pair (.int .i64) (.pair (.int .i64) (.pair (.aI (.int .i64)) (.pair (.int .i64) (.pair (.aI (.int .i64)) (.pair (.int .i64) (.pair .bool (.pair .bool (.pair .bool (.pair (.int .i64) (.pair (.int .i64) (.aI (.int .i64)))))))))))))))))))))))), false⟩
theorem Qs:bf Tryz.prog 196 I6:=aw Tryz.underlying196 (aL (by kernel_rfl) rfl rfl) (fun fs h w=>by cases h;kernel_rfl) (aJ rfl (by kernel_rfl) (by kernel_rfl))
def I5 : cp := ⟨.struct #[⟨"p", 35, 0, false, "", "penfold/take", 0⟩, ⟨"a", 79, 4, false, "", "penfold/take", 32⟩, ⟨"r", 94, 5, false, "", "penfold/take", 40⟩], 31, 272, .agg #[.int .i64 0, .int .i64 0, .int .i64 0, .int .i64 0, .pointer none, .int .u8 0, .int .u8 0, .int .u8 0, .int .u8 0, .int .i64 0, .int .i64 0, .int .i64 0, .int .i64 0, .int .i64 0, .int .u64 0, .int .u64 0, .slice none 0 0, .int .u64 0, .int .u64 0, .int .i64 0, .int .i64 0, .slice none 0 0, .int .i64 0, .slice none 0 0, .int .i64 0, .bool false, .bool false, .bool false, .int .i64 0, .int .i64 0, .slice none 0 0], [(0, 4), (4, 1), (5, 26)], (some (.pair (.pair (.int .i64) (.pair (.int .i64) (.pair (.int .i64) (.int .i64)))) (.pair (.ptr 1) (.pair (.pair (.int .u8) (.pair (.int .u8) (.pair (.int .u8) (.pair (.int .u8) (.pair (.int .i64) (.pair (.int .i64) (.int .i64))))))) (.pair (.int .i64) (.pair (.int .i64) (.pair (.int .u64) (.pair (.int .u64) (.pair (.aI (.pair (.int .i64) .bool)) (.pair (.int .u64) (.pair (.int .u64) (.pair (.int .i64) (.pair (.int .i64) (.pair (.aI (.int .i64)) (.pair (.int .i64) (.pair (.aI (.int .i64)) (.pair (.int .i64) (.pair .bool (.pair .bool (.pair .bool (.pair (.int .i64) (.pair (.int .i64) (.aI (.int .i64)))))))))))))))))))))))), false⟩
theorem Qr:bf Tryz.prog 197 I5:=aw Tryz.underlying197 (aL (by kernel_rfl) rfl rfl) (fun fs h w=>by cases h;kernel_rfl) (aJ rfl (by kernel_rfl) (by kernel_rfl))
def I4:cp:=⟨.pointer 200,1,8,.pointer none,[],none,false⟩
theorem Qq:bf Tryz.prog 198 I4:=aw Tryz.underlying198 (aL (by kernel_rfl) rfl rfl) (fun _ h=>by cases h) (jL rfl)
def I3 : cp := ⟨.struct #[⟨"a", 79, 0, false, "", "penfold/enter", 0⟩, ⟨"at", 3, 1, false, "", "penfold/enter", 8⟩, ⟨"r", 94, 2, false, "", "penfold/enter", 16⟩], 28, 248, .agg #[.pointer none, .int .i64 0, .int .u8 0, .int .u8 0, .int .u8 0, .int .u8 0, .int .i64 0, .int .i64 0, .int .i64 0, .int .i64 0, .int .i64 0, .int .u64 0, .int .u64 0, .slice none 0 0, .int .u64 0, .int .u64 0, .int .i64 0, .int .i64 0, .slice none 0 0, .int .i64 0, .slice none 0 0, .int .i64 0, .bool false, .bool false, .bool false, .int .i64 0, .int .i64 0, .slice none 0 0], [(0, 1), (1, 1), (2, 26)], (some (.pair (.ptr 1) (.pair (.int .i64) (.pair (.pair (.int .u8) (.pair (.int .u8) (.pair (.int .u8) (.pair (.int .u8) (.pair (.int .i64) (.pair (.int .i64) (.int .i64))))))) (.pair (.int .i64) (.pair (.int .i64) (.pair (.int .u64) (.pair (.int .u64) (.pair (.aI (.pair (.int .i64) .bool)) (.pair (.int .u64) (.pair (.int .u64) (.pair (.int .i64) (.pair (.int .i64) (.pair (.aI (.int .i64)) (.pair (.int .i64) (.pair (.aI (.int .i64)) (.pair (.int .i64) (.pair .bool (.pair .bool (.pair .bool (.pair (.int .i64) (.pair (.int .i64) (.aI (.int .i64)))))))))))))))))))))))), false⟩
theorem Qp:bf Tryz.prog 199 I3:=aw Tryz.underlying199 (aL (by kernel_rfl) rfl rfl) (fun fs h w=>by cases h;kernel_rfl) (aJ rfl (by kernel_rfl) (by kernel_rfl))
def I2 : cp := ⟨.struct #[⟨"a", 79, 0, false, "", "penfold/enter", 0⟩, ⟨"at", 3, 1, false, "", "penfold/enter", 8⟩, ⟨"r", 94, 2, false, "", "penfold/enter", 16⟩], 28, 248, .agg #[.pointer none, .int .i64 0, .int .u8 0, .int .u8 0, .int .u8 0, .int .u8 0, .int .i64 0, .int .i64 0, .int .i64 0, .int .i64 0, .int .i64 0, .int .u64 0, .int .u64 0, .slice none 0 0, .int .u64 0, .int .u64 0, .int .i64 0, .int .i64 0, .slice none 0 0, .int .i64 0, .slice none 0 0, .int .i64 0, .bool false, .bool false, .bool false, .int .i64 0, .int .i64 0, .slice none 0 0], [(0, 1), (1, 1), (2, 26)], (some (.pair (.ptr 1) (.pair (.int .i64) (.pair (.pair (.int .u8) (.pair (.int .u8) (.pair (.int .u8) (.pair (.int .u8) (.pair (.int .i64) (.pair (.int .i64) (.int .i64))))))) (.pair (.int .i64) (.pair (.int .i64) (.pair (.int .u64) (.pair (.int .u64) (.pair (.aI (.pair (.int .i64) .bool)) (.pair (.int .u64) (.pair (.int .u64) (.pair (.int .i64) (.pair (.int .i64) (.pair (.aI (.int .i64)) (.pair (.int .i64) (.pair (.aI (.int .i64)) (.pair (.int .i64) (.pair .bool (.pair .bool (.pair .bool (.pair (.int .i64) (.pair (.int .i64) (.aI (.int .i64)))))))))))))))))))))))), false⟩
theorem Qo:bf Tryz.prog 200 I2:=aw Tryz.underlying200 (aL (by kernel_rfl) rfl rfl) (fun fs h w=>by cases h;kernel_rfl) (aJ rfl (by kernel_rfl) (by kernel_rfl))
def I1:cp:=⟨.map 3 1,1,8,.map none,[],none,false⟩
theorem Qn:bf Tryz.prog 201 I1:=aw Tryz.underlying201 (aL (by kernel_rfl) rfl rfl) (fun _ h=>by cases h) (jL rfl)
def I0:cp:=⟨.func #[207] #[] false,1,8,.nilFunc,[],none,false⟩
theorem Qm:bf Tryz.prog 203 I0:=aw Tryz.underlying203 (aL (by kernel_rfl) rfl rfl) (fun _ h=>by cases h) (jL rfl)
def IZ:cp:=⟨.map 3 203,1,8,.map none,[],none,false⟩
theorem Ql:bf Tryz.prog 205 IZ:=aw Tryz.underlying205 (aL (by kernel_rfl) rfl rfl) (fun _ h=>by cases h) (jL rfl)
def IY:cp:=⟨.pointer 209,1,8,.pointer none,[],none,false⟩
theorem Qk:bf Tryz.prog 207 IY:=aw Tryz.underlying207 (aL (by kernel_rfl) rfl rfl) (fun _ h=>by cases h) (jL rfl)
def IX : cp := ⟨.struct #[⟨"p", 35, 0, false, "", "penfold/leave", 0⟩, ⟨"fins", 47, 4, false, "", "penfold/leave", 32⟩, ⟨"a", 79, 5, false, "", "penfold/leave", 56⟩, ⟨"r", 94, 6, false, "", "penfold/leave", 64⟩], 32, 296, .agg #[.int .i64 0, .int .i64 0, .int .i64 0, .int .i64 0, .slice none 0 0, .pointer none, .int .u8 0, .int .u8 0, .int .u8 0, .int .u8 0, .int .i64 0, .int .i64 0, .int .i64 0, .int .i64 0, .int .i64 0, .int .u64 0, .int .u64 0, .slice none 0 0, .int .u64 0, .int .u64 0, .int .i64 0, .int .i64 0, .slice none 0 0, .int .i64 0, .slice none 0 0, .int .i64 0, .bool false, .bool false, .bool false, .int .i64 0, .int .i64 0, .slice none 0 0], [(0, 4), (4, 1), (5, 1), (6, 26)], (some (.pair (.pair (.int .i64) (.pair (.int .i64) (.pair (.int .i64) (.int .i64)))) (.pair (.aI (.aI (.pair (.int .u8) (.pair (.int .i64) (.int .i64))))) (.pair (.ptr 1) (.pair (.pair (.int .u8) (.pair (.int .u8) (.pair (.int .u8) (.pair (.int .u8) (.pair (.int .i64) (.pair (.int .i64) (.int .i64))))))) (.pair (.int .i64) (.pair (.int .i64) (.pair (.int .u64) (.pair (.int .u64) (.pair (.aI (.pair (.int .i64) .bool)) (.pair (.int .u64) (.pair (.int .u64) (.pair (.int .i64) (.pair (.int .i64) (.pair (.aI (.int .i64)) (.pair (.int .i64) (.pair (.aI (.int .i64)) (.pair (.int .i64) (.pair .bool (.pair .bool (.pair .bool (.pair (.int .i64) (.pair (.int .i64) (.aI (.int .i64))))))))))))))))))))))))), false⟩
theorem Qj:bf Tryz.prog 208 IX:=aw Tryz.underlying208 (aL (by kernel_rfl) rfl rfl) (fun fs h w=>by cases h;kernel_rfl) (aJ rfl (by kernel_rfl) (by kernel_rfl))
def IW : cp := ⟨.struct #[⟨"p", 35, 0, false, "", "penfold/leave", 0⟩, ⟨"fins", 47, 4, false, "", "penfold/leave", 32⟩, ⟨"a", 79, 5, false, "", "penfold/leave", 56⟩, ⟨"r", 94, 6, false, "", "penfold/leave", 64⟩], 32, 296, .agg #[.int .i64 0, .int .i64 0, .int .i64 0, .int .i64 0, .slice none 0 0, .pointer none, .int .u8 0, .int .u8 0, .int .u8 0, .int .u8 0, .int .i64 0, .int .i64 0, .int .i64 0, .int .i64 0, .int .i64 0, .int .u64 0, .int .u64 0, .slice none 0 0, .int .u64 0, .int .u64 0, .int .i64 0, .int .i64 0, .slice none 0 0, .int .i64 0, .slice none 0 0, .int .i64 0, .bool false, .bool false, .bool false, .int .i64 0, .int .i64 0, .slice none 0 0], [(0, 4), (4, 1), (5, 1), (6, 26)], (some (.pair (.pair (.int .i64) (.pair (.int .i64) (.pair (.int .i64) (.int .i64)))) (.pair (.iX 9 1) (.pair (.ptr 1) (.pair (.pair (.int .u8) (.pair (.int .u8) (.pair (.int .u8) (.pair (.int .u8) (.pair (.int .i64) (.pair (.int .i64) (.int .i64))))))) (.pair (.int .i64) (.pair (.int .i64) (.pair (.int .u64) (.pair (.int .u64) (.pair (.aI (.pair (.int .i64) .bool)) (.pair (.int .u64) (.pair (.int .u64) (.pair (.int .i64) (.pair (.int .i64) (.pair (.aI (.int .i64)) (.pair (.int .i64) (.pair (.aI (.int .i64)) (.pair (.int .i64) (.pair .bool (.pair .bool (.pair .bool (.pair (.int .i64) (.pair (.int .i64) (.aI (.int .i64))))))))))))))))))))))))), false⟩
theorem Qi:bf Tryz.prog 209 IW:=aw Tryz.underlying209 (aL (by kernel_rfl) rfl rfl) (fun fs h w=>by cases h;kernel_rfl) (aJ rfl (by kernel_rfl) (by kernel_rfl))
def IV:cp:=⟨.pointer 212,1,8,.pointer none,[],none,false⟩
theorem Qh:bf Tryz.prog 210 IV:=aw Tryz.underlying210 (aL (by kernel_rfl) rfl rfl) (fun _ h=>by cases h) (jL rfl)
def IU : cp := ⟨.struct #[⟨"p", 35, 0, false, "", "penfold/slots", 0⟩, ⟨"a", 79, 4, false, "", "penfold/slots", 32⟩, ⟨"r", 94, 5, false, "", "penfold/slots", 40⟩, ⟨"refused", 23, 31, false, "", "penfold/slots", 272⟩], 32, 280, .agg #[.int .i64 0, .int .i64 0, .int .i64 0, .int .i64 0, .pointer none, .int .u8 0, .int .u8 0, .int .u8 0, .int .u8 0, .int .i64 0, .int .i64 0, .int .i64 0, .int .i64 0, .int .i64 0, .int .u64 0, .int .u64 0, .slice none 0 0, .int .u64 0, .int .u64 0, .int .i64 0, .int .i64 0, .slice none 0 0, .int .i64 0, .slice none 0 0, .int .i64 0, .bool false, .bool false, .bool false, .int .i64 0, .int .i64 0, .slice none 0 0, .int .i64 0], [(0, 4), (4, 1), (5, 26), (31, 1)], (some (.pair (.pair (.int .i64) (.pair (.int .i64) (.pair (.int .i64) (.int .i64)))) (.pair (.ptr 1) (.pair (.pair (.pair (.int .u8) (.pair (.int .u8) (.pair (.int .u8) (.pair (.int .u8) (.pair (.int .i64) (.pair (.int .i64) (.int .i64))))))) (.pair (.int .i64) (.pair (.int .i64) (.pair (.int .u64) (.pair (.int .u64) (.pair (.aI (.pair (.int .i64) .bool)) (.pair (.int .u64) (.pair (.int .u64) (.pair (.int .i64) (.pair (.int .i64) (.pair (.aI (.int .i64)) (.pair (.int .i64) (.pair (.aI (.int .i64)) (.pair (.int .i64) (.pair .bool (.pair .bool (.pair .bool (.pair (.int .i64) (.pair (.int .i64) (.aI (.int .i64))))))))))))))))))))) (.int .i64))))), false⟩
theorem Qg:bf Tryz.prog 211 IU:=aw Tryz.underlying211 (aL (by kernel_rfl) rfl rfl) (fun fs h w=>by cases h;kernel_rfl) (aJ rfl (by kernel_rfl) (by kernel_rfl))
def IT : cp := ⟨.struct #[⟨"p", 35, 0, false, "", "penfold/slots", 0⟩, ⟨"a", 79, 4, false, "", "penfold/slots", 32⟩, ⟨"r", 94, 5, false, "", "penfold/slots", 40⟩, ⟨"refused", 23, 31, false, "", "penfold/slots", 272⟩], 32, 280, .agg #[.int .i64 0, .int .i64 0, .int .i64 0, .int .i64 0, .pointer none, .int .u8 0, .int .u8 0, .int .u8 0, .int .u8 0, .int .i64 0, .int .i64 0, .int .i64 0, .int .i64 0, .int .i64 0, .int .u64 0, .int .u64 0, .slice none 0 0, .int .u64 0, .int .u64 0, .int .i64 0, .int .i64 0, .slice none 0 0, .int .i64 0, .slice none 0 0, .int .i64 0, .bool false, .bool false, .bool false, .int .i64 0, .int .i64 0, .slice none 0 0, .int .i64 0], [(0, 4), (4, 1), (5, 26), (31, 1)], (some (.pair (.pair (.int .i64) (.pair (.int .i64) (.pair (.int .i64) (.int .i64)))) (.pair (.ptr 1) (.pair (.pair (.pair (.int .u8) (.pair (.int .u8) (.pair (.int .u8) (.pair (.int .u8) (.pair (.int .i64) (.pair (.int .i64) (.int .i64))))))) (.pair (.int .i64) (.pair (.int .i64) (.pair (.int .u64) (.pair (.int .u64) (.pair (.aI (.pair (.int .i64) .bool)) (.pair (.int .u64) (.pair (.int .u64) (.pair (.int .i64) (.pair (.int .i64) (.pair (.aI (.int .i64)) (.pair (.int .i64) (.pair (.aI (.int .i64)) (.pair (.int .i64) (.pair .bool (.pair .bool (.pair .bool (.pair (.int .i64) (.pair (.int .i64) (.aI (.int .i64))))))))))))))))))))) (.int .i64))))), false⟩
theorem Qf:bf Tryz.prog 212 IT:=aw Tryz.underlying212 (aL (by kernel_rfl) rfl rfl) (fun fs h w=>by cases h;kernel_rfl) (aJ rfl (by kernel_rfl) (by kernel_rfl))
def IS:cp:=⟨.int .u64,1,8,.int .u64 0,[],(some (.int .u64)),false⟩
theorem Qe:bf Tryz.prog 225 IS:=aw Tryz.underlying225 (aL (by kernel_rfl) rfl rfl) (fun _ h=>by cases h) (aJ rfl (by kernel_rfl) (by kernel_rfl))
def IQ:cp:=⟨.slice 23,1,24,.slice none 0 0,[],(some (.aI (.int .i64))),false⟩
theorem Qd:bf Tryz.prog 230 IQ:=aw Tryz.underlying230 (aL (by kernel_rfl) rfl rfl) (fun _ h=>by cases h) (aJ rfl (by kernel_rfl) (by kernel_rfl))
def IP:cp:=⟨.pointer 123,1,8,.pointer none,[],none,false⟩
theorem Qc:bf Tryz.prog 237 IP:=aw Tryz.underlying237 (aL (by kernel_rfl) rfl rfl) (fun _ h=>by cases h) (jL rfl)
def IN : cp := ⟨.struct #[⟨"Size", 3, 0, false, "", "", 0⟩, ⟨"Slots", 3, 1, false, "", "", 8⟩, ⟨"Tag", 3, 2, false, "", "", 16⟩, ⟨"Done", 4, 3, false, "", "", 24⟩, ⟨"Scope", 3, 4, false, "", "", 32⟩, ⟨"Epoch", 3, 5, false, "", "", 40⟩], 6, 48, .agg #[.int .i64 0, .int .i64 0, .int .i64 0, .bool false, .int .i64 0, .int .i64 0], [(0, 1), (1, 1), (2, 1), (3, 1), (4, 1), (5, 1)], (some (.pair (.int .i64) (.pair (.int .i64) (.pair (.int .i64) (.pair .bool (.pair (.int .i64) (.int .i64))))))), false⟩
theorem Qb:bf Tryz.prog 241 IN:=aw Tryz.underlying241 (aL (by kernel_rfl) rfl rfl) (fun fs h w=>by cases h;kernel_rfl) (aJ rfl (by kernel_rfl) (by kernel_rfl))
def IM : cp := ⟨.struct #[⟨"Size", 3, 0, false, "", "", 0⟩, ⟨"Slots", 3, 1, false, "", "", 8⟩, ⟨"Tag", 3, 2, false, "", "", 16⟩, ⟨"Done", 4, 3, false, "", "", 24⟩, ⟨"Scope", 3, 4, false, "", "", 32⟩, ⟨"Epoch", 3, 5, false, "", "", 40⟩], 6, 48, .agg #[.int .i64 0, .int .i64 0, .int .i64 0, .bool false, .int .i64 0, .int .i64 0], [(0, 1), (1, 1), (2, 1), (3, 1), (4, 1), (5, 1)], (some (.pair (.int .i64) (.pair (.int .i64) (.pair (.int .i64) (.pair .bool (.pair (.int .i64) (.int .i64))))))), false⟩
theorem Qa:bf Tryz.prog 242 IM:=aw Tryz.underlying242 (aL (by kernel_rfl) rfl rfl) (fun fs h w=>by cases h;kernel_rfl) (aJ rfl (by kernel_rfl) (by kernel_rfl))
def IL : cp := ⟨.struct #[⟨"W", 90, 0, false, "", "", 0⟩], 1, 24, .agg #[.slice none 0 0], [(0, 1)], (some (.aI (.int .u64))), false⟩
theorem P_:bf Tryz.prog 251 IL:=aw Tryz.underlying251 (aL (by kernel_rfl) rfl rfl) (fun fs h w=>by cases h;kernel_rfl) (aJ rfl (by kernel_rfl) (by kernel_rfl))
def IK : cp := ⟨.struct #[⟨"W", 90, 0, false, "", "", 0⟩], 1, 24, .agg #[.slice none 0 0], [(0, 1)], (some (.iX 13 1)), false⟩
theorem P9:bf Tryz.prog 252 IK:=aw Tryz.underlying252 (aL (by kernel_rfl) rfl rfl) (fun fs h w=>by cases h;kernel_rfl) (aJ rfl (by kernel_rfl) (by kernel_rfl))
def IJ:cp:=⟨.slice 4,1,24,.slice none 0 0,[],(some (.aI .bool)),false⟩
theorem P8:bf Tryz.prog 253 IJ:=aw Tryz.underlying253 (aL (by kernel_rfl) rfl rfl) (fun _ h=>by cases h) (aJ rfl (by kernel_rfl) (by kernel_rfl))
def II : cp := ⟨.struct #[⟨"At", 3, 0, false, "", "", 0⟩, ⟨"Free", 253, 1, false, "", "", 8⟩], 2, 32, .agg #[.int .i64 0, .slice none 0 0], [(0, 1), (1, 1)], (some (.pair (.int .i64) (.aI .bool))), false⟩
theorem P7:bf Tryz.prog 254 II:=aw Tryz.underlying254 (aL (by kernel_rfl) rfl rfl) (fun fs h w=>by cases h;kernel_rfl) (aJ rfl (by kernel_rfl) (by kernel_rfl))
def IH : cp := ⟨.struct #[⟨"At", 3, 0, false, "", "", 0⟩, ⟨"Free", 253, 1, false, "", "", 8⟩], 2, 32, .agg #[.int .i64 0, .slice none 0 0], [(0, 1), (1, 1)], (some (.pair (.int .i64) (.iX 15 1))), false⟩
theorem P6:bf Tryz.prog 255 IH:=aw Tryz.underlying255 (aL (by kernel_rfl) rfl rfl) (fun fs h w=>by cases h;kernel_rfl) (aJ rfl (by kernel_rfl) (by kernel_rfl))
def IG:cp:=⟨.slice 41,1,24,.slice none 0 0,[],(some (.aI (.aI (.int .i64)))),false⟩
theorem P5:bf Tryz.prog 288 IG:=aw Tryz.underlying288 (aL (by kernel_rfl) rfl rfl) (fun _ h=>by cases h) (aJ rfl (by kernel_rfl) (by kernel_rfl))
def IF:cp:=⟨.int .u32,1,4,.int .u32 0,[],(some (.int .u32)),false⟩
theorem P4:bf Tryz.prog 299 IF:=aw Tryz.underlying299 (aL (by kernel_rfl) rfl rfl) (fun _ h=>by cases h) (aJ rfl (by kernel_rfl) (by kernel_rfl))
def IE:cp:=⟨.pointer 5,1,8,.pointer none,[],none,false⟩
theorem P3:bf Tryz.prog 303 IE:=aw Tryz.underlying303 (aL (by kernel_rfl) rfl rfl) (fun _ h=>by cases h) (jL rfl)
theorem aaW:gZ Tryz.prog 34:=cA Tryz.stoodInHeld34 Tryz.eqGuardType34 Tryz.underlying34 (by decide)
theorem aaV:gZ Tryz.prog 35:=cA Tryz.stoodInHeld35 Tryz.eqGuardType35 Tryz.underlying35 (by decide)
theorem aaU:gZ Tryz.prog 39:=cA Tryz.stoodInHeld39 Tryz.eqGuardType39 Tryz.underlying39 (by decide)
theorem aaT:gZ Tryz.prog 40:=cA Tryz.stoodInHeld40 Tryz.eqGuardType40 Tryz.underlying40 (by decide)
theorem aaS:gZ Tryz.prog 44:=cA Tryz.stoodInHeld44 Tryz.eqGuardType44 Tryz.underlying44 (by decide)
theorem aaR:gZ Tryz.prog 45:=cA Tryz.stoodInHeld45 Tryz.eqGuardType45 Tryz.underlying45 (by decide)
theorem aaQ:gZ Tryz.prog 87:=cA Tryz.stoodInHeld87 Tryz.eqGuardType87 Tryz.underlying87 (by decide)
theorem aaP:gZ Tryz.prog 88:=cA Tryz.stoodInHeld88 Tryz.eqGuardType88 Tryz.underlying88 (by decide)
theorem Vp:gZ Tryz.prog 122:=cA Tryz.stoodInHeld122 Tryz.eqGuardType122 Tryz.underlying122 (by decide)
theorem Vo:gZ Tryz.prog 123:=cA Tryz.stoodInHeld123 Tryz.eqGuardType123 Tryz.underlying123 (by decide)
theorem Vn:gZ Tryz.prog 128:=cA Tryz.stoodInHeld128 Tryz.eqGuardType128 Tryz.underlying128 (by decide)
theorem Vm:gZ Tryz.prog 129:=cA Tryz.stoodInHeld129 Tryz.eqGuardType129 Tryz.underlying129 (by decide)
theorem Vl:gZ Tryz.prog 131:=cA Tryz.stoodInHeld131 Tryz.eqGuardType131 Tryz.underlying131 (by decide)
theorem Vk:gZ Tryz.prog 132:=cA Tryz.stoodInHeld132 Tryz.eqGuardType132 Tryz.underlying132 (by decide)
theorem Vj:gZ Tryz.prog 139:=cA Tryz.stoodInHeld139 Tryz.eqGuardType139 Tryz.underlying139 (by decide)
theorem Vi:gZ Tryz.prog 140:=cA Tryz.stoodInHeld140 Tryz.eqGuardType140 Tryz.underlying140 (by decide)
theorem Vh:gZ Tryz.prog 180:=cA Tryz.stoodInHeld180 Tryz.eqGuardType180 Tryz.underlying180 (by decide)
theorem Vg:gZ Tryz.prog 181:=cA Tryz.stoodInHeld181 Tryz.eqGuardType181 Tryz.underlying181 (by decide)
theorem Vf:gZ Tryz.prog 196:=cA Tryz.stoodInHeld196 Tryz.eqGuardType196 Tryz.underlying196 (by decide)
theorem Ve:gZ Tryz.prog 197:=cA Tryz.stoodInHeld197 Tryz.eqGuardType197 Tryz.underlying197 (by decide)
theorem Vd:gZ Tryz.prog 199:=cA Tryz.stoodInHeld199 Tryz.eqGuardType199 Tryz.underlying199 (by decide)
theorem Vc:gZ Tryz.prog 200:=cA Tryz.stoodInHeld200 Tryz.eqGuardType200 Tryz.underlying200 (by decide)
theorem Vb:gZ Tryz.prog 211:=cA Tryz.stoodInHeld211 Tryz.eqGuardType211 Tryz.underlying211 (by decide)
theorem Va:gZ Tryz.prog 212:=cA Tryz.stoodInHeld212 Tryz.eqGuardType212 Tryz.underlying212 (by decide)
theorem U_:gZ Tryz.prog 241:=cA Tryz.stoodInHeld241 Tryz.eqGuardType241 Tryz.underlying241 (by decide)
theorem UZ:gZ Tryz.prog 242:=cA Tryz.stoodInHeld242 Tryz.eqGuardType242 Tryz.underlying242 (by decide)
def env:Env:=⟨(.node (.node (.node (.node (.node (.node (.node (.node (.node .nil (some IH) .nil) none .nil) none (.node .nil none .nil)) (some PN) (.node (.node (.node .nil none .nil) (some Jl) .nil) (some Pb) (.node .nil none .nil))) none (.node (.node (.node (.node .nil none .nil) none .nil) (some Pr) (.node .nil (some IY) .nil)) (some PB) (.node (.node (.node .nil (some IE) .nil) none .nil) none (.node .nil none .nil)))) none (.node (.node (.node (.node (.node .nil none .nil) (some Ju) .nil) none (.node .nil (some I3) .nil)) (some PJ) (.node (.node (.node .nil none .nil) (some Jg) .nil) none (.node .nil none .nil))) (some PT) (.node (.node (.node (.node .nil none .nil) none .nil) (some Pm) (.node .nil none .nil)) none (.node (.node .nil none .nil) none (.node .nil none .nil))))) (some ty3) (.node (.node (.node (.node (.node (.node .nil none .nil) (some Jw) .nil) (some Pv) (.node .nil none .nil)) (some PL) (.node (.node (.node .nil none .nil) (some Jj) .nil) none (.node .nil none .nil))) none (.node (.node (.node (.node .nil none .nil) none .nil) (some Pp) (.node .nil (some IU) .nil)) none (.node (.node .nil none .nil) (some JC) (.node .nil none .nil)))) none (.node (.node (.node (.node (.node .nil none .nil) (some Js) .nil) none (.node .nil (some I0) .nil)) (some PF) (.node (.node (.node .nil (some IF) .nil) (some Jc) .nil) none (.node .nil none .nil))) (some PS) (.node (.node (.node (.node .nil none .nil) (some Jo) .nil) (some Pg) (.node .nil none .nil)) none (.node (.node .nil none .nil) (some Jz) (.node .nil (some IL) .nil)))))) (some ty1) (.node (.node (.node (.node (.node (.node (.node .nil none .nil) (some Jx) .nil) none (.node .nil (some I8) .nil)) none (.node (.node (.node .nil none .nil) none .nil) none (.node .nil (some IS) .nil))) none (.node (.node (.node (.node .nil none .nil) none .nil) none (.node .nil (some IW) .nil)) (some Pz) (.node (.node .nil none .nil) (some JE) (.node .nil (some IN) .nil)))) (some ty9) (.node (.node (.node (.node (.node .nil none .nil) none .nil) none (.node .nil (some I1) .nil)) (some PH) (.node (.node (.node .nil none .nil) (some Je) .nil) none (.node .nil none .nil))) none (.node (.node (.node (.node .nil none .nil) (some Jq) .nil) (some Pj) (.node .nil none .nil)) none (.node (.node .nil none .nil) none (.node .nil none .nil))))) (some ty5) (.node (.node (.node (.node (.node (.node .nil none .nil) none .nil) (some Pt) (.node .nil (some I5) .nil)) (some PK) (.node (.node (.node .nil none .nil) (some Jh) .nil) none (.node .nil none .nil))) (some PU) (.node (.node (.node (.node .nil none .nil) none .nil) (some Pn) (.node .nil none .nil)) (some Py) (.node (.node .nil (some I_) .nil) none (.node .nil none .nil)))) (some PV) (.node (.node (.node (.node (.node .nil none .nil) none .nil) none (.node .nil (some IZ) .nil)) (some PD) (.node (.node (.node .nil none .nil) none .nil) (some JF) (.node .nil (some IP) .nil))) (some PQ) (.node (.node (.node (.node .nil none .nil) (some Jn) .nil) (some Pe) (.node .nil none .nil)) none (.node (.node .nil none .nil) none (.node .nil (some IJ) .nil))))))) none (.node (.node (.node (.node (.node (.node (.node (.node .nil none .nil) (some Jy) .nil) (some Pw) (.node .nil (some I9) .nil)) none (.node (.node (.node .nil (some IG) .nil) (some Jk) .nil) (some Pa) (.node .nil none .nil))) none (.node (.node (.node (.node .nil none .nil) none .nil) (some Pq) (.node .nil (some IX) .nil)) (some PA) (.node (.node .nil none .nil) none (.node .nil none .nil)))) none (.node (.node (.node (.node (.node .nil none .nil) (some Jt) .nil) none (.node .nil (some I2) .nil)) (some PI) (.node (.node (.node .nil none .nil) (some Jf) .nil) none (.node .nil none .nil))) none (.node (.node (.node (.node .nil none .nil) none .nil) (some Pk) (.node .nil none .nil)) none (.node (.node .nil none .nil) none (.node .nil none .nil))))) (some ty4) (.node (.node (.node (.node (.node (.node .nil none .nil) (some Jv) .nil) (some Pu) (.node .nil (some I6) .nil)) none (.node (.node (.node .nil none .nil) (some Ji) .nil) none (.node .nil none .nil))) none (.node (.node (.node (.node .nil none .nil) none .nil) (some Po) (.node .nil (some IT) .nil)) none (.node (.node .nil (some Ja) .nil) (some JB) (.node .nil none .nil)))) (some PW) (.node (.node (.node (.node (.node .nil none .nil) (some Jr) .nil) none (.node .nil none .nil)) (some PE) (.node (.node (.node .nil none .nil) (some Jb) .nil) none (.node .nil none .nil))) (some PR) (.node (.node (.node (.node .nil none .nil) none .nil) (some Pf) (.node .nil none .nil)) none (.node (.node .nil none .nil) none (.node .nil (some IK) .nil)))))) (some ty2) (.node (.node (.node (.node (.node (.node (.node .nil none .nil) none .nil) none (.node .nil (some I7) .nil)) (some PM) (.node (.node (.node .nil none .nil) none .nil) none (.node .nil none .nil))) none (.node (.node (.node (.node .nil none .nil) none .nil) none (.node .nil (some IV) .nil)) none (.node (.node .nil none .nil) (some JD) (.node .nil (some IM) .nil)))) none (.node (.node (.node (.node (.node .nil none .nil) none .nil) none (.node .nil none .nil)) (some PG) (.node (.node (.node .nil none .nil) (some Jd) .nil) none (.node .nil none .nil))) none (.node (.node (.node (.node .nil none .nil) (some Jp) .nil) (some Ph) (.node .nil none .nil)) (some Px) (.node (.node .nil none .nil) (some JA) (.node .nil none .nil))))) none (.node (.node (.node (.node (.node (.node .nil none .nil) none .nil) (some Ps) (.node .nil (some I4) .nil)) none (.node (.node (.node .nil none .nil) none .nil) none (.node .nil (some IQ) .nil))) none (.node (.node (.node (.node .nil none .nil) none .nil) none (.node .nil none .nil)) none (.node (.node .nil none .nil) none (.node .nil none .nil)))) none (.node (.node (.node (.node (.node .nil none .nil) none .nil) none (.node .nil none .nil)) none (.node (.node (.node .nil none .nil) none .nil) none (.node .nil none .nil))) (some PO) (.node (.node (.node (.node .nil none .nil) (some Jm) .nil) (some Pd) (.node .nil none .nil)) none (.node (.node .nil none .nil) none (.node .nil (some II) .nil)))))))),[34,35,39,40,44,45,87,88,122,123,128,129,131,132,139,140,180,181,196,197,199,200,211,212,241,242]⟩
theorem vZ:bR Tryz.prog env:=⟨Gj (.no (.yes te1 (.yes X2 (.no (.no (.yes X0 (.no (.no (.yes P6 (.nil _ _) (.nil _ _)) (.nil _ _)) (.no (.nil _ _) (.nil _ _))) (.yes Xv (.yes QI (.no (.nil _ _) (.nil _ _)) (.nil _ _)) (.no (.nil _ _) (.nil _ _)))) (.yes XS (.yes XI (.no (.no (.nil _ _) (.nil _ _)) (.nil _ _)) (.yes Qk (.nil _ _) (.nil _ _))) (.no (.no (.yes P3 (.nil _ _) (.nil _ _)) (.nil _ _)) (.no (.nil _ _) (.nil _ _))))) (.yes X6 (.yes XX (.no (.yes QR (.no (.nil _ _) (.nil _ _)) (.nil _ _)) (.yes Qp (.nil _ _) (.nil _ _))) (.no (.yes QD (.no (.nil _ _) (.nil _ _)) (.nil _ _)) (.no (.nil _ _) (.nil _ _)))) (.no (.yes XD (.no (.no (.nil _ _) (.nil _ _)) (.nil _ _)) (.no (.nil _ _) (.nil _ _))) (.no (.no (.nil _ _) (.nil _ _)) (.no (.nil _ _) (.nil _ _)))))) (.no (.no (.yes XY (.yes XM (.yes QT (.no (.nil _ _) (.nil _ _)) (.nil _ _)) (.no (.nil _ _) (.nil _ _))) (.no (.yes QG (.no (.nil _ _) (.nil _ _)) (.nil _ _)) (.no (.nil _ _) (.nil _ _)))) (.no (.yes XG (.no (.no (.nil _ _) (.nil _ _)) (.nil _ _)) (.yes Qg (.nil _ _) (.nil _ _))) (.yes QZ (.no (.nil _ _) (.nil _ _)) (.no (.nil _ _) (.nil _ _))))) (.yes X5 (.yes XU (.no (.yes QP (.no (.nil _ _) (.nil _ _)) (.nil _ _)) (.yes Qm (.nil _ _) (.nil _ _))) (.no (.yes Qz (.yes P4 (.nil _ _) (.nil _ _)) (.nil _ _)) (.no (.nil _ _) (.nil _ _)))) (.no (.yes Xz (.yes QL (.no (.nil _ _) (.nil _ _)) (.nil _ _)) (.no (.nil _ _) (.nil _ _))) (.yes QW (.no (.nil _ _) (.nil _ _)) (.yes P_ (.nil _ _) (.nil _ _))))))) (.yes te5 (.yes te9 (.no (.no (.no (.yes QU (.no (.nil _ _) (.nil _ _)) (.nil _ _)) (.yes Qu (.nil _ _) (.nil _ _))) (.no (.no (.no (.nil _ _) (.nil _ _)) (.nil _ _)) (.yes Qe (.nil _ _) (.nil _ _)))) (.yes XQ (.no (.no (.no (.nil _ _) (.nil _ _)) (.nil _ _)) (.yes Qi (.nil _ _) (.nil _ _))) (.yes Q1 (.no (.nil _ _) (.nil _ _)) (.yes Qb (.nil _ _) (.nil _ _))))) (.no (.yes Gk (.no (.no (.no (.nil _ _) (.nil _ _)) (.nil _ _)) (.yes Qn (.nil _ _) (.nil _ _))) (.no (.yes QB (.no (.nil _ _) (.nil _ _)) (.nil _ _)) (.no (.nil _ _) (.nil _ _)))) (.no (.yes XB (.yes QN (.no (.nil _ _) (.nil _ _)) (.nil _ _)) (.no (.nil _ _) (.nil _ _))) (.no (.no (.nil _ _) (.nil _ _)) (.no (.nil _ _) (.nil _ _)))))) (.yes X8 (.yes X7 (.yes Gl (.yes XK (.no (.no (.nil _ _) (.nil _ _)) (.nil _ _)) (.yes Qr (.nil _ _) (.nil _ _))) (.no (.yes QE (.no (.nil _ _) (.nil _ _)) (.nil _ _)) (.no (.nil _ _) (.nil _ _)))) (.yes XP (.yes XE (.no (.no (.nil _ _) (.nil _ _)) (.nil _ _)) (.no (.nil _ _) (.nil _ _))) (.no (.yes Qw (.nil _ _) (.nil _ _)) (.no (.nil _ _) (.nil _ _))))) (.yes X3 (.yes P2 (.no (.no (.no (.nil _ _) (.nil _ _)) (.nil _ _)) (.yes Ql (.nil _ _) (.nil _ _))) (.yes Q2 (.no (.no (.nil _ _) (.nil _ _)) (.nil _ _)) (.yes Qc (.nil _ _) (.nil _ _)))) (.no (.yes Xx (.yes QK (.no (.nil _ _) (.nil _ _)) (.nil _ _)) (.no (.nil _ _) (.nil _ _))) (.no (.no (.nil _ _) (.nil _ _)) (.yes P8 (.nil _ _) (.nil _ _)))))))) (.yes te2 (.yes te4 (.no (.no (.no (.yes XN (.yes QV (.no (.nil _ _) (.nil _ _)) (.nil _ _)) (.yes Qv (.nil _ _) (.nil _ _))) (.yes Xu (.yes QH (.yes P5 (.nil _ _) (.nil _ _)) (.nil _ _)) (.no (.nil _ _) (.nil _ _)))) (.yes XR (.yes XH (.no (.no (.nil _ _) (.nil _ _)) (.nil _ _)) (.yes Qj (.nil _ _) (.nil _ _))) (.no (.no (.nil _ _) (.nil _ _)) (.no (.nil _ _) (.nil _ _))))) (.no (.yes XW (.no (.yes QQ (.no (.nil _ _) (.nil _ _)) (.nil _ _)) (.yes Qo (.nil _ _) (.nil _ _))) (.no (.yes QC (.no (.nil _ _) (.nil _ _)) (.nil _ _)) (.no (.nil _ _) (.nil _ _)))) (.no (.yes XC (.no (.no (.nil _ _) (.nil _ _)) (.nil _ _)) (.no (.nil _ _) (.nil _ _))) (.no (.no (.nil _ _) (.nil _ _)) (.no (.nil _ _) (.nil _ _)))))) (.yes X9 (.no (.no (.yes XL (.yes QS (.no (.nil _ _) (.nil _ _)) (.nil _ _)) (.yes Qs (.nil _ _) (.nil _ _))) (.no (.yes QF (.no (.nil _ _) (.nil _ _)) (.nil _ _)) (.no (.nil _ _) (.nil _ _)))) (.no (.yes XF (.no (.no (.nil _ _) (.nil _ _)) (.nil _ _)) (.yes Qf (.nil _ _) (.nil _ _))) (.yes QY (.yes Qx (.nil _ _) (.nil _ _)) (.no (.nil _ _) (.nil _ _))))) (.yes X4 (.yes XT (.no (.yes QO (.no (.nil _ _) (.nil _ _)) (.nil _ _)) (.no (.nil _ _) (.nil _ _))) (.no (.yes Qy (.no (.nil _ _) (.nil _ _)) (.nil _ _)) (.no (.nil _ _) (.nil _ _)))) (.no (.yes Xy (.no (.no (.nil _ _) (.nil _ _)) (.nil _ _)) (.no (.nil _ _) (.nil _ _))) (.no (.no (.nil _ _) (.nil _ _)) (.yes P9 (.nil _ _) (.nil _ _))))))) (.no (.no (.no (.yes XZ (.no (.no (.no (.nil _ _) (.nil _ _)) (.nil _ _)) (.yes Qt (.nil _ _) (.nil _ _))) (.no (.no (.no (.nil _ _) (.nil _ _)) (.nil _ _)) (.no (.nil _ _) (.nil _ _)))) (.no (.no (.no (.no (.nil _ _) (.nil _ _)) (.nil _ _)) (.yes Qh (.nil _ _) (.nil _ _))) (.yes Q0 (.no (.nil _ _) (.nil _ _)) (.yes Qa (.nil _ _) (.nil _ _))))) (.no (.yes XV (.no (.no (.no (.nil _ _) (.nil _ _)) (.nil _ _)) (.no (.nil _ _) (.nil _ _))) (.no (.yes QA (.no (.nil _ _) (.nil _ _)) (.nil _ _)) (.no (.nil _ _) (.nil _ _)))) (.yes XO (.yes XA (.yes QM (.no (.nil _ _) (.nil _ _)) (.nil _ _)) (.no (.nil _ _) (.nil _ _))) (.yes QX (.no (.nil _ _) (.nil _ _)) (.no (.nil _ _) (.nil _ _)))))) (.no (.no (.no (.yes XJ (.no (.no (.nil _ _) (.nil _ _)) (.nil _ _)) (.yes Qq (.nil _ _) (.nil _ _))) (.no (.no (.no (.nil _ _) (.nil _ _)) (.nil _ _)) (.yes Qd (.nil _ _) (.nil _ _)))) (.no (.no (.no (.no (.nil _ _) (.nil _ _)) (.nil _ _)) (.no (.nil _ _) (.nil _ _))) (.no (.no (.nil _ _) (.nil _ _)) (.no (.nil _ _) (.nil _ _))))) (.yes X1 (.no (.no (.no (.no (.nil _ _) (.nil _ _)) (.nil _ _)) (.no (.nil _ _) (.nil _ _))) (.no (.no (.no (.nil _ _) (.nil _ _)) (.nil _ _)) (.no (.nil _ _) (.nil _ _)))) (.no (.yes Xw (.yes QJ (.no (.nil _ _) (.nil _ _)) (.nil _ _)) (.no (.nil _ _) (.nil _ _))) (.no (.no (.nil _ _) (.nil _ _)) (.yes P7 (.nil _ _) (.nil _ _))))))))),My (.cons aaW (.cons aaV (.cons aaU (.cons aaT (.cons aaS (.cons aaR (.cons aaQ (.cons aaP (.cons Vp (.cons Vo (.cons Vn (.cons Vm (.cons Vl (.cons Vk (.cons Vj (.cons Vi (.cons Vh (.cons Vg (.cons Vf (.cons Ve (.cons Vd (.cons Vc (.cons Vb (.cons Va (.cons U_ (.cons UZ (.nil))))))))))))))))))))))))))),by kernel_rfl⟩
def homes:List (Nat×Nat):=[(70,10),(85,0),(96,6),(160,11),(169,1),(172,3),(252,12),(255,14)]
open Go.Bm
set_option maxRecDepth 100000
def x4:ay:=comp (au Tryz.f4) (.n none .o (.n none .o (.n none .o (.n none .o (.n none .o (.n none (.n none .o (.n none (.n (some ⟨[(8,false,(.int .i64)),(9,false,(.int .i64))],[(6,(.aI (.pair (.int .u8) (.pair (.int .u8) (.pair (.int .u8) (.pair (.int .u8) (.pair (.int .i64) (.pair (.int .i64) (.int .i64)))))))))],[],[((7,none),[(false,(.int .i64)),(false,(.int .i64)),(false,(.int .i64)),(false,(.int .i64))])],[],[]⟩) (.n none .o (.n none (.n none (.n (some ⟨[],[],[],[((7,none),[(false,(.int .i64)),(false,(.int .i64)),(false,(.int .i64)),(false,(.int .i64))])],[],[]⟩) .o (.n (some ⟨[(8,false,(.int .i64))],[],[],[],[],[]⟩) .o .o)) .o) .o)) .o) .o)) (.n none .o (.n (some ⟨[],[],[],[],[],[]⟩) .o (.n none .o (.n none .o (.n none .o (.n (some ⟨[],[],[],[],[],[]⟩) .o (.n none .o (.n none (.n none (.n (some ⟨[(16,false,(.int .i64))],[],[],[((7,none),[(false,(.int .i64)),(false,(.int .i64)),(false,(.int .i64)),(false,(.int .i64))])],[],[]⟩) (.n none .o (.n none (.n none .o (.n none (.n (some ⟨[(16,false,(.int .i64)),(17,false,(.int .i64))],[],[],[((7,none),[(false,(.int .i64)),(false,(.int .i64)),(false,(.int .i64)),(false,(.int .i64))])],[],[]⟩) (.n (some ⟨[],[],[],[],[],[]⟩) .o (.n none (.n none (.n (some ⟨[],[],[],[],[],[]⟩) .o (.n (some ⟨[],[],[],[],[],[]⟩) .o .o)) .o) .o)) .o) .o)) .o)) .o) .o) .o))))))))))))))
def x9:ay:=comp (au Tryz.f9) (.n none .o (.n none .o (.n none .o (.n (some ⟨[],[],[],[],[],[]⟩) .o .o))))
def wE:ay:=comp (au Tryz.f10) .o
def wD:ay:=comp (au Tryz.f11) (.n none .o (.n none .o (.n (some ⟨[],[],[],[],[],[]⟩) .o (.n none .o (.n none .o (.n none (.n none .o (.n none (.n (some ⟨[(50,false,(.int .i64))],[],[],[],[],[(0,R0),(9,R9)]⟩) .o .o) .o)) (.n none (.n none .o (.n none (.n (some ⟨[(68,false,(.int .i64))],[],[],[],[],[(0,R0),(5,R5),(6,R6),(8,R8)]⟩) (.n none .o (.n none .o (.n none (.n none (.n none .o (.n none .o (.n (some ⟨[],[],[],[],[],[(6,R6)]⟩) .o .o))) .o) .o))) .o) .o)) .o)))))))
def Ak:ay:=comp (au Tryz.f13) (.n none .o (.n (some ⟨[],[(3,(.pair (.int .i64) (.pair (.pair (.int .u8) (.pair (.int .u8) (.pair (.int .u8) (.pair (.int .u8) (.pair (.int .i64) (.pair (.int .i64) (.int .i64))))))) (.pair (.int .i64) (.pair (.int .i64) (.pair (.int .i64) (.pair (.int .i64) (.pair (.int .i64) (.aI (.int .i64))))))))))],[],[],[],[]⟩) .o (.n none (.n none .o (.n none (.n (some ⟨[(12,false,(.int .i64))],[(3,(.pair (.int .i64) (.pair (.pair (.int .u8) (.pair (.int .u8) (.pair (.int .u8) (.pair (.int .u8) (.pair (.int .i64) (.pair (.int .i64) (.int .i64))))))) (.pair (.int .i64) (.pair (.int .i64) (.pair (.int .i64) (.pair (.int .i64) (.pair (.int .i64) (.aI (.int .i64))))))))))],[],[],[],[]⟩) .o .o) .o)) .o)))
def uL:ay:=comp (au Tryz.f17) (.n none .o (.n none (.n none .o (.n none .o (.n none (.n none .o (.n none (.n (some ⟨[(11,false,(.int .i64))],[(3,(.int .i64))],[],[],[],[]⟩) .o .o) .o)) .o))) .o))
def uK:ay:=comp (au Tryz.f18) (.n none .o (.n none .o (.n none .o (.n none .o (.n (some ⟨[],[],[],[],[],[(0,R0),(6,R6),(7,R7)]⟩) .o (.n (some ⟨[],[],[],[],[],[(1,R1),(2,R2),(3,R3),(4,R4),(6,R6),(9,R9)]⟩) .o (.n none .o (.n (some ⟨[],[],[],[],[],[(7,R7)]⟩) .o (.n (some ⟨[],[],[],[],[],[(6,R6),(7,R7),(8,R8)]⟩) .o .o)))))))))
def Aj:ay:=comp (au Tryz.f26) .o
def Ai:ay:=comp (au Tryz.f27) .o
def Ah:ay:=comp (au Tryz.f28) (.n none .o (.n none .o (.n none (.n none .o (.n none (.n (some ⟨[(11,false,(.int .i64))],[],[],[],[],[]⟩) (.n none .o (.n none .o (.n none (.n none (.n none .o (.n none (.n none .o (.n none (.n (some ⟨[(17,false,(.int .i64))],[],[],[],[],[]⟩) .o .o) .o)) .o)) .o) .o))) .o) .o)) .o)))
def Ag:ay:=comp (au Tryz.f29) .o
def Af:ay:=comp (au Tryz.f30) .o
def Ae:ay:=comp (au Tryz.f31) .o
def Ad:ay:=comp (au Tryz.f32) .o
def Ac:ay:=comp (au Tryz.f35) .o
def Ab:ay:=comp (au Tryz.f36) .o
def Aa:ay:=comp (au Tryz.f37) .o
def z_:ay:=comp (au Tryz.f38) .o
def x39:ay:=comp (au Tryz.f39) .o
def x40:ay:=comp (au Tryz.f40) .o
def x41:ay:=comp (au Tryz.f41) (.n none .o (.n none .o (.n none .o (.n none .o (.n none .o (.n none .o (.n none (.n none .o (.n none .o (.n (some ⟨[(36,false,.bool)],[],[],[],[],[]⟩) .o .o))) .o)))))))
def x46:ay:=comp (au Tryz.f46) .o
def x47:ay:=comp (au Tryz.f47) (.n none .o (.n none (.n none .o (.n none (.n (some ⟨[(8,false,(.int .i64))],[],[],[],[],[]⟩) .o .o) .o)) .o))
def x48:ay:=comp (au Tryz.f48) .o
def x49:ay:=comp (au Tryz.f49) .o
def x50:ay:=comp (au Tryz.f50) .o
def x51:ay:=comp (au Tryz.f51) (.n none .o (.n (some ⟨[],[],[],[],[],[]⟩) .o .o))
def x52:ay:=comp (au Tryz.f52) .o
def x53:ay:=comp (au Tryz.f53) .o
def x54:ay:=comp (au Tryz.f54) .o
def x55:ay:=comp (au Tryz.f55) .o
def x56:ay:=comp (au Tryz.f56) .o
def x57:ay:=comp (au Tryz.f57) .o
def x58:ay:=comp (au Tryz.f58) (.n none .o (.n none .o (.n none .o (.n none .o (.n none .o (.n none .o (.n none (.n none .o (.n none (.n none .o (.n none .o (.n none .o (.n none .o (.n none .o (.n none .o (.n none .o (.n none .o (.n none .o (.n none .o (.n none .o (.n none .o (.n none .o (.n none .o (.n none .o (.n none .o (.n none .o (.n none .o (.n none .o (.n none .o (.n none .o (.n none .o (.n none .o (.n none (.n (some ⟨[(13,false,(.int .i64))],[],[],[],[],[]⟩) .o .o) .o)))))))))))))))))))))))) .o)) .o)))))))
def x59:ay:=comp (au Tryz.f59) (.n none .o (.n none (.n none .o (.n none (.n (some ⟨[(6,false,.bool)],[],[],[],[],[]⟩) .o (.n none .o (.n none .o (.n none .o (.n none .o (.n none .o (.n (some ⟨[(22,false,.bool)],[],[],[],[],[]⟩) .o .o))))))) .o)) .o))
def x60:ay:=comp (au Tryz.f60) .o
def x61:ay:=comp (au Tryz.f61) (.n none .o (.n (some ⟨[],[],[],[((8,none),[(false,(.int .u8)),(false,(.int .u8)),(false,(.int .u8)),(false,(.int .u8)),(false,(.int .i64)),(false,(.int .i64)),(false,(.int .i64)),(false,(.int .i64)),(false,(.int .i64)),(false,(.int .u64)),(false,(.int .u64)),(false,(.aI (.pair (.int .i64) .bool))),(false,(.int .u64)),(false,(.int .u64)),(false,(.int .i64)),(false,(.int .i64)),(false,(.aI (.int .i64))),(false,(.int .i64)),(false,(.aI (.int .i64))),(false,(.int .i64)),(false,.bool),(false,.bool),(false,.bool),(false,(.int .i64)),(false,(.int .i64)),(false,(.aI (.int .i64)))])],[],[]⟩) .o (.n none .o (.n none (.n none .o (.n none (.n (some ⟨[(42,false,(.int .i64))],[],[],[((8,none),[(false,(.int .u8)),(false,(.int .u8)),(false,(.int .u8)),(false,(.int .u8)),(false,(.int .i64)),(false,(.int .i64)),(false,(.int .i64)),(false,(.int .i64)),(false,(.int .i64)),(false,(.int .u64)),(false,(.int .u64)),(false,(.aI (.pair (.int .i64) .bool))),(false,(.int .u64)),(false,(.int .u64)),(false,(.int .i64)),(false,(.int .i64)),(false,(.aI (.int .i64))),(false,(.int .i64)),(false,(.aI (.int .i64))),(false,(.int .i64)),(false,.bool),(false,.bool),(false,.bool),(false,(.int .i64)),(false,(.int .i64)),(false,(.aI (.int .i64)))])],[],[(2,R2),(3,R3),(4,R4)]⟩) .o .o) .o)) .o))))
def x62:ay:=comp (au Tryz.f62) (.n none .o (.n none .o (.n none .o (.n (some ⟨[],[],[],[((6,none),[(false,(.int .u8)),(false,(.int .u8)),(false,(.int .u8)),(false,(.int .u8)),(false,(.int .i64)),(false,(.int .i64)),(false,(.int .i64)),(false,(.int .i64)),(false,(.int .i64)),(false,(.int .u64)),(false,(.int .u64)),(false,(.aI (.pair (.int .i64) .bool))),(false,(.int .u64)),(false,(.int .u64)),(false,(.int .i64)),(false,(.int .i64)),(false,(.aI (.int .i64))),(false,(.int .i64)),(false,(.aI (.int .i64))),(false,(.int .i64)),(false,.bool),(false,.bool),(false,.bool),(false,(.int .i64)),(false,(.int .i64)),(false,(.aI (.int .i64)))])],[],[]⟩) .o .o))))
def x63:ay:=comp (au Tryz.f63) (.n none .o (.n none .o (.n none .o (.n none .o (.n none .o (.n (some ⟨[],[],[],[((6,none),[(false,(.int .u8)),(false,(.int .u8)),(false,(.int .u8)),(false,(.int .u8)),(false,(.int .i64)),(false,(.int .i64)),(false,(.int .i64)),(false,(.int .i64)),(false,(.int .i64)),(false,(.int .u64)),(false,(.int .u64)),(false,(.aI (.pair (.int .i64) .bool))),(false,(.int .u64)),(false,(.int .u64)),(false,(.int .i64)),(false,(.int .i64)),(false,(.aI (.int .i64))),(false,(.int .i64)),(false,(.aI (.int .i64))),(false,(.int .i64)),(false,.bool),(false,.bool),(false,.bool),(false,(.int .i64)),(false,(.int .i64)),(false,(.aI (.int .i64)))])],[],[]⟩) .o .o))))))
def x64:ay:=comp (au Tryz.f64) (.n none .o (.n none .o (.n (some ⟨[],[],[],[((8,none),[(false,(.int .u8)),(false,(.int .u8)),(false,(.int .u8)),(false,(.int .u8)),(false,(.int .i64)),(false,(.int .i64)),(false,(.int .i64)),(false,(.int .i64)),(false,(.int .i64)),(false,(.int .u64)),(false,(.int .u64)),(false,(.aI (.pair (.int .i64) .bool))),(false,(.int .u64)),(false,(.int .u64)),(false,(.int .i64)),(false,(.int .i64)),(false,(.aI (.int .i64))),(false,(.int .i64)),(false,(.aI (.int .i64))),(false,(.int .i64)),(false,.bool),(false,.bool),(false,.bool),(false,(.int .i64)),(false,(.int .i64)),(false,(.aI (.int .i64)))])],[],[]⟩) .o .o)))
def x65:ay:=comp (au Tryz.f65) (.n none .o (.n (some ⟨[],[],[],[((6,none),[(false,(.int .u8)),(false,(.int .u8)),(false,(.int .u8)),(false,(.int .u8)),(false,(.int .i64)),(false,(.int .i64)),(false,(.int .i64)),(false,(.int .i64)),(false,(.int .i64)),(false,(.int .u64)),(false,(.int .u64)),(false,(.aI (.pair (.int .i64) .bool))),(false,(.int .u64)),(false,(.int .u64)),(false,(.int .i64)),(false,(.int .i64)),(false,(.aI (.int .i64))),(false,(.int .i64)),(false,(.aI (.int .i64))),(false,(.int .i64)),(false,.bool),(false,.bool),(false,.bool),(false,(.int .i64)),(false,(.int .i64)),(false,(.aI (.int .i64)))])],[],[]⟩) .o (.n none .o (.n (some ⟨[],[],[],[((8,none),[(false,(.int .i64)),(false,(.int .i64)),(false,(.int .i64)),(false,(.int .i64)),(false,(.ptr 1)),(false,(.int .u8)),(false,(.int .u8)),(false,(.int .u8)),(false,(.int .u8)),(false,(.int .i64)),(false,(.int .i64)),(false,(.int .i64)),(false,(.int .i64)),(false,(.int .i64)),(false,(.int .u64)),(false,(.int .u64)),(false,(.aI (.pair (.int .i64) .bool))),(false,(.int .u64)),(false,(.int .u64)),(false,(.int .i64)),(false,(.int .i64)),(false,(.aI (.int .i64))),(false,(.int .i64)),(false,(.aI (.int .i64))),(false,(.int .i64)),(false,.bool),(false,.bool),(false,.bool),(false,(.int .i64)),(false,(.int .i64)),(false,(.aI (.int .i64))),(false,(.int .i64))]),((6,none),[(false,(.int .u8)),(false,(.int .u8)),(false,(.int .u8)),(false,(.int .u8)),(false,(.int .i64)),(false,(.int .i64)),(false,(.int .i64)),(false,(.int .i64)),(false,(.int .i64)),(false,(.int .u64)),(false,(.int .u64)),(false,(.aI (.pair (.int .i64) .bool))),(false,(.int .u64)),(false,(.int .u64)),(false,(.int .i64)),(false,(.int .i64)),(false,(.aI (.int .i64))),(false,(.int .i64)),(false,(.aI (.int .i64))),(false,(.int .i64)),(false,.bool),(false,.bool),(false,.bool),(false,(.int .i64)),(false,(.int .i64)),(false,(.aI (.int .i64)))])],[],[(2,R2)]⟩) (.n none .o (.n none (.n none .o (.n none .o (.n none .o (.n none .o (.n none .o (.n none .o (.n none .o (.n none .o (.n (some ⟨[(9,false,(.int .i64))],[],[],[],[],[(2,R2)]⟩) .o .o))))))))) .o)) .o))))
def x66:ay:=comp (au Tryz.f66) .o
def x67:ay:=comp (au Tryz.f67) .o
def x68:ay:=comp (au Tryz.f68) .o
def x74:ay:=comp (au Tryz.f74) .o
def x75:ay:=comp (au Tryz.f75) (.n none .o (.n (some ⟨[(8,false,.bool)],[],[],[],[],[]⟩) .o .o))
def x76:ay:=comp (au Tryz.f76) .o
def x77:ay:=comp (au Tryz.f77) (.n none .o (.n (some ⟨[(10,false,.bool)],[],[],[],[],[]⟩) .o .o))
def x78:ay:=comp (au Tryz.f78) (.n none .o (.n (some ⟨[(19,false,.bool)],[],[],[],[],[]⟩) .o .o))
def x79:ay:=comp (au Tryz.f79) .o
def x80:ay:=comp (au Tryz.f80) .o
def x81:ay:=comp (au Tryz.f81) (.n none .o (.n none (.n none (.n (some ⟨[(8,false,.bool)],[],[],[],[],[]⟩) .o .o) .o) .o))
def x82:ay:=comp (au Tryz.f82) (.n none .o (.n none .o (.n none (.n none .o (.n none (.n (some ⟨[(12,false,(.int .i64))],[],[],[],[],[(2,R2)]⟩) .o .o) .o)) .o)))
def x83:ay:=comp (au Tryz.f83) .o
def x84:ay:=comp (au Tryz.f84) .o
def x85:ay:=comp (au Tryz.f85) .o
def x86:ay:=comp (au Tryz.f86) .o
def x87:ay:=comp (au Tryz.f87) .o
def x88:ay:=comp (au Tryz.f88) .o
def x89:ay:=comp (au Tryz.f89) (.n none .o (.n none .o (.n none (.n none (.n (some ⟨[(15,false,.bool)],[],[],[],[],[]⟩) .o .o) .o) .o)))
def x90:ay:=comp (au Tryz.f90) .o
def x91:ay:=comp (au Tryz.f91) (.n none .o (.n none (.n none .o (.n none (.n (some ⟨[(7,false,(.int .i64))],[],[],[],[],[]⟩) .o .o) .o)) .o))
def x92:ay:=comp (au Tryz.f92) (.n none .o (.n (some ⟨[],[],[],[],[],[]⟩) .o .o))
def x93:ay:=comp (au Tryz.f93) .o
def x94:ay:=comp (au Tryz.f94) .o
def x95:ay:=comp (au Tryz.f95) .o
def x96:ay:=comp (au Tryz.f96) (.n none .o (.n (some ⟨[],[],[],[],[],[]⟩) .o (.n (some ⟨[(6,false,(.int .i64))],[],[],[],[],[]⟩) .o .o)))
def x97:ay:=comp (au Tryz.f97) .o
def x98:ay:=comp (au Tryz.f98) .o
def x99:ay:=comp (au Tryz.f99) .o
def O8:ay:=comp (au Tryz.f100) .o
def O7:ay:=comp (au Tryz.f101) .o
def O6:ay:=comp (au Tryz.f102) .o
def O5:ay:=comp (au Tryz.f103) .o
def O4:ay:=comp (au Tryz.f104) .o
def O3:ay:=comp (au Tryz.f105) .o
def O2:ay:=comp (au Tryz.f106) (.n none .o (.n (some ⟨[],[],[],[((0,none),[(false,(.int .i64)),(false,(.int .i64)),(false,(.int .i64)),(false,(.int .i64)),(false,(.ptr 1)),(false,(.int .u8)),(false,(.int .u8)),(false,(.int .u8)),(false,(.int .u8)),(false,(.int .i64)),(false,(.int .i64)),(false,(.int .i64)),(false,(.int .i64)),(false,(.int .i64)),(false,(.int .u64)),(false,(.int .u64)),(false,(.aI (.pair (.int .i64) .bool))),(false,(.int .u64)),(false,(.int .u64)),(false,(.int .i64)),(false,(.int .i64)),(false,(.aI (.int .i64))),(false,(.int .i64)),(false,(.aI (.int .i64))),(false,(.int .i64)),(false,.bool),(false,.bool),(false,.bool),(false,(.int .i64)),(false,(.int .i64)),(false,(.aI (.int .i64))),(false,(.int .i64))])],[],[]⟩) .o (.n none .o (.n (some ⟨[(4,false,(.int .i64)),(5,false,(.int .i64))],[],[],[],[],[]⟩) .o .o))))
def O1:ay:=comp (au Tryz.f107) (.n none .o (.n none .o (.n none (.n none .o (.n none (.n (some ⟨[(3,false,(.int .i64))],[],[],[],[],[]⟩) (.n none (.n none (.n none (.n (some ⟨[(3,false,(.int .i64))],[],[],[],[],[]⟩) .o .o) .o) .o) .o) .o) .o)) .o)))
def O0:ay:=comp (au Tryz.f108) .o
def OZ:ay:=comp (au Tryz.f124) .o
def OY:ay:=comp (au Tryz.f125) .o
def OX:ay:=comp (au Tryz.f126) .o
def OW:ay:=comp (au Tryz.f127) .o
def OV:ay:=comp (au Tryz.f128) .o
def OU:ay:=comp (au Tryz.f129) .o
def OT:ay:=comp (au Tryz.f130) .o
def OS:ay:=comp (au Tryz.f131) .o
def OR:ay:=comp (au Tryz.f132) .o
def OQ:ay:=comp (au Tryz.f133) (.n none .o (.n (some ⟨[],[],[],[],[],[]⟩) .o (.n (some ⟨[(7,false,(.int .i64))],[],[],[],[],[]⟩) .o (.n (some ⟨[(7,false,(.int .i64))],[],[],[],[],[]⟩) .o (.n (some ⟨[],[],[],[],[],[]⟩) .o (.n none .o (.n none .o (.n none .o (.n none (.n none .o (.n none (.n (some ⟨[(107,false,(.int .i64))],[],[],[],[],[(3,R3),(4,R4)]⟩) (.n none .o (.n none .o (.n none (.n none (.n none .o (.n none .o (.n none (.n (some ⟨[(140,false,.bool)],[],[],[],[],[]⟩) .o .o) .o))) .o) .o))) .o) .o)) .o)))))))))
def OP:ay:=comp (au Tryz.f134) .o
def OO:ay:=comp (au Tryz.f135) (.n none .o (.n none .o (.n none .o (.n none (.n none .o (.n none (.n (some ⟨[(6,false,(.int .u64)),(12,false,(.int .i64))],[],[],[],[],[]⟩) .o .o) .o)) .o))))
def ON:ay:=comp (au Tryz.f136) .o
def OM:ay:=comp (au Tryz.f137) .o
def OL:ay:=comp (au Tryz.f138) (.n none .o (.n none (.n none .o (.n none (.n (some ⟨[(8,false,(.int .i64))],[],[],[],[],[]⟩) .o .o) .o)) .o))
def OK:ay:=comp (au Tryz.f139) .o
def OJ:ay:=comp (au Tryz.f140) .o
def OI:ay:=comp (au Tryz.f141) .o
def OH:ay:=comp (au Tryz.f142) (.n none .o (.n none .o (.n none .o (.n (some ⟨[(5,false,(.int .u64))],[],[],[],[],[]⟩) .o .o))))
def OG:ay:=comp (au Tryz.f143) (.n none .o (.n none .o (.n (some ⟨[],[],[],[],[],[]⟩) (.n none (.n none .o (.n none .o (.n (some ⟨[(30,false,.bool)],[],[],[],[],[]⟩) .o .o))) .o) (.n none .o (.n (some ⟨[],[],[],[],[],[]⟩) .o .o)))))
def OF:ay:=comp (au Tryz.f144) (.n none .o (.n (some ⟨[],[],[],[],[],[]⟩) .o .o))
def OE:ay:=comp (au Tryz.f145) (.n none .o (.n (some ⟨[],[],[],[((2,none),[(false,(.int .i64)),(false,(.int .i64)),(false,(.int .i64)),(false,(.int .i64))]),((4,none),[(false,(.int .i64)),(false,(.int .i64)),(false,(.int .i64)),(false,(.int .i64))])],[],[]⟩) (.n none (.n (some ⟨[(6,false,.bool)],[],[],[],[],[]⟩) .o .o) .o) .o))
def OD:ay:=comp (au Tryz.f146) .o
def OC:ay:=comp (au Tryz.f147) .o
def OB:ay:=comp (au Tryz.f148) .o
def OA:ay:=comp (au Tryz.f149) .o
def Oz:ay:=comp (au Tryz.f150) .o
def Oy:ay:=comp (au Tryz.f151) .o
def Ox:ay:=comp (au Tryz.f152) (.n none .o (.n none .o (.n none .o (.n none .o (.n none (.n none .o (.n none (.n (some ⟨[(46,false,(.int .i64))],[(5,(.int .i64)),(6,(.int .u64))],[],[],[],[(1,R1)]⟩) .o .o) .o)) (.n none .o (.n none .o (.n none (.n none .o (.n none (.n (some ⟨[(100,false,(.int .i64))],[],[],[],[],[(1,R1),(2,R2)]⟩) .o .o) .o)) (.n (some ⟨[],[],[],[((0,none),[(false,(.int .i64)),(false,(.int .i64)),(false,(.int .i64)),(false,(.int .i64)),(false,(.iX 9 1)),(false,(.ptr 1)),(false,(.int .u8)),(false,(.int .u8)),(false,(.int .u8)),(false,(.int .u8)),(false,(.int .i64)),(false,(.int .i64)),(false,(.int .i64)),(false,(.int .i64)),(false,(.int .i64)),(false,(.int .u64)),(false,(.int .u64)),(false,(.aI (.pair (.int .i64) .bool))),(false,(.int .u64)),(false,(.int .u64)),(false,(.int .i64)),(false,(.int .i64)),(false,(.aI (.int .i64))),(false,(.int .i64)),(false,(.aI (.int .i64))),(false,(.int .i64)),(false,.bool),(false,.bool),(false,.bool),(false,(.int .i64)),(false,(.int .i64)),(false,(.aI (.int .i64)))])],[],[]⟩) .o .o)))))))))
def Ow:ay:=comp (au Tryz.f153) .o
def Ov:ay:=comp (au Tryz.f154) .o
def Ou:ay:=comp (au Tryz.f155) .o
def Ot:ay:=comp (au Tryz.f156) .o
def Oq:ay:=comp (au Tryz.f157) .o
def Oo:ay:=comp (au Tryz.f158) .o
def On:ay:=comp (au Tryz.f159) .o
def Om:ay:=comp (au Tryz.f160) (.n none .o (.n none .o (.n (some ⟨[],[],[],[],[],[]⟩) .o .o)))
def Ol:ay:=comp (au Tryz.f161) (.n none .o (.n none .o (.n none (.n none .o (.n none (.n (some ⟨[(2,false,(.int .i64)),(9,false,(.int .i64))],[],[],[],[],[]⟩) .o .o) .o)) .o)))
def Oj:ay:=comp (au Tryz.f198) (.n none .o (.n none (.n none .o (.n none (.n (some ⟨[(8,false,(.int .i64))],[],[],[],[],[]⟩) .o .o) .o)) .o))
def Oi:ay:=comp (au Tryz.f199) (.n none .o (.n none (.n none .o (.n none (.n (some ⟨[(4,false,.bool)],[],[],[],[],[]⟩) .o .o) .o)) .o))
def Oh:ay:=comp (au Tryz.f200) (.n none .o (.n none (.n none .o (.n none (.n (some ⟨[(8,false,(.int .i64))],[],[],[],[],[]⟩) .o .o) .o)) .o))
def Og:ay:=comp (au Tryz.f201) (.n none .o (.n none (.n none .o (.n none (.n (some ⟨[(8,false,(.int .i64))],[],[],[],[],[]⟩) .o .o) .o)) .o))
def Of:ay:=comp (au Tryz.f202) .o
def Oe:ay:=comp (au Tryz.f203) .o
def Od:ay:=comp (au Tryz.f204) .o
def Oc:ay:=comp (au Tryz.f205) .o
def Oa:ay:=comp (au Tryz.f206) .o
def N_:ay:=comp (au Tryz.f207) .o
def N9:ay:=comp (au Tryz.f208) .o
def N8:ay:=comp (au Tryz.f209) .o
def N7:ay:=comp (au Tryz.f210) .o
def N6:ay:=comp (au Tryz.f211) (.n none .o (.n none .o (.n none .o (.n none .o (.n (some ⟨[],[],[],[((10,none),[(true,(.int .u64)),(true,(.int .i64)),(false,.bool),(false,(.int .i64))])],[],[]⟩) .o .o)))))
def N5:ay:=comp (au Tryz.f212) (.n none .o (.n none .o (.n none (.n none .o (.n none (.n (some ⟨[(3,false,(.int .i64)),(11,false,(.int .i64))],[],[],[],[],[]⟩) .o .o) .o)) (.n (some ⟨[],[(6,(.int .i64))],[],[],[],[]⟩) .o (.n none (.n none .o (.n none (.n (some ⟨[(27,false,(.int .i64))],[(6,(.int .i64))],[],[],[],[]⟩) .o .o) .o)) .o)))))
def N4:ay:=comp (au Tryz.f213) .o
def N3:ay:=comp (au Tryz.f214) .o
def N2:ay:=comp (au Tryz.f215) (.n none .o (.n (some ⟨[],[],[],[((6,none),[(false,(.int .i64)),(false,(.int .i64)),(false,(.int .i64)),(false,(.int .i64))])],[],[]⟩) .o .o))
def N1:ay:=comp (au Tryz.f216) .o
def N0:ay:=comp (au Tryz.f217) .o
def NZ:ay:=comp (au Tryz.f218) .o
def NY:ay:=comp (au Tryz.f219) .o
def NX:ay:=comp (au Tryz.f220) .o
def NW:ay:=comp (au Tryz.f234) .o
def NV:ay:=comp (au Tryz.f235) .o
def NU:ay:=comp (au Tryz.f236) .o
def NT:ay:=comp (au Tryz.f237) (.n none .o (.n (some ⟨[],[],[],[],[],[]⟩) .o .o))
def NS:ay:=comp (au Tryz.f242) .o
def fnT:Tr (Func×ay):=(.node (.node (.node (.node (.node (.node (.node (.node .nil (some (Tryz.f127,OW)) .nil) (some (Tryz.f63,x63)) .nil) (some (Tryz.f31,Ae)) (.node (.node .nil (some (Tryz.f159,On)) .nil) (some (Tryz.f95,x95)) .nil)) none (.node (.node (.node .nil (some (Tryz.f143,OG)) .nil) (some (Tryz.f79,x79)) (.node .nil (some (Tryz.f207,N_)) .nil)) (some (Tryz.f47,x47)) .nil)) none (.node (.node (.node (.node .nil (some (Tryz.f135,OO)) .nil) none (.node .nil (some (Tryz.f199,Oi)) .nil)) (some (Tryz.f39,x39)) (.node .nil (some (Tryz.f103,O5)) .nil)) none (.node (.node (.node .nil (some (Tryz.f151,Oy)) .nil) (some (Tryz.f87,x87)) (.node .nil (some (Tryz.f215,N2)) .nil)) (some (Tryz.f55,x55)) .nil))) none (.node (.node (.node (.node (.node .nil (some (Tryz.f131,OS)) .nil) (some (Tryz.f67,x67)) .nil) (some (Tryz.f35,Ac)) (.node .nil (some (Tryz.f99,x99)) .nil)) none (.node (.node (.node .nil (some (Tryz.f147,OC)) .nil) (some (Tryz.f83,x83)) (.node .nil (some (Tryz.f211,N6)) .nil)) (some (Tryz.f51,x51)) .nil)) (some (Tryz.f11,wD)) (.node (.node (.node (.node .nil (some (Tryz.f139,OK)) .nil) (some (Tryz.f75,x75)) (.node .nil (some (Tryz.f203,Oe)) .nil)) none (.node .nil (some (Tryz.f107,O1)) (.node .nil (some (Tryz.f235,NV)) .nil))) (some (Tryz.f27,Ai)) (.node (.node (.node .nil (some (Tryz.f155,Ou)) .nil) (some (Tryz.f91,x91)) (.node .nil (some (Tryz.f219,NY)) .nil)) (some (Tryz.f59,x59)) .nil)))) none (.node (.node (.node (.node (.node (.node .nil (some (Tryz.f129,OU)) .nil) (some (Tryz.f65,x65)) .nil) none (.node (.node .nil (some (Tryz.f161,Ol)) .nil) (some (Tryz.f97,x97)) .nil)) (some (Tryz.f17,uL)) (.node (.node (.node .nil (some (Tryz.f145,OE)) .nil) (some (Tryz.f81,x81)) (.node .nil (some (Tryz.f209,N8)) .nil)) (some (Tryz.f49,x49)) .nil)) (some (Tryz.f9,x9)) (.node (.node (.node (.node .nil (some (Tryz.f137,OM)) .nil) none (.node .nil (some (Tryz.f201,Og)) .nil)) (some (Tryz.f41,x41)) (.node .nil (some (Tryz.f105,O3)) .nil)) none (.node (.node (.node .nil (some (Tryz.f153,Ow)) .nil) (some (Tryz.f89,x89)) (.node .nil (some (Tryz.f217,N0)) .nil)) (some (Tryz.f57,x57)) .nil))) none (.node (.node (.node (.node (.node .nil (some (Tryz.f133,OQ)) .nil) none .nil) (some (Tryz.f37,Aa)) (.node .nil (some (Tryz.f101,O7)) .nil)) none (.node (.node (.node .nil (some (Tryz.f149,OA)) .nil) (some (Tryz.f85,x85)) (.node .nil (some (Tryz.f213,N4)) .nil)) (some (Tryz.f53,x53)) .nil)) (some (Tryz.f13,Ak)) (.node (.node (.node (.node .nil (some (Tryz.f141,OI)) .nil) (some (Tryz.f77,x77)) (.node .nil (some (Tryz.f205,Oc)) .nil)) none (.node .nil none (.node .nil (some (Tryz.f237,NT)) .nil))) (some (Tryz.f29,Ag)) (.node (.node (.node .nil (some (Tryz.f157,Oq)) .nil) (some (Tryz.f93,x93)) .nil) (some (Tryz.f61,x61)) (.node .nil (some (Tryz.f125,OY)) .nil)))))) none (.node (.node (.node (.node (.node (.node (.node .nil (some (Tryz.f128,OV)) .nil) (some (Tryz.f64,x64)) .nil) (some (Tryz.f32,Ad)) (.node (.node .nil (some (Tryz.f160,Om)) .nil) (some (Tryz.f96,x96)) .nil)) none (.node (.node (.node .nil (some (Tryz.f144,OF)) .nil) (some (Tryz.f80,x80)) (.node .nil (some (Tryz.f208,N9)) .nil)) (some (Tryz.f48,x48)) .nil)) none (.node (.node (.node (.node .nil (some (Tryz.f136,ON)) .nil) none (.node .nil (some (Tryz.f200,Oh)) .nil)) (some (Tryz.f40,x40)) (.node .nil (some (Tryz.f104,O4)) .nil)) none (.node (.node (.node .nil (some (Tryz.f152,Ox)) .nil) (some (Tryz.f88,x88)) (.node .nil (some (Tryz.f216,N1)) .nil)) (some (Tryz.f56,x56)) .nil))) (some (Tryz.f4,x4)) (.node (.node (.node (.node (.node .nil (some (Tryz.f132,OR)) .nil) (some (Tryz.f68,x68)) .nil) (some (Tryz.f36,Ab)) (.node .nil (some (Tryz.f100,O8)) .nil)) none (.node (.node (.node .nil (some (Tryz.f148,OB)) .nil) (some (Tryz.f84,x84)) (.node .nil (some (Tryz.f212,N5)) .nil)) (some (Tryz.f52,x52)) .nil)) none (.node (.node (.node (.node .nil (some (Tryz.f140,OJ)) .nil) (some (Tryz.f76,x76)) (.node .nil (some (Tryz.f204,Od)) .nil)) none (.node .nil (some (Tryz.f108,O0)) (.node .nil (some (Tryz.f236,NU)) .nil))) (some (Tryz.f28,Ah)) (.node (.node (.node .nil (some (Tryz.f156,Ot)) .nil) (some (Tryz.f92,x92)) (.node .nil (some (Tryz.f220,NX)) .nil)) (some (Tryz.f60,x60)) (.node .nil (some (Tryz.f124,OZ)) .nil))))) none (.node (.node (.node (.node (.node (.node .nil (some (Tryz.f130,OT)) .nil) (some (Tryz.f66,x66)) .nil) none (.node .nil (some (Tryz.f98,x98)) .nil)) (some (Tryz.f18,uK)) (.node (.node (.node .nil (some (Tryz.f146,OD)) .nil) (some (Tryz.f82,x82)) (.node .nil (some (Tryz.f210,N7)) .nil)) (some (Tryz.f50,x50)) (.node .nil none (.node .nil (some (Tryz.f242,NS)) .nil)))) (some (Tryz.f10,wE)) (.node (.node (.node (.node .nil (some (Tryz.f138,OL)) .nil) (some (Tryz.f74,x74)) (.node .nil (some (Tryz.f202,Of)) .nil)) none (.node .nil (some (Tryz.f106,O2)) (.node .nil (some (Tryz.f234,NW)) .nil))) (some (Tryz.f26,Aj)) (.node (.node (.node .nil (some (Tryz.f154,Ov)) .nil) (some (Tryz.f90,x90)) (.node .nil (some (Tryz.f218,NZ)) .nil)) (some (Tryz.f58,x58)) .nil))) none (.node (.node (.node (.node (.node .nil (some (Tryz.f134,OP)) .nil) none (.node .nil (some (Tryz.f198,Oj)) .nil)) (some (Tryz.f38,z_)) (.node .nil (some (Tryz.f102,O6)) .nil)) none (.node (.node (.node .nil (some (Tryz.f150,Oz)) .nil) (some (Tryz.f86,x86)) (.node .nil (some (Tryz.f214,N3)) .nil)) (some (Tryz.f54,x54)) .nil)) none (.node (.node (.node (.node .nil (some (Tryz.f142,OH)) .nil) (some (Tryz.f78,x78)) (.node .nil (some (Tryz.f206,Oa)) .nil)) (some (Tryz.f46,x46)) .nil) (some (Tryz.f30,Af)) (.node (.node (.node .nil (some (Tryz.f158,Oo)) .nil) (some (Tryz.f94,x94)) .nil) (some (Tryz.f62,x62)) (.node .nil (some (Tryz.f126,OX)) .nil)))))))
def fns:FT:=fun f=>fnT.get f
theorem fk4:aR Tryz.prog 4 Tryz.f4 x4:=ak Tryz.func4 rfl rfl
theorem fk9:aR Tryz.prog 9 Tryz.f9 x9:=ak Tryz.func9 rfl rfl
theorem aaN:aR Tryz.prog 10 Tryz.f10 wE:=ak Tryz.func10 rfl rfl
theorem aaM:aR Tryz.prog 11 Tryz.f11 wD:=ak Tryz.func11 rfl rfl
theorem aaL:aR Tryz.prog 13 Tryz.f13 Ak:=ak Tryz.func13 rfl rfl
theorem aaK:aR Tryz.prog 17 Tryz.f17 uL:=ak Tryz.func17 rfl rfl
theorem aaJ:aR Tryz.prog 18 Tryz.f18 uK:=ak Tryz.func18 rfl rfl
theorem aaI:aR Tryz.prog 26 Tryz.f26 Aj:=ak Tryz.func26 rfl rfl
theorem aaH:aR Tryz.prog 27 Tryz.f27 Ai:=ak Tryz.func27 rfl rfl
theorem aaG:aR Tryz.prog 28 Tryz.f28 Ah:=ak Tryz.func28 rfl rfl
theorem aaF:aR Tryz.prog 29 Tryz.f29 Ag:=ak Tryz.func29 rfl rfl
theorem aaE:aR Tryz.prog 30 Tryz.f30 Af:=ak Tryz.func30 rfl rfl
theorem aaD:aR Tryz.prog 31 Tryz.f31 Ae:=ak Tryz.func31 rfl rfl
theorem aaC:aR Tryz.prog 32 Tryz.f32 Ad:=ak Tryz.func32 rfl rfl
theorem HY:aR Tryz.prog 35 Tryz.f35 Ac:=ak Tryz.func35 rfl rfl
theorem HX:aR Tryz.prog 36 Tryz.f36 Ab:=ak Tryz.func36 rfl rfl
theorem aaB:aR Tryz.prog 37 Tryz.f37 Aa:=ak Tryz.func37 rfl rfl
theorem aaA:aR Tryz.prog 38 Tryz.f38 z_:=ak Tryz.func38 rfl rfl
theorem aaz:aR Tryz.prog 39 Tryz.f39 x39:=ak Tryz.func39 rfl rfl
theorem aay:aR Tryz.prog 40 Tryz.f40 x40:=ak Tryz.func40 rfl rfl
theorem aax:aR Tryz.prog 41 Tryz.f41 x41:=ak Tryz.func41 rfl rfl
theorem aaw:aR Tryz.prog 46 Tryz.f46 x46:=ak Tryz.func46 rfl rfl
theorem aav:aR Tryz.prog 47 Tryz.f47 x47:=ak Tryz.func47 rfl rfl
theorem aau:aR Tryz.prog 48 Tryz.f48 x48:=ak Tryz.func48 rfl rfl
theorem aat:aR Tryz.prog 49 Tryz.f49 x49:=ak Tryz.func49 rfl rfl
theorem aar:aR Tryz.prog 50 Tryz.f50 x50:=ak Tryz.func50 rfl rfl
theorem aaq:aR Tryz.prog 51 Tryz.f51 x51:=ak Tryz.func51 rfl rfl
theorem aap:aR Tryz.prog 52 Tryz.f52 x52:=ak Tryz.func52 rfl rfl
theorem aao:aR Tryz.prog 53 Tryz.f53 x53:=ak Tryz.func53 rfl rfl
theorem aan:aR Tryz.prog 54 Tryz.f54 x54:=ak Tryz.func54 rfl rfl
theorem aam:aR Tryz.prog 55 Tryz.f55 x55:=ak Tryz.func55 rfl rfl
theorem aal:aR Tryz.prog 56 Tryz.f56 x56:=ak Tryz.func56 rfl rfl
theorem aak:aR Tryz.prog 57 Tryz.f57 x57:=ak Tryz.func57 rfl rfl
theorem aaj:aR Tryz.prog 58 Tryz.f58 x58:=ak Tryz.func58 rfl rfl
theorem aai:aR Tryz.prog 59 Tryz.f59 x59:=ak Tryz.func59 rfl rfl
theorem aah:aR Tryz.prog 60 Tryz.f60 x60:=ak Tryz.func60 rfl rfl
theorem aag:aR Tryz.prog 61 Tryz.f61 x61:=ak Tryz.func61 rfl rfl
theorem aaf:aR Tryz.prog 62 Tryz.f62 x62:=ak Tryz.func62 rfl rfl
theorem aae:aR Tryz.prog 63 Tryz.f63 x63:=ak Tryz.func63 rfl rfl
theorem aad:aR Tryz.prog 64 Tryz.f64 x64:=ak Tryz.func64 rfl rfl
theorem aac:aR Tryz.prog 65 Tryz.f65 x65:=ak Tryz.func65 rfl rfl
theorem aab:aR Tryz.prog 66 Tryz.f66 x66:=ak Tryz.func66 rfl rfl
theorem aaa:aR Tryz.prog 67 Tryz.f67 x67:=ak Tryz.func67 rfl rfl
theorem Z_:aR Tryz.prog 68 Tryz.f68 x68:=ak Tryz.func68 rfl rfl
theorem Z9:aR Tryz.prog 74 Tryz.f74 x74:=ak Tryz.func74 rfl rfl
theorem Z8:aR Tryz.prog 75 Tryz.f75 x75:=ak Tryz.func75 rfl rfl
theorem Z7:aR Tryz.prog 76 Tryz.f76 x76:=ak Tryz.func76 rfl rfl
theorem Z6:aR Tryz.prog 77 Tryz.f77 x77:=ak Tryz.func77 rfl rfl
theorem Z5:aR Tryz.prog 78 Tryz.f78 x78:=ak Tryz.func78 rfl rfl
theorem Z4:aR Tryz.prog 79 Tryz.f79 x79:=ak Tryz.func79 rfl rfl
theorem Z3:aR Tryz.prog 80 Tryz.f80 x80:=ak Tryz.func80 rfl rfl
theorem Z2:aR Tryz.prog 81 Tryz.f81 x81:=ak Tryz.func81 rfl rfl
theorem Z1:aR Tryz.prog 82 Tryz.f82 x82:=ak Tryz.func82 rfl rfl
theorem Z0:aR Tryz.prog 83 Tryz.f83 x83:=ak Tryz.func83 rfl rfl
theorem ZZ:aR Tryz.prog 84 Tryz.f84 x84:=ak Tryz.func84 rfl rfl
theorem ZY:aR Tryz.prog 85 Tryz.f85 x85:=ak Tryz.func85 rfl rfl
theorem ZX:aR Tryz.prog 86 Tryz.f86 x86:=ak Tryz.func86 rfl rfl
theorem ZW:aR Tryz.prog 87 Tryz.f87 x87:=ak Tryz.func87 rfl rfl
theorem ZV:aR Tryz.prog 88 Tryz.f88 x88:=ak Tryz.func88 rfl rfl
theorem ZU:aR Tryz.prog 89 Tryz.f89 x89:=ak Tryz.func89 rfl rfl
theorem ZT:aR Tryz.prog 90 Tryz.f90 x90:=ak Tryz.func90 rfl rfl
theorem ZS:aR Tryz.prog 91 Tryz.f91 x91:=ak Tryz.func91 rfl rfl
theorem ZR:aR Tryz.prog 92 Tryz.f92 x92:=ak Tryz.func92 rfl rfl
theorem ZQ:aR Tryz.prog 93 Tryz.f93 x93:=ak Tryz.func93 rfl rfl
theorem ZP:aR Tryz.prog 94 Tryz.f94 x94:=ak Tryz.func94 rfl rfl
theorem ZO:aR Tryz.prog 95 Tryz.f95 x95:=ak Tryz.func95 rfl rfl
theorem ZN:aR Tryz.prog 96 Tryz.f96 x96:=ak Tryz.func96 rfl rfl
theorem ZM:aR Tryz.prog 97 Tryz.f97 x97:=ak Tryz.func97 rfl rfl
theorem ZL:aR Tryz.prog 98 Tryz.f98 x98:=ak Tryz.func98 rfl rfl
theorem ZK:aR Tryz.prog 99 Tryz.f99 x99:=ak Tryz.func99 rfl rfl
theorem UY:aR Tryz.prog 100 Tryz.f100 O8:=ak Tryz.func100 rfl rfl
theorem UX:aR Tryz.prog 101 Tryz.f101 O7:=ak Tryz.func101 rfl rfl
theorem UW:aR Tryz.prog 102 Tryz.f102 O6:=ak Tryz.func102 rfl rfl
theorem UU:aR Tryz.prog 103 Tryz.f103 O5:=ak Tryz.func103 rfl rfl
theorem UT:aR Tryz.prog 104 Tryz.f104 O4:=ak Tryz.func104 rfl rfl
theorem US:aR Tryz.prog 105 Tryz.f105 O3:=ak Tryz.func105 rfl rfl
theorem UR:aR Tryz.prog 106 Tryz.f106 O2:=ak Tryz.func106 rfl rfl
theorem UQ:aR Tryz.prog 107 Tryz.f107 O1:=ak Tryz.func107 rfl rfl
theorem UP:aR Tryz.prog 108 Tryz.f108 O0:=ak Tryz.func108 rfl rfl
theorem UO:aR Tryz.prog 124 Tryz.f124 OZ:=ak Tryz.func124 rfl rfl
theorem UN:aR Tryz.prog 125 Tryz.f125 OY:=ak Tryz.func125 rfl rfl
theorem UM:aR Tryz.prog 126 Tryz.f126 OX:=ak Tryz.func126 rfl rfl
theorem UL:aR Tryz.prog 127 Tryz.f127 OW:=ak Tryz.func127 rfl rfl
theorem UK:aR Tryz.prog 128 Tryz.f128 OV:=ak Tryz.func128 rfl rfl
theorem UJ:aR Tryz.prog 129 Tryz.f129 OU:=ak Tryz.func129 rfl rfl
theorem UI:aR Tryz.prog 130 Tryz.f130 OT:=ak Tryz.func130 rfl rfl
theorem UH:aR Tryz.prog 131 Tryz.f131 OS:=ak Tryz.func131 rfl rfl
theorem UG:aR Tryz.prog 132 Tryz.f132 OR:=ak Tryz.func132 rfl rfl
theorem UF:aR Tryz.prog 133 Tryz.f133 OQ:=ak Tryz.func133 rfl rfl
theorem UE:aR Tryz.prog 134 Tryz.f134 OP:=ak Tryz.func134 rfl rfl
theorem UD:aR Tryz.prog 135 Tryz.f135 OO:=ak Tryz.func135 rfl rfl
theorem UC:aR Tryz.prog 136 Tryz.f136 ON:=ak Tryz.func136 rfl rfl
theorem UB:aR Tryz.prog 137 Tryz.f137 OM:=ak Tryz.func137 rfl rfl
theorem UA:aR Tryz.prog 138 Tryz.f138 OL:=ak Tryz.func138 rfl rfl
theorem Uz:aR Tryz.prog 139 Tryz.f139 OK:=ak Tryz.func139 rfl rfl
theorem Uy:aR Tryz.prog 140 Tryz.f140 OJ:=ak Tryz.func140 rfl rfl
theorem Ux:aR Tryz.prog 141 Tryz.f141 OI:=ak Tryz.func141 rfl rfl
theorem Uw:aR Tryz.prog 142 Tryz.f142 OH:=ak Tryz.func142 rfl rfl
theorem Uv:aR Tryz.prog 143 Tryz.f143 OG:=ak Tryz.func143 rfl rfl
theorem Uu:aR Tryz.prog 144 Tryz.f144 OF:=ak Tryz.func144 rfl rfl
theorem Ut:aR Tryz.prog 145 Tryz.f145 OE:=ak Tryz.func145 rfl rfl
theorem Us:aR Tryz.prog 146 Tryz.f146 OD:=ak Tryz.func146 rfl rfl
theorem Ur:aR Tryz.prog 147 Tryz.f147 OC:=ak Tryz.func147 rfl rfl
theorem Uq:aR Tryz.prog 148 Tryz.f148 OB:=ak Tryz.func148 rfl rfl
theorem Uo:aR Tryz.prog 149 Tryz.f149 OA:=ak Tryz.func149 rfl rfl
theorem Un:aR Tryz.prog 150 Tryz.f150 Oz:=ak Tryz.func150 rfl rfl
theorem Um:aR Tryz.prog 151 Tryz.f151 Oy:=ak Tryz.func151 rfl rfl
theorem Ul:aR Tryz.prog 152 Tryz.f152 Ox:=ak Tryz.func152 rfl rfl
theorem Uk:aR Tryz.prog 153 Tryz.f153 Ow:=ak Tryz.func153 rfl rfl
theorem Uj:aR Tryz.prog 154 Tryz.f154 Ov:=ak Tryz.func154 rfl rfl
theorem Ui:aR Tryz.prog 155 Tryz.f155 Ou:=ak Tryz.func155 rfl rfl
theorem Uh:aR Tryz.prog 156 Tryz.f156 Ot:=ak Tryz.func156 rfl rfl
theorem Ug:aR Tryz.prog 157 Tryz.f157 Oq:=ak Tryz.func157 rfl rfl
theorem Uf:aR Tryz.prog 158 Tryz.f158 Oo:=ak Tryz.func158 rfl rfl
theorem Ue:aR Tryz.prog 159 Tryz.f159 On:=ak Tryz.func159 rfl rfl
theorem Ud:aR Tryz.prog 160 Tryz.f160 Om:=ak Tryz.func160 rfl rfl
theorem Uc:aR Tryz.prog 161 Tryz.f161 Ol:=ak Tryz.func161 rfl rfl
theorem Ub:aR Tryz.prog 198 Tryz.f198 Oj:=ak Tryz.func198 rfl rfl
theorem Ua:aR Tryz.prog 199 Tryz.f199 Oi:=ak Tryz.func199 rfl rfl
theorem T_:aR Tryz.prog 200 Tryz.f200 Oh:=ak Tryz.func200 rfl rfl
theorem T8:aR Tryz.prog 201 Tryz.f201 Og:=ak Tryz.func201 rfl rfl
theorem TZ:aR Tryz.prog 202 Tryz.f202 Of:=ak Tryz.func202 rfl rfl
theorem TY:aR Tryz.prog 203 Tryz.f203 Oe:=ak Tryz.func203 rfl rfl
theorem TX:aR Tryz.prog 204 Tryz.f204 Od:=ak Tryz.func204 rfl rfl
theorem TW:aR Tryz.prog 205 Tryz.f205 Oc:=ak Tryz.func205 rfl rfl
theorem TV:aR Tryz.prog 206 Tryz.f206 Oa:=ak Tryz.func206 rfl rfl
theorem TU:aR Tryz.prog 207 Tryz.f207 N_:=ak Tryz.func207 rfl rfl
theorem TT:aR Tryz.prog 208 Tryz.f208 N9:=ak Tryz.func208 rfl rfl
theorem TS:aR Tryz.prog 209 Tryz.f209 N8:=ak Tryz.func209 rfl rfl
theorem TR:aR Tryz.prog 210 Tryz.f210 N7:=ak Tryz.func210 rfl rfl
theorem TQ:aR Tryz.prog 211 Tryz.f211 N6:=ak Tryz.func211 rfl rfl
theorem TP:aR Tryz.prog 212 Tryz.f212 N5:=ak Tryz.func212 rfl rfl
theorem TO:aR Tryz.prog 213 Tryz.f213 N4:=ak Tryz.func213 rfl rfl
theorem TN:aR Tryz.prog 214 Tryz.f214 N3:=ak Tryz.func214 rfl rfl
theorem TM:aR Tryz.prog 215 Tryz.f215 N2:=ak Tryz.func215 rfl rfl
theorem TL:aR Tryz.prog 216 Tryz.f216 N1:=ak Tryz.func216 rfl rfl
theorem TK:aR Tryz.prog 217 Tryz.f217 N0:=ak Tryz.func217 rfl rfl
theorem TJ:aR Tryz.prog 218 Tryz.f218 NZ:=ak Tryz.func218 rfl rfl
theorem TH:aR Tryz.prog 219 Tryz.f219 NY:=ak Tryz.func219 rfl rfl
theorem TG:aR Tryz.prog 220 Tryz.f220 NX:=ak Tryz.func220 rfl rfl
theorem TF:aR Tryz.prog 234 Tryz.f234 NW:=ak Tryz.func234 rfl rfl
theorem TE:aR Tryz.prog 235 Tryz.f235 NV:=ak Tryz.func235 rfl rfl
theorem TD:aR Tryz.prog 236 Tryz.f236 NU:=ak Tryz.func236 rfl rfl
theorem zd:aR Tryz.prog 237 Tryz.f237 NT:=ak Tryz.func237 rfl rfl
theorem TC:aR Tryz.prog 242 Tryz.f242 NS:=ak Tryz.func242 rfl rfl
theorem Ey:wA Tryz.prog fns:=Mo (.no (.no (.no (.no (.no (.yes aaD (.yes aae (.yes UL (.nil _ _) (.nil _ _)) (.nil _ _)) (.yes ZO (.yes Ue (.nil _ _) (.nil _ _)) (.nil _ _))) (.yes aav (.yes Z4 (.yes Uv (.nil _ _) (.nil _ _)) (.yes TU (.nil _ _) (.nil _ _))) (.nil _ _))) (.no (.yes aaz (.no (.yes UD (.nil _ _) (.nil _ _)) (.yes Ua (.nil _ _) (.nil _ _))) (.yes UU (.nil _ _) (.nil _ _))) (.yes aam (.yes ZW (.yes Um (.nil _ _) (.nil _ _)) (.yes TM (.nil _ _) (.nil _ _))) (.nil _ _)))) (.yes aaM (.no (.yes HY (.yes aaa (.yes UH (.nil _ _) (.nil _ _)) (.nil _ _)) (.yes ZK (.nil _ _) (.nil _ _))) (.yes aaq (.yes Z0 (.yes Ur (.nil _ _) (.nil _ _)) (.yes TQ (.nil _ _) (.nil _ _))) (.nil _ _))) (.yes aaH (.no (.yes Z8 (.yes Uz (.nil _ _) (.nil _ _)) (.yes TY (.nil _ _) (.nil _ _))) (.yes UQ (.nil _ _) (.yes TE (.nil _ _) (.nil _ _)))) (.yes aai (.yes ZS (.yes Ui (.nil _ _) (.nil _ _)) (.yes TH (.nil _ _) (.nil _ _))) (.nil _ _))))) (.no (.yes fk9 (.yes aaK (.no (.yes aac (.yes UJ (.nil _ _) (.nil _ _)) (.nil _ _)) (.yes ZM (.yes Uc (.nil _ _) (.nil _ _)) (.nil _ _))) (.yes aat (.yes Z2 (.yes Ut (.nil _ _) (.nil _ _)) (.yes TS (.nil _ _) (.nil _ _))) (.nil _ _))) (.no (.yes aax (.no (.yes UB (.nil _ _) (.nil _ _)) (.yes T8 (.nil _ _) (.nil _ _))) (.yes US (.nil _ _) (.nil _ _))) (.yes aak (.yes ZU (.yes Uk (.nil _ _) (.nil _ _)) (.yes TK (.nil _ _) (.nil _ _))) (.nil _ _)))) (.yes aaL (.no (.yes aaB (.no (.yes UF (.nil _ _) (.nil _ _)) (.nil _ _)) (.yes UX (.nil _ _) (.nil _ _))) (.yes aao (.yes ZY (.yes Uo (.nil _ _) (.nil _ _)) (.yes TO (.nil _ _) (.nil _ _))) (.nil _ _))) (.yes aaF (.no (.yes Z6 (.yes Ux (.nil _ _) (.nil _ _)) (.yes TW (.nil _ _) (.nil _ _))) (.no (.nil _ _) (.yes zd (.nil _ _) (.nil _ _)))) (.yes aag (.yes ZQ (.yes Ug (.nil _ _) (.nil _ _)) (.nil _ _)) (.yes UN (.nil _ _) (.nil _ _))))))) (.no (.yes fk4 (.no (.no (.yes aaC (.yes aad (.yes UK (.nil _ _) (.nil _ _)) (.nil _ _)) (.yes ZN (.yes Ud (.nil _ _) (.nil _ _)) (.nil _ _))) (.yes aau (.yes Z3 (.yes Uu (.nil _ _) (.nil _ _)) (.yes TT (.nil _ _) (.nil _ _))) (.nil _ _))) (.no (.yes aay (.no (.yes UC (.nil _ _) (.nil _ _)) (.yes T_ (.nil _ _) (.nil _ _))) (.yes UT (.nil _ _) (.nil _ _))) (.yes aal (.yes ZV (.yes Ul (.nil _ _) (.nil _ _)) (.yes TL (.nil _ _) (.nil _ _))) (.nil _ _)))) (.no (.no (.yes HX (.yes Z_ (.yes UG (.nil _ _) (.nil _ _)) (.nil _ _)) (.yes UY (.nil _ _) (.nil _ _))) (.yes aap (.yes ZZ (.yes Uq (.nil _ _) (.nil _ _)) (.yes TP (.nil _ _) (.nil _ _))) (.nil _ _))) (.yes aaG (.no (.yes Z7 (.yes Uy (.nil _ _) (.nil _ _)) (.yes TX (.nil _ _) (.nil _ _))) (.yes UP (.nil _ _) (.yes TD (.nil _ _) (.nil _ _)))) (.yes aah (.yes ZR (.yes Uh (.nil _ _) (.nil _ _)) (.yes TG (.nil _ _) (.nil _ _))) (.yes UO (.nil _ _) (.nil _ _)))))) (.no (.yes aaN (.yes aaJ (.no (.yes aab (.yes UI (.nil _ _) (.nil _ _)) (.nil _ _)) (.yes ZL (.nil _ _) (.nil _ _))) (.yes aar (.yes Z1 (.yes Us (.nil _ _) (.nil _ _)) (.yes TR (.nil _ _) (.nil _ _))) (.no (.nil _ _) (.yes TC (.nil _ _) (.nil _ _))))) (.yes aaI (.no (.yes Z9 (.yes UA (.nil _ _) (.nil _ _)) (.yes TZ (.nil _ _) (.nil _ _))) (.yes UR (.nil _ _) (.yes TF (.nil _ _) (.nil _ _)))) (.yes aaj (.yes ZT (.yes Uj (.nil _ _) (.nil _ _)) (.yes TJ (.nil _ _) (.nil _ _))) (.nil _ _)))) (.no (.no (.yes aaA (.no (.yes UE (.nil _ _) (.nil _ _)) (.yes Ub (.nil _ _) (.nil _ _))) (.yes UW (.nil _ _) (.nil _ _))) (.yes aan (.yes ZX (.yes Un (.nil _ _) (.nil _ _)) (.yes TN (.nil _ _) (.nil _ _))) (.nil _ _))) (.yes aaE (.yes aaw (.yes Z5 (.yes Uw (.nil _ _) (.nil _ _)) (.yes TV (.nil _ _) (.nil _ _))) (.nil _ _)) (.yes aaf (.yes ZP (.yes Uf (.nil _ _) (.nil _ _)) (.nil _ _)) (.yes UM (.nil _ _) (.nil _ _))))))))
end Go.Proofs.YtklkjncibchelaaGreat