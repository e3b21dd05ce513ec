/- Texts of one proof, put together: see each part. -/
import Derived.LoopNIn
import Derived.Test.YtihiooaimdoapaaGreatRows
import Derived.Test.YtihiooaimdoapaaGreatVB
set_option maxHeartbeats 2000000
noncomputable section
set_option linter.unusedVariables false
set_option linter.unusedSimpArgs false
namespace Go.Bm
section
open Go.RowKit
def vO {α:Type} (p:α→Bool):Option α→Bool
 | some x=>p x
 | none=>true
def xw {α:Type} (p:α→Bool) (t:Tr α):Bool:=
 Tr.rec (motive:=fun _=>Bool) true (fun _ v _ a b=>vO p v && a && b) t
theorem pU {α:Type} {p:α→Bool}:∀{t:Tr α} (_:xw p t=true) (i:Nat) (x:α),t.get i=some x→p x=true
 | .nil,_,i,x,e=>by rw [Tr.get_nil] at e;cases e
 | .node l v r,h,i,x,e=>by
  have h:(vO p v && xw p l && xw p r)=true:=h
  simp only [zC] at h
  cases i with
  | zero=>rw [Tr.mo] at e;subst e;exact h.1.1
  | succ i=>
   rw [Tr.j_] at e
   cases hb:Nat.beq (i%2) 0 with
   | true=>rw [hb] at e;exact pU h.1.2 _ x e
   | false=>rw [hb] at e;exact pU h.2 _ x e
def PU (N:Nat):jJ→Bool
 | .cells cs=>cs.all (yR N 6)
 | .one _ _=>true
 | .row _ _=>true
 | .d_ (.map es)=>es.all fun e=>yR N 6 e.1 && yR N 6 e.2
 | .d_ .Fm=>true
 | .d_ (.loop _ _)=>true
theorem HY {N:Nat} {F:Tr A} (h:xw (yR N 6) F=true) (i:Nat):VP N (cd F.get i):=by
 unfold cd
 split
 ·rename_i p hp;exact iS 6 p (pU h i p hp)
 ·exact iS 1 _ rfl
theorem Mq {N:Nat} {x:jJ} (h:PU N x=true):Lh N x.low:=by
 cases x with
 | cells cs=>
  have h:cs.all (yR N 6)=true:=h
  rw [List.all_eq_true] at h
  exact fun c hc=>iS 6 c (h c hc)
 | one t x=>exact lu t x
 | row t l=>exact fun c hc=>by obtain ⟨y,_,hy⟩:=List.mem_flatMap.1 hc;exact lu t y c hy
 | d_ x=>
  cases x with
  | map es=>
   have h:(es.all fun e=>yR N 6 e.1 && yR N 6 e.2)=true:=h
   rw [List.all_eq_true] at h
   exact fun e he=>by have:=h e he;rw [zC] at this;exact ⟨iS 6 _ this.1,iS 6 _ this.2⟩
  | Fm=>trivial
  | loop=>trivial
def ckT (k:Bool×Ty):Bool×Ty:=(false,match k.1 with | true=>.cB k.2 | false=>k.2)
def Qz (l:List (Bool×Ty)):List (Bool×Ty):=l.map ckT
def CB:List ((Nat×Option Nat)×List (Bool×Ty))→Type
 | []=>Unit
 | p::l=>mv (Qz p.2)×CB l
def qO:List (Bool×Ty)→Nat
 | []=>0
 | (true,_)::l=>qO l+1
 | (false,_)::l=>qO l
def ub:List ((Nat×Option Nat)×List (Bool×Ty))→Nat
 | []=>0
 | p::l=>qO p.2+ub l
def LH.S (H:LH):Type:=mv (H.qH.map (·.2))×mv (H.grow.map fun p=>(false,Ty.cB p.2))×mv (H.boxes.map fun p=>(false,p.2))×CB H.Ca×wP H.cP
def LH.m (H:LH):Nat:=H.grow.length+ub H.Ca
section
variable {β:Type}
def Jr:List Nat→Tr A→(Tr A→Option β)→Option β
 | [],F,k=>k F
 | i::l,F,k=>g_ F i (some .dI) (fun F=>Jr l F k)
def ijV:(l:List (Nat×Bool×Ty))→mv (l.map (·.2))→Tr A→(Tr A→Option β)→Option β
 | [],_,F,k=>k F
 | p::l,x,F,k=>TS (da p.2.1 p.2.2 x.1) (fun c=>g_ F p.1 (some c) (fun F=>ijV l x.2 F k))
def ijW:List (Nat×Ty)→Nat→Tr A→(Tr A→Option β)→Option β
 | [],_,F,k=>k F
 | p::l,i,F,k=>g_ F p.1 (some (.tw (.loc i) p.2.size)) (fun F=>ijW l (i+1) F k)
def Kv:List Nat→Tr jJ→(Tr jJ→Option β)→Option β
 | [],t,k=>k t
 | i::l,t,k=>g_ t i none (fun t=>Kv l t k)
def ijB:(l:List ((Nat×Option Nat)×Ty))→List Nat→mv (l.map fun p=>(false,p.2))→Tr jJ→(Tr jJ→Option β)→Option β
 | [],_,_,t,k=>k t
 | p::l,b::bs,x,t,k=>g_ t b (some (.one p.2 x.1)) (fun t=>ijB l bs x.2 t k)
 | _::_,[],_,_,_=>none
def ijG:(l:List (Nat×Ty))→Nat→mv (l.map fun p=>(false,Ty.cB p.2))→Tr jJ→(Tr jJ→Option β)→Option β
 | [],_,_,t,k=>k t
 | p::l,i,x,t,k=>g_ t i (some (.row p.2 x.1)) (fun t=>ijG l (i+1) x.2 t k)
def SE:(ks:List (Bool×Ty))→mv (Qz ks)→Nat→List A
 | [],_,_=>[]
 | (true,t)::l,x,i=>.tw (.loc i) t.size::SE l x.2 (i+1)
 | (false,t)::l,x,i=>da false t x.1::SE l x.2 i
def ijR:(ks:List (Bool×Ty))→mv (Qz ks)→Nat→Tr jJ→(Tr jJ→Option β)→Option β
 | [],_,_,t,k=>k t
 | (true,u)::l,x,i,t,k=>g_ t i (some (.row u x.1)) (fun t=>ijR l x.2 (i+1) t k)
 | (false,_)::l,x,i,t,k=>ijR l x.2 i t k
def ijC:(l:List ((Nat×Option Nat)×List (Bool×Ty)))→List Nat→Nat→CB l→Tr jJ→(Tr jJ→Option β)→Option β
 | [],_,_,_,t,k=>k t
 | p::l,b::bs,i,x,t,k=>g_ t b (some (.cells (SE p.2 x.1 i))) (fun t=>ijR p.2 x.1 i t (fun t=>ijC l bs (i+qO p.2) x.2 t k))
 | _::_,[],_,_,_,_=>none
def GK (H:LH) (nS bs cs eO:List Nat) (Fe:Tr A) (he:Go.Bm.H) (s:H.S) (k:Tr A→Go.Bm.H→Option β):Option β:=
 Jr nS Fe (fun F=>ijV H.qH s.1 F (fun F=>ijW H.grow he.bF F (fun F=>Kv (eO++(bs++cs)) he.t (fun t=>ijB H.boxes bs s.2.2.1 t (fun t=>ijC H.Ca cs (he.bF+H.grow.length) s.2.2.2.1 t (fun t=>ijG H.grow he.bF s.2.1 t (fun t=>k F ⟨t,he.bF+H.m,mL H.cP s.2.2.2.2 he.rg,he.lk⟩)))))))
def pjV (n:Nat):(l:List (Nat×Bool×Ty))→Tr A→Option (mv (l.map (·.2)))
 | [],_=>some ()
 | p::l,F=>bif Nat.blt p.1 n then (match nw p.2.1 p.2.2 (cd F.get p.1),pjV n l F with
  | some x,some y=>some (x,y)
  | _,_=>none) else none
def LW (t:Ty) (h:Tr jJ):A→Option (List t.T×Option Nat)
 | .tw (.loc o) z=>match h.get o with
  | some (.row t' l)=>bif Nat.beq z t.size && Nat.blt o 16777216 then (match iz (.cB t') (.cB t) l with
   | some l=>some (l,some o)
   | none=>none) else none
  | _=>none
 | .e0=>some ([],none)
 | .v (.slice none 0 0)=>some ([],none)
 | _=>none
def PQ (n:Nat):(l:List (Nat×Ty))→Tr A→Tr jJ→Option (mv (l.map fun p=>(false,Ty.cB p.2))×List (Option Nat))
 | [],_,_=>some ((),[])
 | p::l,F,t=>bif Nat.blt p.1 n then (match LW p.2 t (cd F.get p.1),PQ n l F t with
  | some x,some y=>some ((x.1,y.1),x.2::y.2)
  | _,_=>none) else none
def pjB:(l:List ((Nat×Option Nat)×Ty))→List Nat→Tr jJ→Option (mv (l.map fun p=>(false,p.2)))
 | [],_,_=>some ()
 | p::l,b::bs,t=>match t.get b with
  | some (.one t' x)=>match iz t' p.2 x,pjB l bs t with
   | some x,some y=>some (x,y)
   | _,_=>none
  | _=>none
 | _::_,[],_=>none
def Q5:(ks:List (Bool×Ty))→List A→Tr jJ→Option (mv (Qz ks)×List (Option Nat))
 | [],[],_=>some ((),[])
 | (true,u)::l,c::cs,t=>match LW u t c,Q5 l cs t with
  | some x,some y=>some ((x.1,y.1),x.2::y.2)
  | _,_=>none
 | (false,u)::l,c::cs,t=>match nw false u c,Q5 l cs t with
  | some x,some y=>some ((x,y.1),y.2)
  | _,_=>none
 | _,_,_=>none
def II:(l:List ((Nat×Option Nat)×List (Bool×Ty)))→List Nat→Tr jJ→Option (CB l×List (Option Nat))
 | [],_,_=>some ((),[])
 | p::l,b::bs,t=>match t.get b with
  | some (.cells cs)=>match Q5 p.2 cs t,II l bs t with
   | some x,some y=>some ((x.1,y.1),x.2++y.2)
   | _,_=>none
  | _=>none
 | _::_,[],_=>none
def Ir (t:Tr jJ) (q:Nat):Bool:=match t.get q with
 | some (.d_ (.loop .ready none))=>true
 | _=>false
def SD (N:Nat) (bs eO:List Nat) (cP:List (Nat×RK)) (ws:List Nat):Bool:=
 ws.all fun q=>bif Nat.beq (q%2) 0 then Nat.ble N (q / 2) || bs.any (Nat.beq (q / 2)) || eO.any (Nat.beq (q / 2)) else cP.any fun p=>Nat.beq q (kA p.1)
def eqL:List Nat→List Nat→Bool
 | [],[]=>true
 | a::l,b::k=>Nat.beq a b && eqL l k
 | _,_=>false
theorem Kn:∀{l k:List Nat},eqL l k=true→l=k
 | [],[],_=>rfl
 | a::l,b::k,h=>by
  have h:(Nat.beq a b && eqL l k)=true:=h
  rw [zC] at h
  rw [beq_eq h.1,Kn h.2]
def I4 (q:Nat):Option Nat→Bool
 | some o=>Nat.beq q o
 | none=>false
def Gv (N:Nat) (eO:List Nat):List (Option Nat)→Bool
 | []=>true
 | none::l=>Gv N eO l
 | some o::l=>(Nat.ble N o || eO.any (Nat.beq o)) && !(l.any (I4 o)) && Gv N eO l
def Hr (H:LH) (n N:Nat) (bs cs qs eO TT:List Nat) (F:Tr A) (h:Go.Bm.H) (ds:List Nat) (T:Fp):Option H.S:=
 bif SD N (bs++cs++qs) eO H.cP T.ws && eqL ds TT && qs.all (Ir h.t) then (match pjV n H.qH F,PQ n H.grow F h.t,pjB H.boxes bs h.t,II H.Ca cs h.t,DH H.cP h.rg with
 | some v,some g,some b,some e,some c=>bif Gv N eO (g.2++e.2) then some (v,g.1,b,e.1,c) else none
 | _,_,_,_,_=>none) else none
def QB:A→Option Nat
 | .tp (.loc b) []=>some b
 | .ptr b 0=>some b
 | _=>none
def acp (F:Tr A) (p:Nat×Option Nat):Option Nat:=match p.2 with
 | none=>QB (cd F.get p.1)
 | some j=>match cd F.get p.1 with
  | .wL _ _ F' _ _ _ _=>QB (cd F'.get j)
  | _=>none
def Sn:List (Nat×Option Nat)→Tr A→Option (List Nat)
 | [],_=>some []
 | p::l,F=>match acp F p,Sn l F with
  | some b,some bs=>some (b::bs)
  | _,_=>none
def aaw:List Nat→Tr A→Option (List Nat)
 | [],_=>some []
 | p::l,F=>match cd F.get p,aaw l F with
  | .wL q _ _ _ _ _ _,some bs=>some (q::bs)
  | _,_=>none
def Sl:List (Nat×Ty)→Tr A→List Nat
 | [],_=>[]
 | p::l,F=>match cd F.get p.1 with
  | .tw (.loc o) _=>o::Sl l F
  | _=>Sl l F
def Sk:List A→List Nat
 | []=>[]
 | .tw (.loc o) _::l=>o::Sk l
 | _::l=>Sk l
def Sm (t:Tr jJ):List Nat→List Nat
 | []=>[]
 | b::l=>match t.get b with
  | some (.cells cs)=>Sk cs++Sm t l
  | _=>Sm t l
structure LD where
 bs:List Nat
 cs:List Nat
 qs:List Nat
 eO:List Nat
def Nv (H:LH) (F:Tr A) (h:Go.Bm.H):Option LD:=match Sn (H.boxes.map (·.1)) F,Sn (H.Ca.map (·.1)) F,aaw H.loops F with
 | some bs,some cs,some qs=>some ⟨bs,cs,qs,Sl H.grow F++Sm h.t cs⟩
 | _,_,_=>none
def Fl (H:LH) (E:LD) (ds:List Nat) (F:Tr A) (h:Go.Bm.H):Bool:=
 xw (yR h.bF 6) F && xw (PU h.bF) h.t && Nat.ble (h.bF+H.m) 16777216 && (E.bs++E.cs).all (fun b=>Nat.blt b h.bF) && E.eO.all (fun b=>Nat.blt b h.bF) && ds.all (fun b=>Nat.blt b h.bF) && (E.bs++E.cs).all (fun b=>!(E.eO.any (Nat.beq b))) && E.qs.all (fun q=>Ir h.t q && !((E.eO++(E.bs++E.cs)).any (Nat.beq q))) && H.cP.all fun p=>Option.isSome (cj h.rg p.1)
def jT (H:LH) (N:Nat) (E:LD):Fp:=⟨true,[],true,((E.bs++E.cs).map fT++E.eO.map fT)++((List.range H.m).map (fun k=>fT (N+k))++H.cP.map fun p=>kA p.1)⟩
variable {r:β}
theorem rI {F F':Tr A} {d:Nat} {p:A} (e:F'.get=fun m=>if m=d then some p else F.get m) (i:Nat):cd F'.get i=if i=d then p else cd F.get i:=by
 unfold cd
 rw [e]
 by_cases h:i=d
 ·simp [h]
 ·simp [h]
theorem xT:∀(l:List Nat) (F:Tr A) (k:Tr A→Option β),Jr l F k=some r→∃F',k F'=some r∧∀bH:Nat→A→Prop,(∀i∈l,bH i .dI)→(∀i,i∉l→bH i (cd F.get i))→∀i,bH i (cd F'.get i)
 | [],F,k,h=>⟨F,h,fun bH _ h2 i=>h2 i (by simp)⟩
 | d::l,F,k,h=>by
  obtain ⟨_,F1,k1,k2⟩:=cp h
  obtain ⟨F',q1,q2⟩:=xT l F1 k k1
  refine ⟨F',q1,fun bH h1 h2=>q2 bH (fun i hi=>h1 i (.tail _ hi)) (fun i hi=>?_)⟩
  rw [rI k2]
  by_cases hd:i=d
  ·rw [if_pos hd];exact h1 i (by rw [hd];exact .head _)
  ·rw [if_neg hd];exact h2 i (by simp [hd,hi])
def KS (bH:Nat→A→Prop):(l:List (Nat×Bool×Ty))→mv (l.map (·.2))→Prop
 | [],_=>True
 | p::l,x=>bH p.1 (da p.2.1 p.2.2 x.1)∧KS bH l x.2
def KR (bH:Nat→A→Prop):List (Nat×Ty)→Nat→Prop
 | [],_=>True
 | p::l,i=>bH p.1 (.tw (.loc i) p.2.size)∧KR bH l (i+1)
def KW (bH:Nat→Option Ob→Prop):(l:List ((Nat×Option Nat)×Ty))→List Nat→mv (l.map fun p=>(false,p.2))→Prop
 | [],_,_=>True
 | p::l,b::bs,x=>bH b (some (.cells (aJ p.2 x.1)))∧KW bH l bs x.2
 | _::_,[],_=>True
def KU (bH:Nat→Option Ob→Prop):(l:List (Nat×Ty))→Nat→mv (l.map fun p=>(false,Ty.cB p.2))→Prop
 | [],_,_=>True
 | p::l,i,x=>bH i (some (.cells (List.flatMap (α:=p.2.T) (aJ p.2) x.1)))∧KU bH l (i+1) x.2
def Hj (bH:Nat→Option Ob→Prop):(ks:List (Bool×Ty))→mv (Qz ks)→Nat→Prop
 | [],_,_=>True
 | (true,u)::l,x,i=>bH i (some (.cells (List.flatMap (α:=u.T) (aJ u) x.1)))∧Hj bH l x.2 (i+1)
 | (false,_)::l,x,i=>Hj bH l x.2 i
def KV (bH:Nat→Option Ob→Prop):(l:List ((Nat×Option Nat)×List (Bool×Ty)))→List Nat→Nat→CB l→Prop
 | [],_,_,_=>True
 | p::l,b::bs,i,x=>bH b (some (.cells (SE p.2 x.1 i)))∧Hj bH p.2 x.1 i∧KV bH l bs (i+qO p.2) x.2
 | _::_,[],_,_=>True
theorem EW:∀(l:List (Nat×Bool×Ty)) (x:mv (l.map (·.2))) (F:Tr A) (k:Tr A→Option β),ijV l x F k=some r→∃F',k F'=some r∧∀bH:Nat→A→Prop,KS bH l x→(∀i,bH i (cd F.get i))→∀i,bH i (cd F'.get i)
 | [],_,F,k,h=>⟨F,h,fun bH _ h2=>h2⟩
 | p::l,x,F,k,h=>by
  unfold ijV at h
  rw [DW] at h
  obtain ⟨_,F1,k1,k2⟩:=cp h
  obtain ⟨F',q1,q2⟩:=EW l x.2 F1 k k1
  refine ⟨F',q1,fun bH h1 h2=>q2 bH h1.2 (fun i=>?_)⟩
  rw [rI k2]
  by_cases hd:i=p.1
  ·rw [if_pos hd,hd];exact h1.1
  ·rw [if_neg hd];exact h2 i
theorem EV:∀(l:List (Nat×Ty)) (j:Nat) (F:Tr A) (k:Tr A→Option β),ijW l j F k=some r→∃F',k F'=some r∧∀bH:Nat→A→Prop,KR bH l j→(∀i,bH i (cd F.get i))→∀i,bH i (cd F'.get i)
 | [],_,F,k,h=>⟨F,h,fun bH _ h2=>h2⟩
 | p::l,j,F,k,h=>by
  obtain ⟨_,F1,k1,k2⟩:=cp h
  obtain ⟨F',q1,q2⟩:=EV l (j+1) F1 k k1
  refine ⟨F',q1,fun bH h1 h2=>q2 bH h1.2 (fun i=>?_)⟩
  rw [rI k2]
  by_cases hd:i=p.1
  ·rw [if_pos hd,hd];exact h1.1
  ·rw [if_neg hd];exact h2 i
theorem Ee {t t':Tr jJ} {d:Nat} {x:Option jJ} (e:t'.get=fun m=>if m=d then x else t.get m) (i:Nat):ir t' i=if i=d then x.map jJ.low else ir t i:=by
 unfold ir
 rw [e]
 by_cases h:i=d
 ·simp only [if_pos h];cases x<;>rfl
 ·simp only [if_neg h]
theorem ye:∀(l:List Nat) (t:Tr jJ) (k:Tr jJ→Option β),Kv l t k=some r→∃t',k t'=some r∧∀bH:Nat→Option Ob→Prop,(∀i∈l,bH i none)→(∀i,i∉l→bH i (ir t i))→∀i,bH i (ir t' i)
 | [],t,k,h=>⟨t,h,fun bH _ h2 i=>h2 i (by simp)⟩
 | d::l,t,k,h=>by
  obtain ⟨_,t1,k1,k2⟩:=cp h
  obtain ⟨t',q1,q2⟩:=ye l t1 k k1
  refine ⟨t',q1,fun bH h1 h2=>q2 bH (fun i hi=>h1 i (.tail _ hi)) (fun i hi=>?_)⟩
  rw [Ee k2]
  by_cases hd:i=d
  ·rw [if_pos hd];exact h1 i (by rw [hd];exact .head _)
  ·rw [if_neg hd];exact h2 i (by simp [hd,hi])
theorem Ma {t t1:Tr jJ} {d:Nat} {x:jJ} {bH:Nat→Option Ob→Prop} (e:t1.get=fun m=>if m=d then some x else t.get m) (h1:bH d (some x.low)) (h2:∀i,bH i (ir t i)) (i:Nat):bH i (ir t1 i):=by
 rw [Ee e]
 by_cases hd:i=d
 ·rw [if_pos hd,hd];exact h1
 ·rw [if_neg hd];exact h2 i
theorem EZ:∀(l:List ((Nat×Option Nat)×Ty)) (bs:List Nat) (x:mv (l.map fun p=>(false,p.2))) (t:Tr jJ) (k:Tr jJ→Option β),ijB l bs x t k=some r→∃t',k t'=some r∧∀bH:Nat→Option Ob→Prop,KW bH l bs x→(∀i,bH i (ir t i))→∀i,bH i (ir t' i)
 | [],_,_,t,k,h=>⟨t,h,fun bH _ h2=>h2⟩
 | p::l,b::bs,x,t,k,h=>by
  obtain ⟨_,t1,k1,k2⟩:=cp h
  obtain ⟨t',q1,q2⟩:=EZ l bs x.2 t1 k k1
  exact ⟨t',q1,fun bH h1 h2=>q2 bH h1.2 (Ma k2 h1.1 h2)⟩
 | _::_,[],_,_,_,h=>by cases h
theorem EX:∀(l:List (Nat×Ty)) (j:Nat) (x:mv (l.map fun p=>(false,Ty.cB p.2))) (t:Tr jJ) (k:Tr jJ→Option β),ijG l j x t k=some r→∃t',k t'=some r∧∀bH:Nat→Option Ob→Prop,KU bH l j x→(∀i,bH i (ir t i))→∀i,bH i (ir t' i)
 | [],_,_,t,k,h=>⟨t,h,fun bH _ h2=>h2⟩
 | p::l,j,x,t,k,h=>by
  obtain ⟨_,t1,k1,k2⟩:=cp h
  obtain ⟨t',q1,q2⟩:=EX l (j+1) x.2 t1 k k1
  exact ⟨t',q1,fun bH h1 h2=>q2 bH h1.2 (Ma k2 h1.1 h2)⟩
theorem y7:∀(ks:List (Bool×Ty)) (x:mv (Qz ks)) (j:Nat) (t:Tr jJ) (k:Tr jJ→Option β),ijR ks x j t k=some r→∃t',k t'=some r∧∀bH:Nat→Option Ob→Prop,Hj bH ks x j→(∀i,bH i (ir t i))→∀i,bH i (ir t' i)
 | [],_,_,t,k,h=>⟨t,h,fun bH _ h2=>h2⟩
 | (true,u)::l,x,j,t,k,h=>by
  obtain ⟨_,t1,k1,k2⟩:=cp h
  obtain ⟨t',q1,q2⟩:=y7 l x.2 (j+1) t1 k k1
  exact ⟨t',q1,fun bH h1 h2=>q2 bH h1.2 (Ma k2 h1.1 h2)⟩
 | (false,_)::l,x,j,t,k,h=>y7 l x.2 j t k h
theorem EY:∀(l:List ((Nat×Option Nat)×List (Bool×Ty))) (bs:List Nat) (j:Nat) (x:CB l) (t:Tr jJ) (k:Tr jJ→Option β),ijC l bs j x t k=some r→∃t',k t'=some r∧∀bH:Nat→Option Ob→Prop,KV bH l bs j x→(∀i,bH i (ir t i))→∀i,bH i (ir t' i)
 | [],_,_,_,t,k,h=>⟨t,h,fun bH _ h2=>h2⟩
 | p::l,b::bs,j,x,t,k,h=>by
  obtain ⟨_,t1,k1,k2⟩:=cp h
  obtain ⟨t2,k3,k4⟩:=y7 p.2 x.1 j t1 _ k1
  obtain ⟨t',q1,q2⟩:=EY l bs _ x.2 t2 k k3
  exact ⟨t',q1,fun bH h1 h2=>q2 bH h1.2.2 (k4 bH h1.2.1 (Ma k2 h1.1 h2))⟩
 | _::_,[],_,_,_,_,h=>by cases h
structure sS (H:LH) (nS:List Nat) (E:LD) (Fe:Tr A) (he:Go.Bm.H) (s:H.S) (Fc:Tr A) (hc:Go.Bm.H):Prop where
 F:∀bH:Nat→A→Prop,(∀i∈nS,bH i .dI)→(∀i,i∉nS→bH i (cd Fe.get i))→KS bH H.qH s.1→KR bH H.grow he.bF→∀i,bH i (cd Fc.get i)
 t:∀bH:Nat→Option Ob→Prop,(∀i∈E.eO++(E.bs++E.cs),bH i none)→(∀i,i∉E.eO++(E.bs++E.cs)→bH i (ir he.t i))→KW bH H.boxes E.bs s.2.2.1→KV bH H.Ca E.cs (he.bF+H.grow.length) s.2.2.2.1→KU bH H.grow he.bF s.2.1→∀i,bH i (ir hc.t i)
 bF:hc.bF=he.bF+H.m
 rg:hc.rg=mL H.cP s.2.2.2.2 he.rg
theorem Bz {H:LH} {nS:List Nat} {E:LD} {Fe:Tr A} {he:Go.Bm.H} {s:H.S} {k:Tr A→Go.Bm.H→Option β} (h:GK H nS E.bs E.cs E.eO Fe he s k=some r):∃Fc hc,k Fc hc=some r∧sS H nS E Fe he s Fc hc:=by
 obtain ⟨F1,k1,f1⟩:=xT _ _ _ h
 obtain ⟨F2,k2,f2⟩:=EW _ _ _ _ k1
 obtain ⟨F3,k3,f3⟩:=EV _ _ _ _ k2
 obtain ⟨t1,k4,e1⟩:=ye _ _ _ k3
 obtain ⟨t2,k5,e2⟩:=EZ _ _ _ _ _ k4
 obtain ⟨t3,k6,e3⟩:=EY _ _ _ _ _ _ k5
 obtain ⟨t4,k7,e4⟩:=EX _ _ _ _ _ k6
 exact ⟨F3,_,k7,fun bH a b c d=>f3 bH d (f2 bH c (f1 bH a b)),fun bH a b c d e=>e4 bH e (e3 bH d (e2 bH c (e1 bH a b))),rfl,rfl⟩
end
end
section
open Go.RowKit
theorem any_beq {l:List Nat} {i:Nat}:l.any (Nat.beq i)=true↔i∈l:=by
 rw [List.any_eq_true]
 exact ⟨fun ⟨x,h1,h2⟩=>by rw [beq_eq h2];exact h1,fun h=>⟨i,h,Nat.beq_refl i⟩⟩
theorem B9 {N:Nat} {bs eO:List Nat} {cP:List (Nat×RK)} {T:Fp} (h:SD N bs eO cP T.ws=true) {i:Nat} (hl:i<dJ) (h1:i<N) (h2:i∉eO++bs):wt T i=false:=by
 cases hx:wt T i with
 | false=>rfl
 | true=>
  unfold wt at hx
  rw [zC] at hx
  obtain ⟨q,q1,q2⟩:=List.any_eq_true.1 hx.2
  obtain rfl:=beq_eq q2
  have:=List.all_eq_true.1 h _ q1
  rw [pX hl] at this
  unfold fT at this
  rw [show Nat.beq (2*i%2) 0=true by rw [show 2*i%2=0 by omega];rfl,show 2*i / 2=i by omega] at this
  simp only [cond_true,Bool.or_eq_true] at this
  rcases this with (this | this) | this
  ·have:=Nat.le_of_ble_eq_true this;omega
  ·exact absurd (zS _ (any_beq.1 this)) h2
  ·exact absurd (zQ _ (any_beq.1 this)) h2
theorem B8 {N:Nat} {bs eO:List Nat} {cP:List (Nat×RK)} {T:Fp} (h:SD N bs eO cP T.ws=true) {i:Nat} (hl:¬i<dJ) (h1:eS cP (oM i)=false):wt T i=false:=by
 cases hx:wt T i with
 | false=>rfl
 | true=>
  unfold wt at hx
  rw [zC] at hx
  obtain ⟨q,q1,q2⟩:=List.any_eq_true.1 hx.2
  obtain rfl:=beq_eq q2
  have:=List.all_eq_true.1 h _ q1
  rw [tg hl] at this
  unfold kA at this
  rw [show Nat.beq ((2*oM i+1)%2) 0=false by rw [show (2*oM i+1)%2=1 by omega];rfl] at this
  simp only [cond_false] at this
  obtain ⟨p,p1,p2⟩:=List.any_eq_true.1 this
  have e:p.1=oM i:=by have:=beq_eq p2;unfold kA at this;omega
  rw [show eS cP (oM i)=true from List.any_eq_true.2 ⟨p,p1,by rw [e];exact Nat.beq_refl _⟩] at h1
  cases h1
theorem IG {n:Nat} {F:Tr A} {bH:Nat→A→Prop} (hg:∀i a t x,i<n→nw a t (cd F.get i)=some x→bH i (da a t x)):∀(l:List (Nat×Bool×Ty)) (x:mv (l.map (·.2))),pjV n l F=some x→KS bH l x
 | [],_,_=>trivial
 | p::l,x,h=>by
  unfold pjV at h
  obtain ⟨hn,h⟩:=ab h
  split at h
  ·rename_i y z h1 h2
   cases h
   exact ⟨hg _ _ _ _ (bU hn) h1,IG hg l z h2⟩
  ·cases h
def K2 (t:Ty) (tt:Tr jJ) (l:List t.T):Option Nat→Prop
 | some o=>o<dJ∧ir tt o=some (.cells (l.flatMap (aJ t)))
 | none=>l=[]
def Ck (z:Nat) (a:A):Option Nat→Prop
 | some o=>a = .tw (.loc o) z
 | none=>∀g v,V g a v→∃ad,v = .slice ad 0 0
theorem yx {t:Ty} {tt:Tr jJ} {a:A} {l:List t.T} {nm:Option Nat} (h:LW t tt a=some (l,nm)):K2 t tt l nm∧Ck t.size a nm:=by
 unfold LW at h
 split at h
 ·rename_i o z
  split at h
  ·rename_i t' l' h1
   obtain ⟨h2,h⟩:=ab h
   rw [zC] at h2
   split at h
   ·rename_i l1 TH
    obtain ⟨e,e2⟩:=du TH
    cases e
    cases e2
    simp only [zI,zU] at h
    obtain ⟨rfl,rfl⟩:=h
    refine ⟨⟨bU h2.2,?_⟩,by rw [beq_eq h2.1];rfl⟩
    unfold ir
    rw [h1];rfl
   ·cases h
  ·cases h
 ·simp only [zI,zU] at h
  obtain ⟨rfl,rfl⟩:=h
  exact ⟨rfl,fun g v hv=>by cases hv;exact ⟨_,rfl⟩⟩
 ·simp only [zI,zU] at h
  obtain ⟨rfl,rfl⟩:=h
  exact ⟨rfl,fun g v hv=>by cases hv;exact ⟨_,rfl⟩⟩
 ·cases h
theorem IH {n:Nat} {F:Tr A} {tt:Tr jJ}:∀(l:List (Nat×Ty)) (x:mv (l.map fun p=>(false,Ty.cB p.2))) (names:List (Option Nat)),PQ n l F tt=some (x,names)→names.length=l.length ∧
  ∀(bH:Nat→A→Prop) (sD:Nat→Option Ob→Prop) (j:Nat),
   (∀(k:Nat) (nm:Option Nat) (i z:Nat),names[k]?=some nm→i<n→Ck z (cd F.get i) nm→bH i (.tw (.loc (j+k)) z)) →
   (∀(k:Nat) (nm:Option Nat) (t:Ty) (l:List t.T),names[k]?=some nm→K2 t tt l nm→sD (j+k) (some (.cells (l.flatMap (aJ t)))))→KR bH l j∧KU sD l j x
 | [],x,names,h=>by
  simp only [PQ,zI,zU] at h
  obtain ⟨_,rfl⟩:=h
  exact ⟨rfl,fun _ _ _ _ _=>⟨trivial,trivial⟩⟩
 | p::l,x,names,h=>by
  unfold PQ at h
  obtain ⟨hn,h⟩:=ab h
  split at h
  ·rename_i y z h1 h2
   simp only [zI,zU] at h
   obtain ⟨rfl,rfl⟩:=h
   obtain ⟨q1,q2⟩:=IH l z.1 z.2 h2
   obtain ⟨r1,r2⟩:=yx (l:=y.1) (nm:=y.2) h1
   refine ⟨by simp [q1],fun bH sD j k1 k2=>?_⟩
   obtain ⟨u1,u2⟩:=q2 bH sD (j+1) (fun k nm i z e=>by have:=k1 (k+1) nm i z (by simpa using e);rwa [show j+(k+1)=j+1+k by omega] at this) (fun k nm t l e=>by have:=k2 (k+1) nm t l (by simpa using e);rwa [show j+(k+1)=j+1+k by omega] at this)
   exact ⟨⟨k1 0 y.2 p.1 p.2.size rfl (bU hn) r2,u1⟩,⟨k2 0 y.2 p.2 y.1 rfl r1,u2⟩⟩
  ·cases h
theorem Ih {n:Nat} {F:Tr A} {tt:Tr jJ}:∀{l:List (Nat×Ty)} {x:mv (l.map fun p=>(false,Ty.cB p.2))} {names:List (Option Nat)},PQ n l F tt=some (x,names)→∀(k o:Nat),names[k]?=some (some o)→o<dJ
 | [],x,names,h,k,o,e=>by
  simp only [PQ,zI,zU] at h
  obtain ⟨_,rfl⟩:=h
  simp at e
 | p::l,x,names,h,k,o,e=>by
  unfold PQ at h
  obtain ⟨hn,h⟩:=ab h
  split at h
  ·rename_i y z h1 h2
   simp only [zI,zU] at h
   obtain ⟨rfl,rfl⟩:=h
   cases k with
   | zero=>
    have e:y.2=some o:=by simpa using e
    have:=(yx (l:=y.1) (nm:=y.2) h1).1
    rw [e] at this
    exact this.1
   | succ k=>exact Ih (x:=z.1) (names:=z.2) h2 k o (by simpa using e)
  ·cases h
theorem IJ {tt:Tr jJ} {bH:Nat→Option Ob→Prop}:∀(l:List ((Nat×Option Nat)×Ty)) (bs:List Nat) (x:mv (l.map fun p=>(false,p.2))),(∀b t (y:t.T),b∈bs→ir tt b=some (.cells (aJ t y))→bH b (some (.cells (aJ t y))))→pjB l bs tt=some x→KW bH l bs x
 | [],_,_,_,_=>trivial
 | p::l,b::bs,x,hg,h=>by
  unfold pjB at h
  split at h
  ·rename_i t' y h1
   split at h
   ·rename_i y' z h2 h3
    cases h
    obtain ⟨e,e2⟩:=du h2
    obtain ⟨p1,p2⟩:=p
    simp only at e
    subst e
    cases e2
    exact ⟨hg b t' y (.head _) (by unfold ir;rw [h1];rfl),IJ l bs z (fun b t y hb=>hg b t y (.tail _ hb)) h3⟩
   ·cases h
  ·cases h
 | _::_,[],_,_,h=>by cases h
theorem Vs.HO {g:G} {c:A} {cs:List A} {vs:List Value} (h:Vs g (c::cs) vs):∃v us,vs=v::us∧V g c v∧v.oneCell'=true∧Vs g cs us:=by
 match vs,h with
 | [],h=>exact absurd h.1 (by simp)
 | v::us,h=>
  have h0:=h.2 0 c v rfl rfl
  exact ⟨v,us,rfl,h0.1,h0.2,by simpa using h.1,fun j c x e1 e2=>h.2 (j+1) c x (by simpa using e1) (by simpa using e2)⟩
theorem C8 {tt:Tr jJ}:∀(ks:List (Bool×Ty)) (cs:List A) (x:mv (Qz ks)) (names:List (Option Nat)),Q5 ks cs tt=some (x,names)→names.length=qO ks∧(∀(k o:Nat),names[k]?=some (some o)→o<dJ)∧∀j,(SE ks x j).length=cs.length ∧
  (∀(sD:Nat→Option Ob→Prop),(∀(k:Nat) (nm:Option Nat) (t:Ty) (l:List t.T),names[k]?=some nm→K2 t tt l nm→sD (j+k) (some (.cells (l.flatMap (aJ t)))))→Hj sD ks x j) ∧
  ∀(N:Nat) (g g':G),D9 N g g'→(∀(k:Nat) (nm:Option Nat) (z:Nat) (c:A),names[k]?=some nm→Ck z c nm→∀v,V g c v→V g' (.tw (.loc (j+k)) z) v)→∀vs,Vs g cs vs→Vs g' (SE ks x j) vs
 | [],[],x,names,h=>by
  simp only [Q5,zI,zU] at h
  obtain ⟨_,rfl⟩:=h
  exact ⟨rfl,fun k o e=>by simp at e,fun j=>⟨rfl,fun _ _=>trivial,fun N g g' _ _ vs hv=>⟨hv.1,fun j c x e=>by simp [SE] at e⟩⟩⟩
 | (true,u)::l,c::cs,x,names,h=>by
  unfold Q5 at h
  split at h
  ·rename_i y z h1 h2
   simp only [zI,zU] at h
   obtain ⟨rfl,rfl⟩:=h
   obtain ⟨q1,Tn,q2⟩:=C8 l cs z.1 z.2 h2
   obtain ⟨r1,r2⟩:=yx (l:=y.1) (nm:=y.2) h1
   refine ⟨by simp [q1,qO],fun k o e=>?_,fun j=>?_⟩
   ·cases k with
    | zero=>
     have e:y.2=some o:=by simpa using e
     rw [e] at r1
     exact r1.1
    | succ k=>exact Tn k o (by simpa using e)
   ·obtain ⟨u1,u2,u3⟩:=q2 (j+1)
    refine ⟨congrArg Nat.succ u1,fun sD k2=>⟨k2 0 y.2 u y.1 rfl r1,u2 sD (fun k nm t l e=>by have:=k2 (k+1) nm t l (by simpa using e);rwa [show j+(k+1)=j+1+k by omega] at this)⟩,fun N g g' hs hk vs hv=>?_⟩
    obtain ⟨v,us,rfl,v1,v2,v3⟩:=hv.HO
    exact .cons (hk 0 y.2 u.size c rfl r2 v v1) v2 (u3 N g g' hs (fun k nm z c e=>by have:=hk (k+1) nm z c (by simpa using e);rwa [show j+(k+1)=j+1+k by omega] at this) us v3)
  ·cases h
 | (false,u)::l,c::cs,x,names,h=>by
  unfold Q5 at h
  split at h
  ·rename_i y z h1 h2
   simp only [zI,zU] at h
   obtain ⟨rfl,rfl⟩:=h
   obtain ⟨q1,Tn,q2⟩:=C8 l cs z.1 z.2 h2
   refine ⟨by simp [q1,qO],Tn,fun j=>?_⟩
   obtain ⟨u1,u2,u3⟩:=q2 j
   refine ⟨congrArg Nat.succ u1,u2,fun N g g' hs hk vs hv=>?_⟩
   obtain ⟨v,us,rfl,v1,v2,v3⟩:=hv.HO
   exact .cons (rT false u y g g' v hs (mj h1 v1)) v2 (u3 N g g' hs hk us v3)
  ·cases h
 | [],_::_,_,_,h=>by cases h
 | (true,_)::_,[],_,_,h=>by cases h
 | (false,_)::_,[],_,_,h=>by cases h
theorem Ev {tt:Tr jJ}:∀(l:List ((Nat×Option Nat)×List (Bool×Ty))) (bs:List Nat) (x:CB l) (names:List (Option Nat)),II l bs tt=some (x,names)→names.length=ub l∧(∀(k o:Nat),names[k]?=some (some o)→o<dJ) ∧
  ∀(N:Nat) (g g':G) (j:Nat) (bH:Nat→Option Ob→Prop),D9 N g g' →
   (∀(k:Nat) (nm:Option Nat) (z:Nat) (c:A),names[k]?=some nm→Ck z c nm→∀v,V g c v→V g' (.tw (.loc (j+k)) z) v) →
   (∀(k:Nat) (nm:Option Nat) (t:Ty) (l:List t.T),names[k]?=some nm→K2 t tt l nm→bH (j+k) (some (.cells (l.flatMap (aJ t))))) →
   (∀b cs kq,b∈bs→ir tt b=some (.cells cs)→kq.length=cs.length→(∀vs,Vs g cs vs→Vs g' kq vs)→bH b (some (.cells kq)))→KV bH l bs j x
 | [],_,x,names,h=>by
  simp only [II,zI,zU] at h
  obtain ⟨_,rfl⟩:=h
  exact ⟨rfl,fun k o e=>by simp at e,fun _ _ _ _ _ _ _ _ _=>trivial⟩
 | p::l,b::bs,x,names,h=>by
  unfold II at h
  split at h
  ·rename_i cs TM
   split at h
   ·rename_i y z h1 h2
    simp only [zI,zU] at h
    obtain ⟨rfl,rfl⟩:=h
    obtain ⟨q1,Tn,q2⟩:=C8 p.2 cs y.1 y.2 h1
    obtain ⟨r1,r1',r2⟩:=Ev l bs z.1 z.2 h2
    have ap:∀(k:Nat) (nm:Option Nat),y.2[k]?=some nm→(y.2++z.2)[k]?=some nm:=fun k nm e=>by rw [zK (zB.1 e).1];exact e
    have aq:∀(k:Nat) (nm:Option Nat),z.2[k]?=some nm→(y.2++z.2)[qO p.2+k]?=some nm:=fun k nm e=>by rw [zJ (by omega),q1,Nat.add_sub_cancel_left];exact e
    refine ⟨by simp [q1,r1,ub],fun k o e=>?_,fun N g g' j bH hs hk hr hb=>?_⟩
    ·by_cases hk:k<y.2.length
     ·rw [zK hk] at e;exact Tn k o e
     ·rw [zJ (by omega)] at e;exact r1' _ o e
    ·obtain ⟨u1,u2,u3⟩:=q2 j
     refine ⟨hb b cs _ (.head _) (by unfold ir;rw [TM];rfl) u1 (u3 N g g' hs (fun k nm zz c e=>hk k nm zz c (ap k nm e))),u2 bH (fun k nm t l e=>hr k nm t l (ap k nm e)),?_⟩
     exact r2 N g g' (j+qO p.2) bH hs (fun k nm zz c e=>by have:=hk (qO p.2+k) nm zz c (aq k nm e);rwa [←Nat.add_assoc] at this) (fun k nm t l e=>by have:=hr (qO p.2+k) nm t l (aq k nm e);rwa [←Nat.add_assoc] at this) (fun b cs kq hm=>hb b cs kq (.tail _ hm))
   ·cases h
  ·cases h
 | _::_,[],_,_,h=>by cases h
theorem yS {N:Nat} {eO:List Nat}:∀{names:List (Option Nat)},Gv N eO names=true→(∀(k o:Nat),names[k]?=some (some o)→N≤o∨o∈eO)∧∀(k k' o:Nat),names[k]?=some (some o)→names[k']?=some (some o)→k=k'
 | [],_=>⟨fun k o h=>by simp at h,fun k k' o h=>by simp at h⟩
 | none::l,h=>by
  obtain ⟨h1,h2⟩:=yS (show Gv N eO l=true from h)
  refine ⟨fun k o e=>?_,fun k k' o e e'=>?_⟩
  ·cases k with
   | zero=>cases e
   | succ k=>exact h1 k o (by simpa using e)
  ·cases k with
   | zero=>cases e
   | succ k=>
    cases k' with
    | zero=>cases e'
    | succ k'=>rw [h2 k k' o (by simpa using e) (by simpa using e')]
 | some q::l,h=>by
  have h:((Nat.ble N q || eO.any (Nat.beq q)) && !(l.any (I4 q)) && Gv N eO l)=true:=h
  simp only [zC,Bool.or_eq_true,Bool.not_eq_true'] at h
  obtain ⟨⟨ha,hb⟩,hc⟩:=h
  obtain ⟨h1,h2⟩:=yS hc
  have far:∀k,l[k]?=some (some q)→False:=fun k e=>by
   have:l.any (I4 q)=true:=List.any_eq_true.2 ⟨some q,zG e,Nat.beq_refl q⟩
   rw [hb] at this;cases this
  refine ⟨fun k o e=>?_,fun k k' o e e'=>?_⟩
  ·cases k with
   | zero=>
    simp only [List.getElem?_cons_zero,zI] at e
    subst e
    exact ha.imp Nat.le_of_ble_eq_true any_beq.1
   | succ k=>exact h1 k o (by simpa using e)
  ·cases k with
   | zero=>
    simp only [List.getElem?_cons_zero,zI] at e
    subst e
    cases k' with
    | zero=>rfl
    | succ k'=>exact (far k' (by simpa using e')).elim
   | succ k=>
    cases k' with
    | zero=>
     simp only [List.getElem?_cons_zero,zI] at e'
     subst e'
     exact (far k (by simpa using e)).elim
    | succ k'=>rw [h2 k k' o (by simpa using e) (by simpa using e')]
structure wJ (H:LH) (E:LD) (ds:List Nat) (F:Tr A) (h:Go.Bm.H):Prop where
 slot:∀i,VP h.bF (cd F.get i)
 mem:∀i x,ir h.t i=some x→Lh h.bF x
 top:h.bF+H.m≤dJ
 bsl:∀b∈E.bs++E.cs,b<h.bF
 del:∀b∈E.eO,b<h.bF
 dsl:∀b∈ds,b<h.bF
 apart:∀b∈E.bs++E.cs,b∉E.eO
 loop:∀q∈E.qs,Ir h.t q=true∧q∉E.eO++(E.bs++E.cs)
 cP:∀r,eS H.cP r=true→∃x,cj h.rg r=some x
theorem BV {H:LH} {E:LD} {ds:List Nat} {F:Tr A} {h:Go.Bm.H} (k:Fl H E ds F h=true):wJ H E ds F h:=by
 unfold Fl at k
 rw [zC,zC,zC,zC,zC,zC,zC,zC] at k
 obtain ⟨⟨⟨⟨⟨⟨⟨⟨k1,k2⟩,k3⟩,k4⟩,k5⟩,k6⟩,k7⟩,k9⟩,k8⟩:=k
 rw [List.all_eq_true] at k4 k5 k6 k7 k8 k9
 refine ⟨HY k1,fun i x e=>?_,Nat.le_of_ble_eq_true k3,fun b hb=>bU (k4 b hb),fun b hb=>bU (k5 b hb),fun b hb=>bU (k6 b hb),fun b hb hd=>?_,fun q hq=>?_,fun r hr=>?_⟩
 ·unfold ir at e
  split at e
  ·rename_i m hm
   cases e
   exact Mq (pU k2 i m hm)
  ·cases e
 ·have:=k7 b hb
  rw [any_beq.2 hd] at this;cases this
 ·have:=k9 q hq
  rw [zC] at this
  refine ⟨this.1,fun hm=>?_⟩
  have h2:=this.2
  rw [any_beq.2 hm] at h2;cases h2
 ·obtain ⟨p,p1,p2⟩:=List.any_eq_true.1 hr
  have:=k8 p p1
  rw [beq_eq p2] at this
  exact Option.isSome_iff_exists.1 this
theorem Es {t:Tr jJ} {q:Nat} (h:Ir t q=true):ir t q=some (.d_ (.loop .ready none)):=by
 unfold Ir at h
 split at h
 ·rename_i hq;unfold ir;rw [hq];rfl
 ·cases h
section
variable {H:LH} {nS TT:List Nat} {E:LD} {Fe:Tr A} {he:Go.Bm.H} {s:H.S} {Fc:Tr A} {hc:Go.Bm.H}
theorem Ag {bH:Nat→Option Ob→Prop}:∀(l:List ((Nat×Option Nat)×Ty)) (bs:List Nat) (x:mv (l.map fun p=>(false,p.2))),(∀b∈bs,∀ob,bH b ob)→KW bH l bs x
 | [],_,_,_=>trivial
 | _::_,[],_,_=>trivial
 | p::l,b::bs,x,h=>⟨h b (.head _) _,Ag l bs x.2 (fun b hb=>h b (.tail _ hb))⟩
theorem Ae {bH:Nat→Option Ob→Prop} {m:Nat}:∀(l:List (Nat×Ty)) (j:Nat) (x:mv (l.map fun p=>(false,Ty.cB p.2))),j+l.length≤m→(∀i,j≤i→i<m→∀ob,bH i ob)→KU bH l j x
 | [],_,_,_,_=>trivial
 | p::l,j,x,hm,h=>by
  have hm:j+(l.length+1)≤m:=hm
  exact ⟨h j (Nat.le_refl _) (by omega) _,Ae l (j+1) x.2 (by omega) (fun i h1 h2=>h i (by omega) h2)⟩
theorem Ad {bH:Nat→Option Ob→Prop} {m:Nat}:∀(ks:List (Bool×Ty)) (x:mv (Qz ks)) (j:Nat),j+qO ks≤m→(∀i,j≤i→i<m→∀ob,bH i ob)→Hj bH ks x j
 | [],_,_,_,_=>trivial
 | (true,_)::l,x,j,hm,h=>by
  have hm:j+(qO l+1)≤m:=hm
  exact ⟨h j (Nat.le_refl _) (by omega) _,Ad l x.2 (j+1) (by omega) (fun i h1 h2=>h i (by omega) h2)⟩
 | (false,_)::l,x,j,hm,h=>Ad l x.2 j hm h
theorem Af {bH:Nat→Option Ob→Prop} {m:Nat}:∀(l:List ((Nat×Option Nat)×List (Bool×Ty))) (bs:List Nat) (j:Nat) (x:CB l),j+ub l≤m→(∀b∈bs,∀ob,bH b ob)→(∀i,j≤i→i<m→∀ob,bH i ob)→KV bH l bs j x
 | [],_,_,_,_,_,_=>trivial
 | _::_,[],_,_,_,_,_=>trivial
 | p::l,b::bs,j,x,hm,hb,h=>by
  have hm:j+(qO p.2+ub l)≤m:=hm
  exact ⟨hb b (.head _) _,Ad p.2 x.1 j (by omega) h,Af l bs _ x.2 (by omega) (fun b vW=>hb b (.tail _ vW)) (fun i h1 h2=>h i (by omega) h2)⟩
theorem vN (EO:wJ H E TT Fe he) (J:sS H nS E Fe he s Fc hc):(∀i,i<he.bF→i∉E.eO++(E.bs++E.cs)→(hp hc).ob i=(hp he).ob i) ∧
  (∀i,¬i<dJ→eS H.cP (oM i)=false→(hp hc).ob i=(hp he).ob i∧((hp hc).fr i↔(hp he).fr i)) ∧
  ∀i,wt (jT H he.bF E) i=false→(hp hc).ob i=(hp he).ob i∧((hp hc).fr i↔(hp he).fr i):=by
 have abw:=EO.top
 have hm:H.m=H.grow.length+ub H.Ca:=rfl
 have Qf:∀i,i∉E.eO++(E.bs++E.cs)→(∀k,k<H.m→i≠he.bF+k)→ir hc.t i=ir he.t i:=fun i h1 h2=>by
  have bsn:∀b∈E.bs++E.cs,∀ob,b∉E.eO++(E.bs++E.cs)→(∀k,k<H.m→b≠he.bF+k)→ob=ir he.t b:=fun b hb ob hn=>absurd (zS _ hb) hn
  have Ig:∀i,he.bF≤i→i<he.bF+H.m→∀ob,i∉E.eO++(E.bs++E.cs)→(∀k,k<H.m→i≠he.bF+k)→ob=ir he.t i:=fun i q1 q2 ob _ hn=>absurd (show i=he.bF+(i-he.bF) by omega) (hn (i-he.bF) (by omega))
  exact J.t (fun i ob=>i∉E.eO++(E.bs++E.cs)→(∀k,k<H.m→i≠he.bF+k)→ob=ir he.t i) (fun i hi hn=>absurd hi hn) (fun i _ _ _=>rfl)
   (Ag _ _ _ (fun b hb=>bsn b (zQ _ hb))) (Af (m:=he.bF+H.m) _ _ _ _ (by omega) (fun b hb=>bsn b (zS _ hb)) (fun i q1 q2=>Ig i (by omega) q2)) (Ae (m:=he.bF+H.m) _ _ _ (by omega) Ig) i h1 h2
 have cT:∀i,¬i<dJ→eS H.cP (oM i)=false→(hp hc).ob i=(hp he).ob i∧((hp hc).fr i↔(hp he).fr i):=fun i hl hk=>by
  rw [(gR hl).1,(gR hl).2,(gR hl).1,(gR hl).2]
  unfold fq iM
  rw [J.rg,nY _ _ _ EO.cP,hk,if_neg (by simp)]
  exact ⟨rfl,Iff.rfl⟩
 refine ⟨fun i h1 h2=>?_,cT,fun i hw=>?_⟩
 ·have hl:i<dJ:=by omega
  show (if i<dJ then ir hc.t i else _)=(if i<dJ then ir he.t i else _)
  rw [if_pos hl,if_pos hl]
  exact Qf i h2 (fun k _=>by omega)
 ·have hw:(((E.bs++E.cs).map fT++E.eO.map fT)++((List.range H.m).map (fun k=>fT (he.bF+k))++H.cP.map fun p=>kA p.1)).any (Nat.beq (res i))=false:=hw
  rw [List.any_append,List.any_append,List.any_append] at hw
  simp only [Bool.or_eq_false_iff] at hw
  obtain ⟨⟨w1,w2⟩,w3,w4⟩:=hw
  by_cases hl:i<dJ
  ·have nin:∀l:List Nat,(l.map fT).any (Nat.beq (res i))=false→i∉l:=fun l h hm=>by
    rw [any_beq.2 (by rw [pX hl];exact List.mem_map.2 ⟨i,hm,rfl⟩)] at h;cases h
   have n3:∀k,k<H.m→i≠he.bF+k:=fun k hk e=>by
    rw [any_beq.2 (by rw [pX hl,e];exact List.mem_map.2 ⟨k,List.mem_range.2 hk,rfl⟩)] at w3;cases w3
   refine ⟨?_,?_⟩
   ·show (if i<dJ then ir hc.t i else _)=(if i<dJ then ir he.t i else _)
    rw [if_pos hl,if_pos hl]
    exact Qf i (fun h=>(zX.1 h).elim (nin _ w2) (nin _ w1)) n3
   ·show (if i<dJ then hc.bF≤i else _)↔(if i<dJ then he.bF≤i else _)
    rw [if_pos hl,if_pos hl,J.bF]
    refine ⟨fun h=>by omega,fun h=>?_⟩
    rcases Nat.lt_or_ge i (he.bF+H.m) with h1 | h1
    ·exact absurd (show i=he.bF+(i-he.bF) by omega) (n3 (i-he.bF) (by omega))
    ·exact h1
  ·refine cT i hl ?_
   rw [tg hl,Ac] at w4
   exact w4
theorem PO {n:Nat} {F':Tr A} {h':Go.Bm.H} {nQ:List Nat} {T:Fp} (EO:wJ H E TT Fe he) (sA:∀i,he.bF≤i→i<dJ→ir he.t i=none) (Y1:∀i,i∉nS→cd F'.get i=cd Fe.get i)
  (YV:∀i,i<he.bF→i∉E.eO++(E.bs++E.cs++E.qs)→(hp h').ob i=(hp he).ob i) (aej:∀i,¬i<dJ→eS H.cP (oM i)=false→(hp h').ob i=(hp he).ob i∧((hp h').fr i↔(hp he).fr i))
  (MW:Hr H n he.bF E.bs E.cs E.qs E.eO TT F' h' nQ T=some s) (J:sS H nS E Fe he s Fc hc) {S0:Hp} {g0:G} {w0 w:World} {a:Act} (hf:∀o,he.bF≤o→o<dJ→S0.fr o∧g0.cn o=none)
  (hR:R S0 g0 w0 (jW n F' nQ (hp h')) a w):R S0 g0 w0 (jW n Fc TT (hp hc)) a w:=by
 have abw:=EO.top
 have hm:H.m=H.grow.length+ub H.Ca:=rfl
 unfold Hr at MW
 obtain ⟨Hx,MV⟩:=ab MW
 clear MW
 rw [zC,zC] at Hx
 obtain ⟨⟨_,hds⟩,RD⟩:=Hx
 rw [List.all_eq_true] at RD
 obtain rfl:=Kn hds
 split at MV
 ·rename_i v gg b ee c hv hg hb hee Ql
  obtain ⟨JO,ael⟩:=ab MV
  clear MV
  cases ael
  obtain ⟨gr,nG⟩:=gg
  obtain ⟨er,nC⟩:=ee
  obtain ⟨n1,n2⟩:=yS JO
  obtain ⟨p1,p2⟩:=IH _ _ _ hg
  obtain ⟨c1,c2,c3⟩:=Ev _ _ _ _ hee
  obtain ⟨g,hI,hE,hD,hs,hV⟩:=hR
  have hV:∀i,i<n→V g (cd F'.get i) (a.tmps.getD i undef):=hV
  have RH:(nG++nC).length=H.m:=by rw [zY,p1,c1];exact hm.symm
  have PV:∀(k o:Nat),(nG++nC)[k]?=some (some o)→o<dJ:=fun k o e=>by
   by_cases hk:k<nG.length
   ·rw [zK hk] at e;exact Ih hg k o e
   ·rw [zJ (by omega)] at e;exact c2 _ o e
  have gap:∀(k:Nat) (nm:Option Nat),nG[k]?=some nm→(nG++nC)[k]?=some nm:=fun k nm e=>by rw [zK (zB.1 e).1];exact e
  have cap:∀(k:Nat) (nm:Option Nat),nC[k]?=some nm→(nG++nC)[H.grow.length+k]?=some nm:=fun k nm e=>by rw [zJ (by omega),p1,Nat.add_sub_cancel_left];exact e
  have YZ:∀(k o:Nat),(nG++nC)[k]?=some (some o)→he.bF≤o∨o∈E.eO:=n1
  have YY:∀(k k' o:Nat),(nG++nC)[k]?=some (some o)→(nG++nC)[k']?=some (some o)→k=k':=n2
  generalize zd:nG++nC=names at RH PV gap cap YZ YY
  have hlN:he.bF+names.length≤dJ:=by rw [RH];exact abw
  have m0:=J3 he.bF names g
  have Yd:∀(k:Nat) (nm:Option Nat) (z:Nat) (cc:A),names[k]?=some nm→Ck z cc nm→∀v,V g cc v→V (gj he.bF names g) (.tw (.loc (he.bF+k)) z) v:=fun k nm z cc e P9 v hvi=>by
   cases nm with
   | some o=>
    have P9:cc = .tw (.loc o) z:=P9
    rw [P9] at hvi
    have cR:(gj he.bF names g).cn (he.bF+k)=g.cn o:=BH e hlN
    cases hvi with
    | Ai _ _ ad h1=>exact .Ai (.loc (he.bF+k)) z ad (cR.trans h1)
    | tw _ _ m b cap t h1 hn hx hp d hd=>exact .tw (.loc (he.bF+k)) z m b cap t (cR.trans h1) hn hx hp d hd
   | none=>
    obtain ⟨ad,h1⟩:=P9 g _ hvi
    rw [h1]
    exact .Ai (.loc (he.bF+k)) z ad (BH e hlN)
  have Ye:∀(k:Nat) (nm:Option Nat) (t:Ty) (l:List t.T),names[k]?=some nm→K2 t h'.t l nm→∀x,some (Ob.cells (l.flatMap (aJ t)))=some x→(he.bF+k<he.bF→(((hp h').ob (he.bF+k)=some x∧Lh he.bF x)∨∃cs kq,(hp h').ob (he.bF+k)=some (.cells cs)∧x = .cells kq∧kq.length=cs.length∧∀vs,Vs g cs vs→Vs (gj he.bF names g) kq vs)) ∧
    (he.bF≤he.bF+k→he.bF+k<dJ→∃k' nm,he.bF+k=he.bF+k'∧names[k']?=some nm∧(∀o,nm=some o→(hp h').ob o=some x∧Lh he.bF x)∧(nm=none→x = .cells [])):=fun k nm t l e JF x hx=>by
   cases hx
   refine ⟨fun dP=>by omega,fun _ dP=>⟨k,nm,rfl,e,fun o ho=>?_,fun ho=>?_⟩⟩
   ·subst ho
    have JF:o<dJ∧ir h'.t o=some (.cells (l.flatMap (aJ t))):=JF
    refine ⟨?_,fun c hc=>by obtain ⟨y,_,hy⟩:=List.mem_flatMap.1 hc;exact lu t y c hy⟩
    show (if o<dJ then _ else _)=_
    rw [if_pos JF.1];exact JF.2
   ·subst ho
    have JF:l=[]:=JF
    subst JF;rfl
  have fQ:∀i,i<dJ→(hp h').ob i=ir h'.t i:=fun i hi=>if_pos hi
  have bg:=p2 (fun i c=>i<n→V (gj he.bF names g) c (a.tmps.getD i undef)) (fun i ob=>∀x,ob=some x→(i<he.bF→(((hp h').ob i=some x∧Lh he.bF x)∨∃cs kq,(hp h').ob i=some (.cells cs)∧x = .cells kq∧kq.length=cs.length∧∀vs,Vs g cs vs→Vs (gj he.bF names g) kq vs))∧(he.bF≤i→i<dJ→∃k nm,i=he.bF+k∧names[k]?=some nm∧(∀o,nm=some o→(hp h').ob o=some x∧Lh he.bF x)∧(nm=none→x = .cells []))) he.bF
   (fun k nm i z e hi P9 _=>Yd k nm z _ (gap k nm e) P9 _ (hV i hi)) (fun k nm t l e JF=>Ye k nm t l (gap k nm e) JF)
  have hF:=J.F (fun i c=>i<n→V (gj he.bF names g) c (a.tmps.getD i undef)) (fun i _ _=>.dI _)
   (fun i hi hn=>by
    have:=hV i hn
    rw [Y1 i hi] at this
    exact EO.slot i g _ _ m0 this)
   (IG (fun i ag t x hi hx _=>rT ag t x g _ _ m0 (mj hx (hV i hi))) _ _ hv) bg.1
  have hT:=J.t _ (fun i _ x hx=>by cases hx)
   (fun i hi x hx=>by
    refine ⟨fun dP=>.inl ?_,fun h1 h2=>by rw [sA i h1 h2] at hx;cases hx⟩
    have he1:(hp h').ob i=ir he.t i:=by
     by_cases hq:i∈E.qs
     ·rw [fQ i (by omega),Es (RD i hq),Es (EO.loop i hq).1]
     ·rw [YV i dP (fun h=>by
       rcases zX.1 h with h | h
       ·exact hi (zQ _ h)
       ·rcases zX.1 h with h | h
        ·exact hi (zS _ h)
        ·exact hq h)]
      exact if_pos (by omega)
    exact ⟨he1.trans hx,EO.mem i x hx⟩)
   (IJ (tt:=h'.t) _ _ _ (fun b t y hbm hbt x hx=>by
    cases hx
    have dP:=EO.bsl b (zQ _ hbm)
    exact ⟨fun _=>.inl ⟨by rw [fQ b (by omega)];exact hbt,lu t y⟩,fun h=>by omega⟩) hb)
   (c3 he.bF g (gj he.bF names g) (he.bF+H.grow.length) _ m0 (fun k nm z cc e P9 v hv=>by have:=Yd (H.grow.length+k) nm z cc (cap k nm e) P9 v hv;rwa [←Nat.add_assoc] at this) (fun k nm t l e JF=>by have:=Ye (H.grow.length+k) nm t l (cap k nm e) JF;rwa [←Nat.add_assoc] at this)
    (fun b cs kq hbm hbt hl hcv x hx=>by
     cases hx
     have dP:=EO.bsl b (zS _ hbm)
     exact ⟨fun _=>.inr ⟨cs,kq,by rw [fQ b (by omega)];exact hbt,rfl,hl,hcv⟩,fun h=>by omega⟩)) bg.2
  have hDl:∀i,i∈E.eO→ir hc.t i=none:=fun i hi=>by
   have Ig:∀i,he.bF≤i→i<he.bF+H.m→∀ob:Option Ob,i∈E.eO→ob=none:=fun i q1 _ ob hn=>by have:=EO.del _ hn;omega
   have bsn:∀b∈E.bs++E.cs,∀ob:Option Ob,b∈E.eO→ob=none:=fun b hb ob hn=>absurd hn (EO.apart b hb)
   exact J.t (fun i ob=>i∈E.eO→ob=none) (fun _ _ _=>rfl) (fun i hn hd=>absurd (zQ _ hd) hn) (Ag _ _ _ (fun b hb=>bsn b (zQ _ hb))) (Af (m:=he.bF+H.m) _ _ _ _ (by omega) (fun b hb=>bsn b (zS _ hb)) (fun i q1 q2=>Ig i (by omega) q2)) (Ae (m:=he.bF+H.m) _ _ _ (by omega) Ig) i hi
  have Y9:=nA _ _ _ Ql
  have hRg:∀i,¬i<dJ→(hp hc).ob i=(hp h').ob i∧((hp hc).fr i↔(hp h').fr i):=fun i hl=>by
   cases hk:eS H.cP (oM i) with
   | true=>
    obtain ⟨q1,_⟩:=Y9 _ hk
    rw [(gR hl).1,(gR hl).2,(gR hl).1,(gR hl).2]
    unfold fq iM
    rw [J.rg,nY _ _ _ EO.cP,hk,if_pos rfl,q1]
    exact ⟨rfl,Iff.rfl⟩
   | false=>
    have e1:=(vN EO J).2.1 i hl hk
    have e2:=aej i hl hk
    exact ⟨e1.1.trans e2.1.symm,e1.2.trans e2.2.symm⟩
  have RQ:∀i,i<dJ→(hp hc).ob i=ir hc.t i:=fun i hi=>if_pos hi
  have E1:∀{i},¬stay he.bF i→he.bF≤i∧i<dJ:=fun {i} h=>by unfold stay at h;omega
  have hrj:=Q1 (S':=hp hc) hlN (fun i x hi e=>?_) (fun i x hi e=>?_) YY (fun k o e hi=>?_) (fun i e=>⟨fun hi=>?_,fun hi=>?_⟩) hf hI hE
  ·refine ⟨_,hrj.1,hrj.2,⟨hD.1,fun i d e e1 e2=>?_⟩,hs,fun i hi=>hF i hi⟩
   obtain ⟨b',s',q1,q2⟩:=hD.2 i d e e1 e2
   exact ⟨b',s',(m0.cn d (.inl (EO.dsl d (zG e1)))).trans q1,q2⟩
  ·rcases hi with hi | hi
   ·rw [RQ i (by omega)] at e
    exact (hT i x e).1 hi
   ·refine .inl ⟨(hRg i hi).1.symm.trans e,?_⟩
    rw [(gR hi).1] at e
    unfold fq at e
    split at e
    ·exact Iq e
    ·cases e
  ·obtain ⟨h1,h2⟩:=E1 hi
   rw [RQ i h2] at e
   exact (hT i x e).2 h1 h2
  ·have Cw:=PV k o e
   rcases YZ k o e with h1 | h1
   ·rcases hi with hi | hi
    ·omega
    ·exact absurd Cw hi
   ·rw [RQ o Cw];exact hDl o h1
  ·obtain ⟨h1,h2⟩:=E1 hi
   have e:(if i<dJ then hc.bF≤i else _):=e
   rw [if_pos h2,J.bF] at e
   rw [RH];exact e
  ·rcases hi with hi | hi
   ·have e:(if i<dJ then hc.bF≤i else _):=e
    rw [if_pos (show i<dJ by omega),J.bF] at e
    omega
   ·exact (hRg i hi).2.1 e
 ·cases MV
end
end
section
open Go.RowKit
theorem Inv.H3 {g:G} {S:Hp} {w:World} (h:Inv g S w) {q b:Nat} {s:Nat×Nat} {st LP:LoopState} {pe Q6:Option Code} {rr:Loop} (ho:S.ob q=some (.d_ (.loop st pe))) (hg:g.cn q=some (some b,s)) (hr:w.heap[b]?=some (.loop rr)) :
  Inv g (S.set q (.d_ (.loop LP Q6))) (w.putObj b (.loop { rr with state:=LP,pending:=Q6 }))∧Ext S g w (S.set q (.d_ (.loop LP Q6))) g (w.putObj b (.loop { rr with state:=LP,pending:=Q6 })):=by
 have hb:b<w.heap.size:=(Array.getElem?_eq_some_iff.1 hr).1
 refine h.HJ ho hg (by simp) (fun k hk=>World.putObj_heap_other hk) rfl rfl rfl ⟨_,World.putObj_heap_same hb,_,rfl,rfl,rfl⟩ (fun l e=>⟨_,World.putObj_heap_same hb,?_⟩)
 obtain ⟨r,k1,k2⟩:=h.lp b l e
 rw [hr] at k1
 cases k1
 exact k2
theorem Inv.Yy {g:G} {S:Hp} {w:World} (h:Inv g S w) {q:Nat} (hf:S.fr q) (rr:Loop) :
  ∃g',Inv g' (S.new q (.d_ (.loop rr.state rr.pending))) (w.alloc (.loop rr))∧Ext S g w (S.new q (.d_ (.loop rr.state rr.pending))) g' (w.alloc (.loop rr))∧g'.cn q=some (some w.heap.size,(0,0))∧g'.lp w.heap.size=some (yZ rr):=by
 obtain ⟨i1,x1⟩:=h.alloc (s:=(0,0)) hf (x:=.d_ (.loop rr.state rr.pending)) (ob:=.loop rr) ⟨_,heap_alloc_new w _,rr,rfl,rfl,rfl⟩
 have Qd:(lV g q (some w.heap.size,(0,0))).lp w.heap.size=none:=by
  cases hl:(lV g q (some w.heap.size,(0,0))).lp w.heap.size with
  | none=>rfl
  | some l=>
   obtain ⟨r,k1,_⟩:=h.lp _ l hl
   have:=(Array.getElem?_eq_some_iff.1 k1).1
   omega
 have cR:=dG (g:=g) (o:=q) (p:=(some w.heap.size,(0,0)))
 generalize lV g q (some w.heap.size,(0,0))=g1 at i1 x1 Qd cR
 have hle:Le g1 ⟨g1.cn,g1.mem,fun k=>if k=w.heap.size then some (yZ rr) else g1.lp k⟩:=⟨fun _ _ e=>e,fun _ _ _ e=>e,fun b l e=>by
  show (if b=w.heap.size then _ else g1.lp b)=some l
  split
  ·rename_i hb;rw [hb,Qd] at e;cases e
  ·exact e⟩
 refine ⟨⟨g1.cn,g1.mem,fun k=>if k=w.heap.size then some (yZ rr) else g1.lp k⟩,⟨fun o cs e=>(i1.cells o cs e).imp id fun ⟨b,t,k1,cur,ty,k2,k3,k4⟩=>⟨b,t,k1,cur,ty,k2,k3,k4.mono hle⟩,fun o x e=>?_,i1.fresh,i1.lt,i1.inj,i1.mem,i1.o_,fun b l e=>?_⟩,⟨x1.le.trans hle,x1.os,x1.tape,x1.output,x1.size,x1.frame,fun k ⟨o,s,x,e1,e2⟩=>x1.own k ⟨o,s,x,e1,e2⟩,x1.Qo,x1.fr,x1.yX,fun b l e=>?_⟩,cR,if_pos rfl⟩
 ·obtain ⟨b,s,ob,k1,k2,k3⟩:=i1.d_ o x e
  exact ⟨b,s,ob,k1,k2,k3.mono hle⟩
 ·have e:(if b=w.heap.size then some (yZ rr) else g1.lp b)=some l:=e
  split at e
  ·rename_i hb;cases e;exact ⟨rr,by rw [hb];exact heap_alloc_new w _,rfl⟩
  ·exact i1.lp b l e
 ·have e:(if b=w.heap.size then some (yZ rr) else g1.lp b)=some l:=e
  split at e
  ·rename_i hb;exact .inr (by omega)
  ·exact x1.lpo b l e
section
variable {β:Type}
theorem Ej {h:H} {q:Nat} {x:jJ} {t':Tr jJ} (hq:q<16777216) (ht:t'.get=fun m=>if m=q then some x else h.t.get m):s_ h { h with t:=t' } (.wr [fT q])∧∀S,bK (.wr [fT q]) (hp h) S→l6 (.wr [fT q]) (hp { h with t:=t' }) S=S.set q x.low:=by
 have e:=tH (h:=h) (x:=x) hq ht
 have hT:∀u∈[Up.set q x.low],aR (.wr [fT q]) u.id=true:=fun u hu=>by rcases zF.1 hu with rfl;exact aM (o:=q) hq (.head _)
 have out:∀i,aR (.wr [fT q]) i=false→(hp { h with t:=t' }).ob i=(hp h).ob i∧((hp { h with t:=t' }).fr i↔(hp h).fr i):=fun i hi=>by
  rw [e];exact gI _ _ i (fun u hu hh=>by rw [hh,hT u hu] at hi;cases hi)
 exact ⟨⟨out,fun i hi=>out i (xt hi)⟩,fun S hA=>by rw [e,lR hT hA];rfl⟩
theorem Fo {h:H} {q:Nat} {t':Tr jJ} (hq:q<16777216) (ht:t'.get=fun m=>if m=q then none else h.t.get m):s_ h { h with t:=t' } (.wr [fT q])∧∀S,bK (.wr [fT q]) (hp h) S→l6 (.wr [fT q]) (hp { h with t:=t' }) S=S.del q:=by
 have e:hp { h with t:=t' }=app [.del q] (hp h):=Hp.ext' (fun i=>by
  show (if i<dJ then ir t' i else _)=if i=q then none else (if i<dJ then ir h.t i else _)
  unfold ir
  rw [ht]
  by_cases hi:i=q
  ·subst hi;rw [if_pos (show i<dJ from hq),if_pos rfl];simp
  ·simp only [if_neg hi]) (fun i=>Iff.rfl)
 have hT:∀u∈[Up.del q],aR (.wr [fT q]) u.id=true:=fun u hu=>by rcases zF.1 hu with rfl;exact aM (o:=q) hq (.head _)
 have out:∀i,aR (.wr [fT q]) i=false→(hp { h with t:=t' }).ob i=(hp h).ob i∧((hp { h with t:=t' }).fr i↔(hp h).fr i):=fun i hi=>by
  rw [e];exact gI _ _ i (fun u hu hh=>by rw [hh,hT u hu] at hi;cases hi)
 exact ⟨⟨out,fun i hi=>out i (xt hi)⟩,fun S hA=>by rw [e,lR hT hA];rfl⟩
theorem EI {h:H} {x:jJ} {t':Tr jJ} (hq:h.bF<16777216) (ht:t'.get=fun m=>if m=h.bF then some x else h.t.get m):s_ h { h with t:=t',bF:=h.bF+1 } (.wr [fT h.bF])∧∀S,bK (.wr [fT h.bF]) (hp h) S→l6 (.wr [fT h.bF]) (hp { h with t:=t',bF:=h.bF+1 }) S=S.new h.bF x.low:=by
 have e:=JK (h:=h) (x:=x) hq ht
 have hT:∀u∈[Up.new h.bF x.low],aR (.wr [fT h.bF]) u.id=true:=fun u hu=>by rcases zF.1 hu with rfl;exact aM (o:=h.bF) hq (.head _)
 have out:∀i,aR (.wr [fT h.bF]) i=false→(hp { h with t:=t',bF:=h.bF+1 }).ob i=(hp h).ob i∧((hp { h with t:=t',bF:=h.bF+1 }).fr i↔(hp h).fr i):=fun i hi=>by
  rw [e];exact gI _ _ i (fun u hu hh=>by rw [hh,hT u hu] at hi;cases hi)
 exact ⟨⟨out,fun i hi=>out i (xt hi)⟩,fun S hA=>by rw [e,lR hT hA];rfl⟩
theorem Rm {h:H} {q:Nat} {x:jJ} (hq:q<16777216) (hx:h.t.get q=some x):(hp h).ob q=some x.low:=by
 show (if q<dJ then _ else _)=_
 rw [if_pos (show q<dJ from hq)];unfold ir;rw [hx]
theorem FC {h:H} {q:Nat} {S:Hp} {x:jJ} {l:List Nat} {w:Bool} {s:List Nat} (hq:q<16777216) (hx:h.t.get q=some x) (hA:bK ⟨false,l,w,s⟩ (hp h) S) (hm:fT q∈l):S.ob q=some x.low:=(hA q (aM hq hm)).1.trans (Rm hq hx)
def Jt:Option Code→Option Exit
 | none=>some .normal
 | some .ret=>some .ret
 | some (.exit id)=>some (.exit id)
 | _=>none
def Ry:LoopState→Bool
 | .busy=>true
 | _=>false
def Yf:Exit→Option (Option Code)
 | .normal=>some none
 | .ret=>some (some .ret)
 | .exit id=>some (some (.exit id))
 | _=>none
def Ii:Option Code→LoopState
 | none=>.ready
 | some _=>.done
theorem Js {pe:Option Code} {e:Exit} (h:Jt pe=some e):(pe=none∧e = .normal)∨(pe=some .ret∧e = .ret)∨∃id,pe=some (.exit id)∧e = .exit id:=by
 unfold Jt at h
 split at h
 ·cases h;exact .inl ⟨rfl,rfl⟩
 ·cases h;exact .inr (.inl ⟨rfl,rfl⟩)
 ·cases h;exact .inr (.inr ⟨_,rfl,rfl⟩)
 ·cases h
def CP:Tr A→List Tmp→List A→(Tr A→Option β)→Option β
 | F,[],[],k=>k F
 | F,t::ts,a::aa,k=>g_ F t (some a) (fun F=>CP F ts aa k)
 | _,_,_,_=>none
theorem xD {r:β}:∀(ps:List Tmp) (aa:List A) (F:Tr A) (k:Tr A→Option β),CP F ps aa k=some r→∃F1,k F1=some r∧aa.length=ps.length∧∀(g:G) (n:Nat) (vs:List Value) (tmps:Array Value),aa.length=vs.length→(∀(i:Nat) (p:A) (v:Value),aa[i]?=some p→vs[i]?=some v→V g p v)→tmps.size=n→(∀i,i<n→V g (cd F.get i) (tmps.getD i undef)) →
  ((ps.zip vs).foldl (fun tmps x=>tmps.setIfInBounds x.1 x.2) tmps).size=n∧∀i,i<n→V g (cd F1.get i) (((ps.zip vs).foldl (fun tmps x=>tmps.setIfInBounds x.1 x.2) tmps).getD i undef)
 | [],[],F,k,h=>⟨F,h,rfl,fun g n vs tmps hl hv hs hF=>⟨by simpa using hs,by simpa using hF⟩⟩
 | t::ts,a::aa,F,k,h=>by
  obtain ⟨_,F',k1,k2⟩:=cp h
  obtain ⟨F1,q1,q2,q3⟩:=xD ts aa F' k k1
  refine ⟨F1,q1,by simp [q2],fun g n vs tmps hl hv hs hF=>?_⟩
  cases vs with
  | nil=>simp at hl
  | cons v vs=>
   refine q3 g n vs (tmps.setIfInBounds t v) (by simpa using hl) (fun i p v k1 k2=>hv (i+1) p v (by simpa using k1) (by simpa using k2)) (by simpa using hs) (fun i hi=>?_)
   rw [rI k2]
   by_cases hit:i=t
   ·subst hit
    rw [if_pos rfl,show (tmps.setIfInBounds i v).getD i undef=v by simp [Array.getD,show i<tmps.size by omega]]
    exact hv 0 a v rfl rfl
   ·rw [if_neg hit,show (tmps.setIfInBounds t v).getD i undef=tmps.getD i undef by
     simp only [Array.getD_eq_getD_getElem?]
     rw [Array.getElem?_setIfInBounds_ne (fun h=>hit h.symm)]]
    exact hF i hi
 | [],_::_,_,_,h=>by cases h
 | _::_,[],_,_,h=>by cases h
theorem YE {g:G} {fi ca:List A} {x:A} {fv cv:List Value} {v:Value} (hf:fi.length=fv.length) (h1:∀(i:Nat) (c:A) (x:Value),fi[i]?=some c→fv[i]?=some x→V g c x) (hx:V g x v) (h2:∀(i:Nat) (c:A) (x:Value),ca[i]?=some c→cv[i]?=some x→V g c x) :
  ∀(i:Nat) (p:A) (u:Value),(fi++x::ca)[i]?=some p→(fv++v::cv)[i]?=some u→V g p u:=by
 intro i p u k1 k2
 rcases Nat.lt_trichotomy i fi.length with c1 | c1 | c1
 ·rw [zK c1] at k1
  rw [zK (by omega)] at k2
  exact h1 i p u k1 k2
 ·rw [zJ (by omega)] at k1 k2
  rw [c1,Nat.sub_self] at k1
  rw [c1,hf,Nat.sub_self] at k2
  simp at k1 k2;subst k1 k2;exact hx
 ·rw [zJ (by omega)] at k1 k2
  rw [←hf] at k2
  obtain ⟨d,hd⟩:∃d,i-fi.length=d+1:=⟨i-fi.length-1,by omega⟩
  rw [hd] at k1 k2
  exact h2 d p u (by simpa using k1) (by simpa using k2)
end
end
section
open Go.RowKit
section
variable {P:Program} {E:Env} {cx:Cx} {n:Nat} {β:Type} {r:β}
abbrev KC (β:Type):=Exit→Tr A→H→List Nat→Fp→Option β
def QW (K1:Tr A→H→List Nat→Fp→Option β) (K:KC β):KC β:=fun e F h ds U=>match e with
 | .normal=>K1 F h ds U
 | e=>K e F h ds U
def ahC (id:Nat) (K:KC β):KC β:=fun e F h ds U=>match e with
 | .exit i=>bif Nat.beq i id then K .normal F h ds U else K (.exit i) F h ds U
 | e=>K e F h ds U
def SB (n:Nat) (F:Tr A) (c:Operand) (k:Tr A→Bool→Option β):Option β:=match c with
 | .tmp d=>match EE n F (.tmp d) with
  | .v (.bool b)=>br b (g_ F d (some (.v (.bool true))) (fun F'=>k F' true)) (g_ F d (some (.v (.bool false))) (fun F'=>k F' false))
  | _=>none
 | .const (.bool b)=>k F b
 | _=>none
theorem ND {F:Tr A} {c:Operand} {k:Tr A→Bool→Option β} (h:SB n F c k=some r):∃F' b,k F' b=some r∧(∀ds S,jW n F' ds S=jW n F ds S)∧EE n F c = .v (.bool b):=by
 unfold SB at h
 split at h
 ·rename_i d
  split at h
  ·rename_i b hb
   have same:∀(F':Tr A) (c:Bool),b=c→F'.get=(fun m=>if m=d then some (.v (.bool c)) else F.get m)→∀ds S,jW n F' ds S=jW n F ds S:=fun F' c hc e ds S=>by
    have:cd F'.get=cd F.get:=by
     funext i
     by_cases hi:i=d
     ·subst hi
      rw [ED hb (by intro h;cases h),hc]
      unfold cd
      rw [e];simp
     ·unfold cd
      rw [e];simp [hi]
    unfold jW
    rw [this]
   rcases tS h with ⟨rfl,h1⟩ | ⟨rfl,h1⟩
   ·obtain ⟨_,F',k1,k2⟩:=cp h1
    exact ⟨F',true,k1,same F' true rfl k2,hb⟩
   ·obtain ⟨_,F',k1,k2⟩:=cp h1
    exact ⟨F',false,k1,same F' false rfl k2,hb⟩
  ·cases h
 ·rename_i b
  exact ⟨F,b,h,fun ds S=>rfl,rfl⟩
 ·cases h
def pI:az→List Nat
 | .region _ ops _=>xo ops
 | .seq x y=>pI x++pI y
 | .cut H x y=>(pI x++(H.qH.map (·.1)++H.grow.map (·.1)))++pI y
 | .cond _ x y=>pI x++pI y
 | .block _ x=>pI x
 | .loop H x=>pI x++(H.qH.map (·.1)++H.grow.map (·.1))
 | _=>[]
def De {σ:Type} (pj:Tr A→H→List Nat→Fp→Option σ) (k:σ→Option β) (K:KC β):KC β:=fun e F h ds T=>match e with
 | .normal=>(match pj F h ds T with
  | some s=>k s
  | none=>none)
 | e=>K e F h ds T
def Hf (U:Fp) (K:KC β):KC β:=fun e F h ds T=>K e F h ds (U.cat T)
abbrev Ub (β:Type):=Nat→List Oper→Tr A→H→Fp→(Tr A→H→Fp→Option β)→Option β
def Ed (J:LH):Option Nat:=match J.loops with
 | [k]=>bif Nat.ble 1000000 k then some (k-1000000) else none
 | _=>none
def x_ (E:Env) (cx:Cx) (inr:Bool) (n:Nat) (dr:Ub β):az→Tr A→H→List Nat→Fp→KC β→Option β
 | .skip,F,h,ds,U,K=>K .normal F h ds U
 | .ret,F,h,ds,U,K=>K .ret F h ds U
 | .exit id,F,h,ds,U,K=>K (.exit id) F h ds U
 | .bad _,_,_,_,_,_=>none
 | .region id ops d,F,h,ds,U,K=>bif d then dr id ops F h U (fun F h U=>K .normal F h ds U) else CZ E cx n ops ops F h U (fun F h U=>K .normal F h ds U)
 | .seq x y,F,h,ds,U,K=>x_ E cx inr n dr x F h ds U (QW (fun F h ds U=>x_ E cx inr n dr y F h ds U K) K)
 | .cut J x y,F,h,ds,U,K=>match Nv J F h with
  | some e=>bif Fl J e ds F h then
    jn (fun k=>x_ E cx inr n dr x F h ds .no (De (Hr J n h.bF e.bs e.cs e.qs e.eO ds) k (Hf U K)))
     (fun s=>GK J (pI x++(J.qH.map (·.1)++J.grow.map (·.1))) e.bs e.cs e.eO F h s (fun Fc hc=>x_ E cx inr n dr y Fc hc ds .no (Hf (U.cat (jT J h.bF e)) K)))
   else none
  | none=>none
 | .cond c x y,F,h,ds,U,K=>SB n F c (fun F b=>bif b then x_ E cx inr n dr x F h ds U K else x_ E cx inr n dr y F h ds U K)
 | .block id x,F,h,ds,U,K=>x_ E cx inr n dr x F h ds U (ahC id K)
 | .loop J x,F,h,ds,U,K=>match Ed J with
  | some m=>Nat.rec (motive:=fun _=>Tr A→H→List Nat→Fp→Option β) (fun _ _ _ _=>none) (fun _ ih F h ds U=>x_ E cx inr n dr x F h ds U (QW ih K)) m F h ds U
  | none=>match Nv J F h with
  | some e=>bif Fl J e ds F h then (match Hr J n h.bF e.bs e.cs e.qs e.eO ds F h ds .no with
   | some s0=>loop (fun k s=>GK J (pI x++(J.qH.map (·.1)++J.grow.map (·.1))) e.bs e.cs e.eO F h s (fun Fc hc=>x_ E cx inr n dr x Fc hc ds .no (De (Hr J n h.bF e.bs e.cs e.qs e.eO ds) k (Hf (U.cat (jT J h.bF e)) K)))) s0
   | none=>none) else none
  | none=>none
 | .range g ps J aa bd,F,h,ds,U,K=>bif inr then none else match EE n F g with
  | .fn f fi ca=>bif Nat.blt h.bF 16777214 then g_ h.t h.bF (some (.d_ .Fm)) (fun t1=>g_ t1 (h.bF+1) (some (.d_ (.loop .ready none))) (fun t2=>cx.call β f (fi ++ .wL (h.bF+1) n F ps J aa bd::ca) { h with t:=t2,bF:=h.bF+1+1 } (fun _ h3 T3=>match h3.t.get (h.bF+1) with
   | some (.d_ (.loop st pe))=>bif Ry st then none else g_ h3.t (h.bF+1) none (fun t4=>match Jt pe with
    | some e=>K e F { h3 with t:=t4 } (h.bF::ds) (U.cat (((Fp.wr [fT h.bF]).cat (.wr [fT (h.bF+1)])).cat (T3.cat (.wr [fT (h.bF+1)]))))
    | none=>none)
   | _=>none))) else none
  | _=>none
def NZ (P:Program) (inr:Bool) (n:Nat) (c:Code) (F:Tr A) (h:H) (ds:List Nat) (e:Exit) (F':Tr A) (h':H) (nQ:List Nat) (T:Fp):Prop:=
 s_ h h' T∧∀ro,(inr=false→ro=none)→∀S0 g0 w0,K8 F h F' h' n T (fun Q st=>pw P ro S0 g0 w0 c Q st) e ds nQ
def La (P:Program) (n:Nat) (dr:Ub β):Prop:=
 ∀id ops F h U K (r:β),dr id ops F h U K=some r→∃F' h' T,K F' h' (U.cat T)=some r∧Kp (xo ops) F F'∧∀inr ds,NZ P inr n (.region id ops.toArray true) F h ds .normal F' h' ds T
theorem all_eq {S S2:Hp} {l m:List Nat} {w:Bool} (h:bK ⟨true,l,w,m⟩ S S2):S2=S:=Hp.ext' (fun i=>(h i rfl).1) (fun i=>(h i rfl).2)
theorem Ez {S S2:Hp} {l m:List Nat} {w:Bool}:l6 ⟨true,l,w,m⟩ S S2=S:=Hp.ext' (fun i=>by
 show (if aR ⟨true,l,w,m⟩ i=true then S.ob i else S2.ob i)=S.ob i
 rw [if_pos (show aR ⟨true,l,w,m⟩ i=true from rfl)]) (fun i=>by
 show (if aR ⟨true,l,w,m⟩ i=true then S.fr i else S2.fr i)↔S.fr i
 rw [if_pos (show aR ⟨true,l,w,m⟩ i=true from rfl)])
theorem Jv (J:LH) (N:Nat) (e:LD) (T:Fp):∃l m w,(jT J N e).cat T=⟨true,l,w,m⟩:=⟨_,_,_,rfl⟩
theorem R.entry {n:Nat} {F:Tr A} {h:H} {ds:List Nat} {S0:Hp} {g0:G} {w0 w:World} {a:Act} (hR:R S0 g0 w0 (jW n F ds (hp h)) a w):(∀i,h.bF≤i→i<dJ→ir h.t i=none)∧∀o,h.bF≤o→o<dJ→S0.fr o∧g0.cn o=none:=by
 obtain ⟨g,hI,hE,_⟩:=hR
 have hI:Inv g (hp h) w:=hI
 have hE:Ext S0 g0 w0 (hp h) g w:=hE
 have fr:∀o,h.bF≤o→o<dJ→(hp h).fr o:=fun o h1 h2=>by show (if o<dJ then _ else _);rw [if_pos h2];exact h1
 refine ⟨fun i h1 h2=>?_,fun o h1 h2=>⟨hE.fr o (fr o h1 h2),?_⟩⟩
 ·cases hx:ir h.t i with
  | none=>rfl
  | some x=>
   have fQ:(hp h).ob i=some x:=by show (if i<dJ then _ else _)=_;rw [if_pos h2];exact hx
   have cR:=hI.fresh i (fr i h1 h2)
   cases x with
   | cells cs=>
    rcases hI.cells i cs fQ with ⟨k,_⟩ | ⟨b,t,k,_⟩
    ·rw [cR] at k;cases k
    ·rw [cR] at k;cases k
   | d_ x=>
    obtain ⟨b,s,ob,k,_⟩:=hI.d_ i x fQ
    rw [cR] at k;cases k
 ·have cR:=hI.fresh o (fr o h1 h2)
  cases hx:g0.cn o with
  | none=>rfl
  | some p=>rw [hE.le.cn o p hx] at cR;cases cR
section
variable {J:LH} {nS ds:List Nat} {En:LD} {F:Tr A} {h:H}
theorem Dm {s:J.S} {Fc:Tr A} {hc:H} (k:sS J nS En F h s Fc hc) (hv:∀i,i∈J.qH.map (·.1)++J.grow.map (·.1)→i∈nS):Kp nS F Fc:=by
 have aV:∀(l:List (Nat×Bool×Ty)) (x:mv (l.map (·.2))),(∀i∈l.map (·.1),i∈nS)→KS (fun i c=>i∉nS→c=cd F.get i) l x:=fun l=>by
  induction l with
  | nil=>exact fun _ _=>trivial
  | cons p l ih=>exact fun x hh=>⟨fun hn=>absurd (hh p.1 (.head _)) hn,ih x.2 (fun i hi=>hh i (.tail _ hi))⟩
 have aW:∀(l:List (Nat×Ty)) (j:Nat),(∀i∈l.map (·.1),i∈nS)→KR (fun i c=>i∉nS→c=cd F.get i) l j:=fun l=>by
  induction l with
  | nil=>exact fun _ _=>trivial
  | cons p l ih=>exact fun j hh=>⟨fun hn=>absurd (hh p.1 (.head _)) hn,ih (j+1) (fun i hi=>hh i (.tail _ hi))⟩
 exact k.F (fun i c=>i∉nS→c=cd F.get i) (fun i h1 h2=>absurd h1 h2) (fun i _ _=>rfl) (aV _ _ (fun i hi=>hv i (zQ _ hi))) (aW _ _ (fun i hi=>hv i (zS _ hi)))
theorem YD {n:Nat} {s s':J.S} {Fc T_ F1:Tr A} {hc Ql h1:H} {pC:List Nat} {T1:Fp} (E:wJ J En ds F h) (k:sS J nS En F h s Fc hc) (k':sS J nS En F h s' T_ Ql) (hv:∀i,i∈J.qH.map (·.1)++J.grow.map (·.1)→i∈nS)
  (hkp:Kp nS Fc F1) (mF:s_ hc h1 T1) (MW:Hr J n h.bF En.bs En.cs En.qs En.eO ds F1 h1 pC T1=some s') {S0:Hp} {g0:G} {w0 w:World} {a:Act} (sA:∀i,h.bF≤i→i<dJ→ir h.t i=none) (hf:∀o,h.bF≤o→o<dJ→S0.fr o∧g0.cn o=none)
  (hR:R S0 g0 w0 (jW n F1 pC (hp h1)) a w):R S0 g0 w0 (jW n T_ ds (hp Ql)) a w:=by
 obtain ⟨j1,j2,_⟩:=vN E k
 have hw:=MW
 unfold Hr at hw
 obtain ⟨Hx,_⟩:=ab hw
 rw [zC,zC] at Hx
 have aeb:=E.top
 exact PO E sA (fun i hi=>(hkp i hi).trans (Dm k hv i hi)) (fun i hi hn=>(mF.rd i (B9 Hx.1.1 (by omega) hi hn)).1.trans (j1 i hi (fun h=>hn (by
   rcases zX.1 h with h | h
   ·exact zQ _ h
   ·exact zS _ (zQ _ h)))))
  (fun i hl hk=>by
   have e1:=mF.rd i (B8 Hx.1.1 hl hk)
   have e2:=j2 i hl hk
   exact ⟨e1.1.trans e2.1,e1.2.trans e2.2⟩) MW k' hf hR
theorem Qn {n:Nat} {s':J.S} {T_ F1:Tr A} {Ql h1:H} {pC:List Nat} {T1:Fp} (E:wJ J En ds F h) (k':sS J nS En F h s' T_ Ql)
  (hkp:Kp nS F F1) (mF:s_ h h1 T1) (MW:Hr J n h.bF En.bs En.cs En.qs En.eO ds F1 h1 pC T1=some s') {S0:Hp} {g0:G} {w0 w:World} {a:Act} (sA:∀i,h.bF≤i→i<dJ→ir h.t i=none) (hf:∀o,h.bF≤o→o<dJ→S0.fr o∧g0.cn o=none)
  (hR:R S0 g0 w0 (jW n F1 pC (hp h1)) a w):R S0 g0 w0 (jW n T_ ds (hp Ql)) a w:=by
 have hw:=MW
 unfold Hr at hw
 obtain ⟨Hx,_⟩:=ab hw
 rw [zC,zC] at Hx
 have aeb:=E.top
 exact PO E sA (fun i hi=>hkp i hi) (fun i hi hn=>(mF.rd i (B9 Hx.1.1 (by omega) hi hn)).1) (fun i hl hk=>mF.rd i (B8 Hx.1.1 hl hk)) MW k' hf hR
theorem JB {s:J.S} {Fc:Tr A} {hc:H} (E:wJ J En ds F h) (k:sS J nS En F h s Fc hc):s_ h hc (jT J h.bF En):=⟨fun i hi=>(by cases hi),(vN E k).2.2⟩
theorem Bt {σ:Type} {pj:Tr A→H→List Nat→Fp→Option σ} {k:σ→Option β} {K:KC β} {e:Exit} {T:Fp} (hr:De pj k K e F h ds T=some r):(e = .normal∧∃s,pj F h ds T=some s∧k s=some r)∨(e≠.normal∧K e F h ds T=some r):=by
 unfold De at hr
 split at hr
 ·split at hr
  ·rename_i s hs;exact .inl ⟨rfl,s,hs,hr⟩
  ·cases hr
 ·rename_i jI;exact .inr ⟨jI,hr⟩
theorem EK {inr:Bool} {n:Nat} {x:az} {dr:Ub β} {E:Env} {cx:Cx} {K:KC β} {U:Fp} (hx:∀(F:Tr A) (h:H) (ds:List Nat) (U:Fp) (K:KC β),x_ E cx inr n dr x F h ds U K=some r→∃e F' h' nQ T,K e F' h' nQ (U.cat T)=some r∧Kp (pI x) F F'∧NZ P inr n x.code F h ds e F' h' nQ T)
  (EO:wJ J En ds F h) (hv:∀i,i∈J.qH.map (·.1)++J.grow.map (·.1)→i∈nS) (ha:∀i,i∈pI x→i∈nS):∀(m:Nat) (s:J.S),iter (fun k s=>GK J nS En.bs En.cs En.eO F h s (fun Fc hc=>x_ E cx inr n dr x Fc hc ds .no (De (Hr J n h.bF En.bs En.cs En.qs En.eO ds) k (Hf (U.cat (jT J h.bF En)) K)))) m s=some r →
  ∃Fc hc,sS J nS En F h s Fc hc∧∃e F' h' nQ T,K e F' h' nQ (U.cat ((jT J h.bF En).cat T))=some r∧Kp nS F F'∧s_ h h' ((jT J h.bF En).cat T) ∧
   ∀ro,(inr=false→ro=none)→∀S0 g0 w0,(∀i,h.bF≤i→i<dJ→ir h.t i=none)→(∀o,h.bF≤o→o<dJ→S0.fr o∧g0.cn o=none)→∀Q:Exit→St→Prop,Q e (jW n F' nQ (hp h'))→∀a w,R S0 g0 w0 (jW n Fc ds (hp hc)) a w→Code.roundsIn (FR ro) 0 P x.code (lift S0 g0 w0 Q) m a w
 | 0,s,hr=>by cases hr
 | m+1,s,hr=>by
  obtain ⟨Fc,hc,k1,k2⟩:=Bz (show GK J nS En.bs En.cs En.eO F h s (fun Fc hc=>x_ E cx inr n dr x Fc hc ds .no (De (Hr J n h.bF En.bs En.cs En.qs En.eO ds) (iter (fun k s=>GK J nS En.bs En.cs En.eO F h s (fun Fc hc=>x_ E cx inr n dr x Fc hc ds .no (De (Hr J n h.bF En.bs En.cs En.qs En.eO ds) k (Hf (U.cat (jT J h.bF En)) K)))) m) (Hf (U.cat (jT J h.bF En)) K)))=some r from hr)
  obtain ⟨e1,F1,h1,pC,T1,k3,k4,k5,k6⟩:=hx Fc hc ds .no _ k1
  rw [Fp.tu] at k3
  refine ⟨Fc,hc,k2,?_⟩
  rcases Bt k3 with ⟨rfl,s',q1,q2⟩ | ⟨jI,q1⟩
  ·obtain ⟨T_,Ql,u1,e,F',h',nQ,T,u2,u3,u4,u5⟩:=EK hx EO hv ha m s' q2
   refine ⟨e,F',h',nQ,T,u2,u3,u4,fun ro m4 S0 g0 w0 sA hf Q hq a w hR=>?_⟩
   rw [roundsIn_succ]
   refine wpIn_mono (k6 ro m4 S0 g0 w0 (hp hc) bK.self (fun e st=>e = .normal∧st=jW n F1 pC (hp h1)) ⟨rfl,by rw [uQ k5]⟩ a w hR) ?_
   rintro e2 a2 w2 ⟨st,M9,rfl,rfl⟩
   exact u5 ro m4 S0 g0 w0 sA hf Q hq a2 w2 (YD EO k2 u1 hv (k4.mono ha) k5 q1 sA hf M9)
  ·refine ⟨e1,F1,h1,pC,T1,by rw [←Fp.nK];exact q1,(Dm k2 hv).trans k4 (fun i hi=>hi) ha,(JB EO k2).trans k5,fun ro m4 S0 g0 w0 sA hf Q hq a w hR=>?_⟩
   rw [roundsIn_succ]
   refine wpIn_mono (k6 ro m4 S0 g0 w0 (hp hc) bK.self (fun e st=>e=e1∧st=jW n F1 pC (hp h1)) ⟨rfl,by rw [uQ k5]⟩ a w hR) ?_
   rintro e2 a2 w2 ⟨st,M9,rfl,rfl⟩
   have hl:lift S0 g0 w0 Q e2 a2 w2:=⟨_,M9,hq⟩
   cases e2 with
   | normal=>exact absurd rfl jI
   | _=>exact hl
end
theorem HN {inr:Bool} {n:Nat} {x:az} {dr:Ub β} {E:Env} {cx:Cx} {K:KC β} {r:β} (hx:∀(F:Tr A) (h:H) (ds:List Nat) (U:Fp) (K:KC β),x_ E cx inr n dr x F h ds U K=some r→∃e F' h' nQ T,K e F' h' nQ (U.cat T)=some r∧Kp (pI x) F F'∧NZ P inr n x.code F h ds e F' h' nQ T) :
  ∀(m:Nat) (F:Tr A) (h:H) (ds:List Nat) (U:Fp),Nat.rec (motive:=fun _=>Tr A→H→List Nat→Fp→Option β) (fun _ _ _ _=>none) (fun _ ih F h ds U=>x_ E cx inr n dr x F h ds U (QW ih K)) m F h ds U=some r →
  ∃e F' h' nQ T,K e F' h' nQ (U.cat T)=some r∧Kp (pI x) F F'∧s_ h h' T∧∀ro,(inr=false→ro=none)→∀S0 g0 w0 S2,bK T (hp h) S2→∀Q:Exit→St→Prop,Q e (jW n F' nQ (l6 T (hp h') S2))→∀a w,R S0 g0 w0 (jW n F ds S2) a w→Code.roundsIn (FR ro) 0 P x.code (lift S0 g0 w0 Q) m a w
 | 0,F,h,ds,U,hr=>by cases hr
 | m+1,F,h,ds,U,hr=>by
  obtain ⟨e1,F1,h1,pC,T1,k1,kp,k2,k3⟩:=hx F h ds U _ hr
  by_cases jI:e1 = .normal
  ·subst jI
   obtain ⟨e,F2,h2,HC,T2,q1,qp,q2,q3⟩:=HN hx m F1 h1 pC _ k1
   refine ⟨e,F2,h2,HC,T1.cat T2,by rw [←Fp.nK];exact q1,kp.trans qp (fun i hi=>hi) (fun i hi=>hi),k2.trans q2,fun ro m4 S0 g0 w0 S2 hA Q hq a w hR=>?_⟩
   rw [roundsIn_succ]
   refine wpIn_mono (k3 ro m4 S0 g0 w0 S2 hA.left (fun e st=>e = .normal∧st=jW n F1 pC (l6 T1 (hp h1) S2)) ⟨rfl,rfl⟩ a w hR) ?_
   rintro e2 a2 w2 ⟨st,M9,rfl,rfl⟩
   exact q3 ro m4 S0 g0 w0 _ (bK.right k2 hA) Q (by rw [je q2];exact hq) a2 w2 M9
  ·have k4:K e1 F1 h1 pC (U.cat T1)=some r:=by
    cases e1 with
    | normal=>exact absurd rfl jI
    | _=>exact k1
   refine ⟨e1,F1,h1,pC,T1,k4,kp,k2,fun ro m4 S0 g0 w0 S2 hA Q hq a w hR=>?_⟩
   rw [roundsIn_succ]
   refine wpIn_mono (k3 ro m4 S0 g0 w0 S2 hA (fun e st=>e=e1∧st=jW n F1 pC (l6 T1 (hp h1) S2)) ⟨rfl,rfl⟩ a w hR) ?_
   rintro e2 a2 w2 ⟨st,M9,rfl,rfl⟩
   have hl:lift S0 g0 w0 Q e2 a2 w2:=⟨_,M9,hq⟩
   cases e2 with
   | normal=>exact absurd rfl jI
   | _=>exact hl
theorem lN {inr:Bool} {dr:Ub β} (hE:di P E) (hx:nM P cx) (An:La P n dr):∀(c:az) (F:Tr A) (h:H) (ds:List Nat) (U:Fp) (K:KC β),x_ E cx inr n dr c F h ds U K=some r →
  ∃e F' h' nQ T,K e F' h' nQ (U.cat T)=some r∧Kp (pI c) F F'∧NZ P inr n c.code F h ds e F' h' nQ T
 | .skip,F,h,ds,U,K,hr=>⟨.normal,F,h,ds,.no,by rw [Fp.z7];exact hr,.refl _ F,.refl h,fun ro m4 S0 g0 w0 S2 hA Q hq=>by rw [yN] at hq;exact L8 hq⟩
 | .ret,F,h,ds,U,K,hr=>⟨.ret,F,h,ds,.no,by rw [Fp.z7];exact hr,.refl _ F,.refl h,fun ro m4 S0 g0 w0 S2 hA Q hq=>by rw [yN] at hq;exact Q4 hq⟩
 | .exit id,F,h,ds,U,K,hr=>⟨.exit id,F,h,ds,.no,by rw [Fp.z7];exact hr,.refl _ F,.refl h,fun ro m4 S0 g0 w0 S2 hA Q hq=>by rw [yN] at hq;exact L9 hq⟩
 | .bad _,F,h,ds,U,K,hr=>by cases hr
 | .region id ops d,F,h,ds,U,K,hr=>by
  cases d with
  | true=>
   obtain ⟨F',h',T,k1,kp,k2⟩:=An id ops F h U _ r hr
   exact ⟨.normal,F',h',ds,T,k1,kp,k2 inr ds⟩
  | false=>
   obtain ⟨F',h',T,k1,kp,k2,k3⟩:=yz hE hx ops F h U _ hr
   exact ⟨.normal,F',h',ds,T,k1,kp,k2,fun ro m4 S0 g0 w0 S2 hA Q hq=>Gc (k3 ro S0 g0 w0 ds S2 hA Q hq)⟩
 | .seq x y,F,h,ds,U,K,hr=>by
  obtain ⟨e,F1,h1,pC,T1,k1,kp,k2,k3⟩:=lN hE hx An x F h ds U _ hr
  cases e with
  | normal=>
   obtain ⟨e,F2,h2,HC,T2,q1,qp,q2,q3⟩:=lN hE hx An y F1 h1 pC _ K k1
   refine ⟨e,F2,h2,HC,T1.cat T2,by rw [←Fp.nK];exact q1,kp.trans qp (fun i hi=>zQ _ hi) (fun i hi=>zS _ hi),k2.trans q2,fun ro m4 S0 g0 w0 S2 hA Q hq=>?_⟩
   refine yG (k3 ro m4 S0 g0 w0 S2 hA.left _ ?_)
   refine q3 ro m4 S0 g0 w0 _ (bK.right k2 hA) Q ?_
   rw [je q2];exact hq
  | _=>exact ⟨_,F1,h1,pC,T1,k1,kp.mono (fun i hi=>zQ _ hi),k2,fun ro m4 S0 g0 w0 S2 hA Q hq=>yG (k3 ro m4 S0 g0 w0 S2 hA _ hq)⟩
 | .cut J x y,F,h,ds,U,K,hr=>by
  have hr:(match Nv J F h with | some e=>_ | none=>none)=some r:=hr
  split at hr
  ·rename_i En Zf
   obtain ⟨ho,hr⟩:=ab hr
   have EO:=BV ho
   have hv:∀i,i∈J.qH.map (·.1)++J.grow.map (·.1)→i∈pI x++(J.qH.map (·.1)++J.grow.map (·.1)):=fun i hi=>zS _ hi
   obtain ⟨e1,F1,h1,pC,T1,k1,kp,k2,k3⟩:=lN hE hx An x F h ds .no _ (show x_ E cx inr n dr x F h ds .no _=some r from (cJ _ _).symm.trans hr)
   rw [Fp.tu] at k1
   rcases Bt k1 with ⟨rfl,s,q1,q2⟩ | ⟨jI,q1⟩
   ·obtain ⟨Fc,hc,u1,u2⟩:=Bz q2
    obtain ⟨e,F2,h2,HC,T2,u3,u4,u5,u6⟩:=lN hE hx An y Fc hc ds .no _ u1
    rw [Fp.tu] at u3
    have u3:K e F2 h2 HC ((U.cat (jT J h.bF En)).cat T2)=some r:=u3
    refine ⟨e,F2,h2,HC,(jT J h.bF En).cat T2,by rw [←Fp.nK];exact u3,(Dm u2 hv).trans u4 (fun i hi=>zQ _ hi) (fun i hi=>zS _ hi),(JB EO u2).trans u5,fun ro m4 S0 g0 w0 S2 hA Q hq=>?_⟩
    obtain ⟨l,m,w,ej⟩:=Jv J h.bF En T2
    rw [ej] at hA hq
    rw [Ez] at hq
    rw [all_eq hA]
    intro a w hR
    obtain ⟨sA,hf⟩:=hR.entry
    refine yG (k3 ro m4 S0 g0 w0 (hp h) bK.self _ ?_) a w hR
    rw [uQ k2]
    intro a1 w1 hR1
    refine u6 ro m4 S0 g0 w0 (hp hc) bK.self Q ?_ a1 w1 (Qn EO u2 (kp.mono (fun i hi=>zQ _ hi)) k2 q1 sA hf hR1)
    rw [uQ u5];exact hq
   ·refine ⟨e1,F1,h1,pC,T1,q1,kp.mono (fun i hi=>zQ _ (zQ _ hi)),k2,fun ro m4 S0 g0 w0 S2 hA Q hq=>yG (k3 ro m4 S0 g0 w0 S2 hA _ ?_)⟩
    cases e1 with
    | normal=>exact absurd rfl jI
    | _=>exact hq
  ·cases hr
 | .cond c x y,F,h,ds,U,K,hr=>by
  obtain ⟨F1,b,k1,k2,k3⟩:=ND hr
  cases b with
  | true=>
   obtain ⟨e,F2,h2,HC,T2,q1,qp,q2,q3⟩:=lN hE hx An x F1 h ds U K k1
   refine ⟨e,F2,h2,HC,T2,q1,(Kp.of (l:=[]) k2).trans qp (fun i hi=>by cases hi) (fun i hi=>zQ _ hi),q2,fun ro m4 S0 g0 w0 S2 hA Q hq=>?_⟩
   refine Eu (b:=true) (by rw [←tr];exact k3) (fun _=>?_) (fun h=>by cases h)
   rw [←k2]
   exact q3 ro m4 S0 g0 w0 S2 hA Q hq
  | false=>
   obtain ⟨e,F2,h2,HC,T2,q1,qp,q2,q3⟩:=lN hE hx An y F1 h ds U K k1
   refine ⟨e,F2,h2,HC,T2,q1,(Kp.of (l:=[]) k2).trans qp (fun i hi=>by cases hi) (fun i hi=>zS _ hi),q2,fun ro m4 S0 g0 w0 S2 hA Q hq=>?_⟩
   refine Eu (b:=false) (by rw [←tr];exact k3) (fun h=>by cases h) (fun _=>?_)
   rw [←k2]
   exact q3 ro m4 S0 g0 w0 S2 hA Q hq
 | .block id x,F,h,ds,U,K,hr=>by
  obtain ⟨e,F1,h1,pC,T1,k1,kp,k2,k3⟩:=lN hE hx An x F h ds U _ hr
  cases e with
  | exit i=>
   have kk:(bif Nat.beq i id then K .normal F1 h1 pC (U.cat T1) else K (.exit i) F1 h1 pC (U.cat T1))=some r:=k1
   cases hb:Nat.beq i id with
   | true=>
    rw [hb] at kk
    obtain rfl:=beq_eq hb
    refine ⟨.normal,F1,h1,pC,T1,kk,kp,k2,fun ro m4 S0 g0 w0 S2 hA Q hq=>vp (k3 ro m4 S0 g0 w0 S2 hA _ ?_)⟩
    show (if i=i then Q .normal _ else _)
    rw [if_pos rfl];exact hq
   | false=>
    rw [hb] at kk
    refine ⟨.exit i,F1,h1,pC,T1,kk,kp,k2,fun ro m4 S0 g0 w0 S2 hA Q hq=>vp (k3 ro m4 S0 g0 w0 S2 hA _ ?_)⟩
    show (if i=id then _ else Q (.exit i) _)
    rw [if_neg (fun e=>by rw [e,Nat.beq_refl] at hb;cases hb)];exact hq
  | _=>exact ⟨_,F1,h1,pC,T1,k1,kp,k2,fun ro m4 S0 g0 w0 S2 hA Q hq=>vp (k3 ro m4 S0 g0 w0 S2 hA _ hq)⟩
 | .loop J x,F,h,ds,U,K,hr=>by
  have hr:(match Ed J with | some m=>_ | none=>(match Nv J F h with | some e=>_ | none=>none))=some r:=hr
  split at hr
  ·rename_i m _
   obtain ⟨e,F',h',nQ,T,u2,u3,u4,u5⟩:=HN (P:=P) (fun F h ds U K hr=>lN hE hx An x F h ds U K hr) m F h ds U hr
   exact ⟨e,F',h',nQ,T,u2,u3.mono (fun i hi=>zQ _ hi),u4,fun ro m4 S0 g0 w0 S2 hA Q hq a w hR=>wpIn_loop_rounds m (u5 ro m4 S0 g0 w0 S2 hA Q hq a w hR)⟩
  split at hr
  ·rename_i En Zf
   obtain ⟨ho,hr⟩:=ab hr
   split at hr
   ·rename_i s0 hs0
    have EO:=BV ho
    have hv:∀i,i∈J.qH.map (·.1)++J.grow.map (·.1)→i∈pI x++(J.qH.map (·.1)++J.grow.map (·.1)):=fun i hi=>zS _ hi
    obtain ⟨Fc,hc,u1,e,F',h',nQ,T,u2,u3,u4,u5⟩:=EK (P:=P) (fun F h ds U K hr=>lN hE hx An x F h ds U K hr) EO hv (fun i hi=>zQ _ hi) lD s0 ((qa _ _).symm.trans hr)
    refine ⟨e,F',h',nQ,_,u2,u3,u4,fun ro m4 S0 g0 w0 S2 hA Q hq=>?_⟩
    obtain ⟨l,m,w,ej⟩:=Jv J h.bF En T
    rw [ej] at hA hq
    rw [Ez] at hq
    rw [all_eq hA]
    intro a w hR
    obtain ⟨sA,hf⟩:=hR.entry
    exact wpIn_loop_rounds lD (u5 ro m4 S0 g0 w0 sA hf Q hq a w (Qn (T1:=.no) EO u1 (.refl _ F) (.refl h) hs0 sA hf hR))
   ·cases hr
  ·cases hr
 | .range g ps J aa bd,F,h,ds,U,K,hr=>by
  have hr:(bif inr then none else _)=some r:=hr
  obtain ⟨aeE,hr⟩:=lE hr
  split at hr
  ·rename_i f fi ca hf
   obtain ⟨hn,hr⟩:=ab hr
   have hn:=bU hn
   obtain ⟨_,t1,hr,ht1⟩:=cp hr
   obtain ⟨_,t2,hr,ht2⟩:=cp hr
   obtain ⟨pv,h3,T3,hr,k2⟩:=hx.call β f _ _ _ r hr
   split at hr
   ·rename_i st pe h3q
    obtain ⟨hb,hr⟩:=lE hr
    obtain ⟨_,t4,hr,ht4⟩:=cp hr
    split at hr
    ·rename_i e hj
     obtain ⟨f1,v1⟩:=EI (h:=h) (x:=.d_ .Fm) (by omega) ht1
     obtain ⟨f2,v2⟩:=EI (h:={ h with t:=t1,bF:=h.bF+1 }) (x:=.d_ (.loop .ready none)) (show h.bF+1<16777216 by omega) ht2
     have f3:s_ { h with t:=t2,bF:=h.bF+1+1 } h3 T3:=⟨k2.out,k2.rd⟩
     obtain ⟨f4,v4⟩:=Fo (h:=h3) (q:=h.bF+1) (by omega) ht4
     have f12:=f1.trans f2
     have f34:=f3.trans f4
     refine ⟨e,F,{ h3 with t:=t4 },h.bF::ds,_,hr,.refl _ F,f12.trans f34,fun ro m4 S0 g0 w0 S2 hA Q hq=>?_⟩
     obtain rfl:=m4 aeE
     have J1:=hA.left
     have DC:=bK.right f12 hA
     rw [←je f34,←je f4] at hq
     rw [←je f2] at DC hq
     have A1:=J1.left
     have A2:=bK.right f1 J1
     have A3:=DC.left
     have A4:=bK.right f3 DC
     have M6:S2.fr h.bF:=(A1 h.bF (aM (o:=h.bF) (by omega) (.head _))).2.2 (by show (if h.bF<dJ then h.bF≤h.bF else _);rw [if_pos (show h.bF<dJ by unfold dJ;omega)];exact Nat.le_refl _)
     have Y8:(l6 (.wr [fT h.bF]) (hp { h with t:=t1,bF:=h.bF+1 }) S2).fr (h.bF+1):=(A2 (h.bF+1) (aM (o:=h.bF+1) (by omega) (.head _))).2.2 (by show (if h.bF+1<dJ then h.bF+1≤h.bF+1 else _);rw [if_pos (show h.bF+1<dJ by unfold dJ;omega)];exact Nat.le_refl _)
     have BC:=FC (x:=.d_ (.loop st pe)) (by omega) h3q A4 (.head _)
     rw [v2 _ A2] at A3 A4 BC hq
     rw [v4 _ A4] at hq
     rw [v1 _ A1] at Y8 A3 A4 BC hq
     rintro a w ⟨gg,hI,P6,hd,hs,hv⟩
     have hI:Inv gg S2 w:=hI
     have hs:a.tmps.size=n:=hs
     refine wpIn_rangeFunc (fun fn _=>?_)
     obtain ⟨i1,x1⟩:=hI.alloc (s:=(0,0)) M6 (x:=.d_ .Fm) (ob:=.deferred (some [])) ⟨_,heap_alloc_new w _,rfl⟩
     have q1:=dG (g:=gg) (o:=h.bF) (p:=(some w.heap.size,(0,0)))
     generalize lV gg h.bF (some w.heap.size,(0,0))=g1 at i1 x1 q1
     obtain ⟨rr,Lo⟩:∃rr:Loop,rr={ state:=.ready,pending:=none,fn,tmps:=a.tmps,params:=ps.toArray,assign:=aa.code,body:=bd.code,defers:=w.heap.size }:=⟨_,rfl⟩
     obtain ⟨g2,i2,x2,q2,l2⟩:=i1.Yy Y8 rr
     have qq:(w.alloc (.deferred (some []))).heap.size=w.heap.size+1:=Array.size_push _
     rw [qq] at q2 l2
     have hu:=Cj (st:=jW n F ds S2) hs hv 0 g
     rw [←tr,hf] at hu
     generalize hev:a.eval g=u at hu
     cases hu with
     | fn _ _ _ fv cv RP Ze h1 h2=>
     obtain ⟨w1,hw1⟩:∃w1,w1=(w.alloc (.deferred (some []))).alloc (.loop rr):=⟨_,rfl⟩
     rw [←hw1] at i2 x2
     rw [show rr.state = .ready by rw [Lo],show rr.pending=none by rw [Lo]] at i2 x2
     refine ⟨w.heap.size+1,[{ target:=.collected w.heap.size,args:=#[] }],w1,{ target:=.fn (.func f) cv,args:=fv ++ #[.func (.yield (w.heap.size+1)) #[] #[]] },w1,f,(fv.toList ++ .func (.yield (w.heap.size+1)) #[] #[]::cv.toList).toArray,w1,?_,?_,fun f' _=>trivial,?_,fun h=>by simp [FR,Fence.wide] at h,wC ?_⟩
     ·rw [hw1,Lo];exact run_enterLoop_outer fn a.tmps ps.toArray aa.code bd.code
     ·simp only [resolve,hev,Deferred.ofValue,Sem.run_pure]
      congr 3
      simp [Act.eval]
     ·have h2:=k2.fn.run ((fv.toList ++ .func (.yield (w.heap.size+1)) #[] #[]::cv.toList).toArray) w1
      simp only [invoke]
      rw [show fv ++ #[.func (.yield (w.heap.size+1)) #[] #[]]++cv=(fv.toList ++ .func (.yield (w.heap.size+1)) #[] #[]::cv.toList).toArray by apply Array.ext';simp]
      exact h2
     ·have hle:=x1.le.trans x2.le
      refine (k2.ok _ A3 g2 w1 (fv.toList ++ .func (.yield (w.heap.size+1)) #[] #[]::cv.toList) i2 (by simp [RP,Ze]) (YE (by simp [RP]) (fun i c x e1 e2=>(h1 i c x e1 (by simpa using e2)).mono hle)
       (.wL _ n F ps J aa bd _ _ _ q2 l2 (by rw [Lo];rfl) (by rw [Lo];rfl) (by rw [Lo];rfl) (by rw [Lo];exact hs) (fun i hi=>by rw [Lo];exact (hv i hi).mono hle)) (fun i c x e1 e2=>(h2 i c x e1 (by simpa using e2)).mono hle))).mono ?_
      rintro e1 w3 ⟨v,g3,rfl,_,i3,x3⟩
      obtain ⟨b3,s3,ob3,k1,sW,k3⟩:=i3.d_ (h.bF+1) _ BC
      have hb3:=x3.le.cn _ _ q2
      rw [k1] at hb3
      obtain ⟨rfl,rfl⟩:b3=w.heap.size+1∧s3=(0,0):=by simpa using hb3
      obtain ⟨r3,rfl,r1,r2⟩:=k3
      have Dz:=run_endLoop (P:=P) sW (by rw [r1];intro hh;rw [hh] at hb;cases hb)
      obtain ⟨i4,x4⟩:=i3.H3 (LP:=.exhausted) (Q6:=r3.pending) BC k1 sW
      have BF:∀(S:Hp) o ob,(S.del (h.bF+1)).ob o=some ob→(S.set (h.bF+1) (.d_ (.loop .exhausted r3.pending))).ob o=some ob:=fun S o ob e=>by
       have e:(if o=h.bF+1 then none else S.ob o)=some ob:=e
       show (if o=h.bF+1 then _ else S.ob o)=some ob
       by_cases ho:o=h.bF+1
       ·rw [if_pos ho] at e;cases e
       ·rw [if_neg ho] at e;rw [if_neg ho];exact e
      have i4:=i4.less (BF _) (fun _ e=>e)
      have x4:=x4.trans (Ext.less (BF _) (fun _ e=>e))
      have Dn:=((x1.trans (hw1▸x2)).trans x3).trans x4
      have hR:∀S5,Inv g3 S5 (w3.putObj (w.heap.size+1) (.loop { r3 with state:=.exhausted,pending:=r3.pending }))→Ext S2 gg w S5 g3 (w3.putObj (w.heap.size+1) (.loop { r3 with state:=.exhausted,pending:=r3.pending }))→R S0 g0 w0 (jW n F (h.bF::ds) S5) { a with defers:=[{ target:=.collected w.heap.size,args:=#[] }]++a.defers } (w3.putObj (w.heap.size+1) (.loop { r3 with state:=.exhausted,pending:=r3.pending })):=by
       intro S5 i4 Dn
       refine ⟨g3,i4,P6.trans Dn,⟨by have:=hd.1;simp [jW] at this ⊢;exact this,fun i d el e1 e2=>?_⟩,hs,fun i hi=>(hv i hi).mono Dn.le⟩
       cases i with
       | zero=>
        simp [jW] at e1 e2;subst e1 e2
        exact ⟨w.heap.size,(0,0),(x2.le.trans x3.le).cn _ _ q1,rfl⟩
       | succ i=>exact (hd.mono Dn.le).2 i d el (by simpa [jW] using e1) (by simpa using e2)
      have hR:=hR _ i4 Dn
      have Dz:(Instr.endLoop (w.heap.size+1)).run P w3 = .ok r3.pending (w3.putObj (w.heap.size+1) (.loop { r3 with state:=.exhausted,pending:=r3.pending })):=Dz
      generalize w3.putObj (w.heap.size+1) (.loop { r3 with state:=.exhausted,pending:=r3.pending })=w4 at hR Dz
      refine ⟨r3.pending,_,Dz,?_⟩
      rw [r2]
      rcases Js hj with ⟨h5,h6⟩ | ⟨h5,h6⟩ | ⟨id,h5,h6⟩
      ·rw [h6] at hq;rw [h5];exact ⟨_,hR,hq⟩
      ·rw [h6] at hq;rw [h5];exact wpIn_ret ⟨_,hR,hq⟩
      ·rw [h6] at hq;rw [h5];exact wpIn_exit ⟨_,hR,hq⟩
    ·cases hr
   ·cases hr
  ·cases hr
end
end
section
open Go.RowKit
abbrev Ua:=(β:Type)→Ub β
def FA:Nat→List A→Option (Tr A)
 | _,[]=>some .nil
 | i,p::ps=>match FA (i+1) ps with
  | some F=>TS p (fun p=>g_ F i (some p) some)
  | none=>none
def FZ {β:Type} (E:Env) (n:Nat) (F:Tr A) (h:H):List ResultVar→(List A→List Nat→Option β)→Option β
 | [],k=>k [] []
 | .tmp i::r,k=>bif Nat.blt i n then FZ E n F h r (fun ps l=>k (cd F.get i::ps) l) else none
 | .cell a T::r,k=>bif Nat.blt a n then Rq E T (cd F.get a) h (fun v _ T1=>FZ E n F h r (fun ps l=>k (v::ps) (T1.rs++l))) else none
def Ks {β:Type}:Tr jJ→List Nat→(Tr jJ→Option β)→Option β
 | t,[],k=>k t
 | t,d::ds,k=>match t.get d with
  | some (.d_ .Fm)=>bif Nat.blt d 16777216 then g_ t d none (fun t=>Ks t ds k) else none
  | _=>none
def P3:Exit→Bool
 | .normal=>true
 | .ret=>true
 | _=>false
abbrev FT:=Nat→Option (Func×az)
structure bm (P:Program) (f:Nat) (fn:Func) (x:az):Prop where
 cn:P.funcs[f]?=some fn
 body:fn.body=some x.code
 name : (fn.name == "runtime.NumGoroutine") = false
def Ea (P:Program) (fns:FT):Prop:=∀f fn x,fns f=some (fn,x)→bm P f fn x
def fnK (E:Env) (fns:FT) (dr:Cx→Nat→Ua) (cx:Cx) (β:Type) (f:FuncId) (aa:List A) (h:H) (K:A→H→Fp→Option β):Option β:=match fns f with
 | some (fn,x)=>match FA 0 aa with
  | some F=>bif Nat.ble aa.length fn.ntmps then x_ E cx false fn.ntmps (dr cx fn.ntmps β) x F h [] .no (fun e F' h' ds U=>bif P3 e then Ks h'.t ds (fun t'=>FZ E fn.ntmps F' { h' with t:=t' } fn.results.toList (fun ps l=>K (Q0 ps) { h' with t:=t' } ((U.cat (.wr (ds.map fT))).cat (.rd l)))) else none) else none
  | none=>none
 | none=>none
def QZ (E:Env) (dr:Cx→Nat→Ua) (cx:Cx) (β:Type) (y:A) (aa:List A) (h:H) (K:A→H→Fp→Option β):Option β:=match y with
 | .wL q n F ps _ nS bd=>match h.t.get q with
  | some (.d_ (.loop .ready _))=>bif Nat.blt q 16777216 then CP F ps aa (fun F1=>x_ E cx true n (dr cx n β) nS F1 h [] .no (fun e1 Fa ha pC T1=>match e1 with
   | .normal=>match ha.t.get q with
    | some (.d_ (.loop .ready pe))=>g_ ha.t q (some (.d_ (.loop .busy pe))) (fun t2=>x_ E cx true n (dr cx n β) bd Fa { ha with t:=t2 } pC .no (fun e2 _ hb _ T2=>match hb.t.get q,Yf e2 with
     | some (.d_ (.loop _ _)),some jump=>g_ hb.t q (some (.d_ (.loop (Ii jump) jump))) (fun t3=>K (.v (.bool jump.isNone)) { hb with t:=t3 } ((T1.cat (.wr [fT q])).cat (T2.cat (.wr [fT q]))))
     | _,_=>none))
    | _=>none
   | _=>none)) else none
  | _=>none
 | _=>none
def CL (E:Env) (fns:FT) (dr:Cx→Nat→Ua) (hm:List (Nat×Nat)) (cx:Cx):Cx:=⟨fnK E fns dr cx,hm,QZ E dr cx⟩
def HG (hm:List (Nat×Nat)):Cx:=⟨fun _ _ _ _ _=>none,hm,fun _ _ _ _ _=>none⟩
section
variable {P:Program} {E:Env} {n:Nat}
theorem Ch:∀(aa:List A) (i:Nat) (F:Tr A),FA i aa=some F→∀j,cd F.get j=if i≤j then aa.getD (j-i) .un else .un
 | [],i,F,h,j=>by
  cases h
  simp [cd,Tr.get_nil]
 | p::ps,i,F,h,j=>by
  simp only [FA] at h
  split at h
  ·rename_i F1 h1
   have ih:=Ch ps (i+1) F1 h1 j
   rw [DW] at h
   obtain ⟨_,F2,hF,hg⟩:=cp h
   cases hF
   have e:cd F.get j=if j=i then p else cd F1.get j:=by
    simp only [cd,hg]
    by_cases hj:j=i
    ·rw [if_pos hj,if_pos hj]
    ·rw [if_neg hj,if_neg hj]
   rw [e,ih]
   by_cases hj:j=i
   ·subst hj;simp
   ·rw [if_neg hj]
    by_cases hk:i≤j
    ·rw [if_pos hk,if_pos (by omega),show j-i=(j-(i+1))+1 by omega,List.getD_cons_succ]
    ·rw [if_neg hk,if_neg (by omega)]
  ·cases h
theorem Jg {P:Program} {T:Nat} {u v:Value} {ad:Addr} {w w':World} {a:Act} {o:Oper} (ho:o.op = .load T (.const u)) (hu:u = .pointer (some ad)) (h:(execOp a.eval o).run P w = .ok (.value v) w'):(loadVar T ad).run P w = .ok v w':=by
 simp only [execOp,ho,Act.eval,hu,Instr.loadAt,Instr.sureAddr,pure_bind] at h
 simp only [Sem.run_bind] at h
 generalize (loadVar T ad).run P w=res at h
 cases res with
 | ok x w1=>
  simp only [Result.andThen_ok,Sem.run_pure,Result.ok.injEq,Next.value.injEq] at h
  obtain ⟨rfl,rfl⟩:=h
  rfl
 | halt x w1=>cases h
theorem MH {β:Type} {E:Env} {T:Nat} {px:A} {h:H} {K:A→H→Fp→Option β} {r:β} (hr:Rq E T px h K=some r) {g:G} {u:Value} (hv:V g px u):∃ad,u = .pointer (some ad):=by
 unfold Rq at hr
 split at hr
 ·split at hr
  ·cases hv;exact ⟨_,rfl⟩
  ·cases hv;exact ⟨_,rfl⟩
  ·cases hv;exact ⟨_,rfl⟩
  ·cases hr
 ·cases hr
theorem yy {β:Type} {r:β} (hE:di P E) {F:Tr A} {h:H}:∀(Tm:List ResultVar) (k:List A→List Nat→Option β),FZ E n F h Tm k=some r →
  ∃ps l,k ps l=some r∧∀S2,bK (.rd l) (hp h) S2→∀(g:G) (w:World) (tmps:Array Value),Inv g S2 w→(∀i,i<n→V g (cd F.get i) (tmps.getD i undef)) →
   ∃vs:List Value,(Tm.mapM (fun rv=>AS rv tmps)).run P w = .ok vs w∧ps.length=vs.length∧∀(i:Nat) (p:A) (v:Value),ps[i]?=some p→vs[i]?=some v→V g p v
 | [],k,hk=>⟨[],[],hk,fun S2 _ g w tmps _ _=>⟨[],rfl,rfl,by simp⟩⟩
 | .tmp i::Tm,k,hk=>by
  simp only [FZ] at hk
  obtain ⟨hi,hk⟩:=ab hk
  obtain ⟨ps,l,k1,k2⟩:=yy hE Tm _ hk
  refine ⟨_,l,k1,fun S2 hA g w tmps hI hv=>?_⟩
  obtain ⟨vs,q1,q2,q3⟩:=k2 S2 hA g w tmps hI hv
  refine ⟨tmps.getD i undef::vs,?_,by simp [q2],fun k q x e1 e2=>?_⟩
  ·have:(AS (.tmp i) tmps).run P w = .ok (tmps.getD i undef) w:=rfl
   rw [List.mapM_cons]
   simp only [Sem.run_bind,this,Result.andThen_ok]
   rw [q1]
   simp only [Result.andThen_ok,Sem.run_pure]
  ·cases k with
   | zero=>
    simp only [List.getElem?_cons_zero,zI] at e1 e2
    subst e1 e2
    exact hv i (bU hi)
   | succ k=>exact q3 k q x (by simpa using e1) (by simpa using e2)
 | .cell a T::Tm,k,hk=>by
  simp only [FZ] at hk
  obtain ⟨hi,hk⟩:=ab hk
  obtain ⟨v,l1,k0,kv⟩:=Jj hE hk
  obtain ⟨ps,l,k1,k2⟩:=yy hE Tm _ k0
  refine ⟨_,_,k1,fun S2 hA g w tmps hI hv=>?_⟩
  have hA:bK (.rd (l1++l)) (hp h) S2:=hA
  obtain ⟨vs,q1,q2,q3⟩:=k2 S2 (hA.mono fun i hi=>zS _ hi) g w tmps hI hv
  have hva:=hv a (bU hi)
  obtain ⟨ad,had⟩:=MH hk hva
  obtain ⟨x, u1, u2⟩ := kv S2 (hA.mono fun i hi => zQ _ hi) { dst := none, op := .load T (.const (tmps.getD a undef)), type := 0, pos := "", after := #[], guard := none } (fun _ => cd F.get a) (.const (tmps.getD a undef)) rfl rfl g w { tmps := #[], defers := [] } hI (fun y hy => by
   simp only [Op.operands,Array.mem_singleton] at hy
   subst hy;exact hva)
  have iO:(AS (.cell a T) tmps).run P w = .ok x w:=by
   have:=Jg rfl had u1
   show (do loadVar T (←asAddr (tmps.getD a undef)):Sem Value).run P w=_
   rw [had]
   exact this
  refine ⟨x::vs,?_,by simp [q2],fun k q y e1 e2=>?_⟩
  ·rw [List.mapM_cons]
   simp only [Sem.run_bind,iO,Result.andThen_ok]
   rw [q1]
   simp only [Result.andThen_ok,Sem.run_pure]
  ·cases k with
   | zero=>
    simp only [List.getElem?_cons_zero,zI] at e1 e2
    subst e1 e2
    exact u2
   | succ k=>exact q3 k q y (by simpa using e1) (by simpa using e2)
theorem Inv.drop {g:G} {S:Hp} {w:World} (h:Inv g S w) {d b:Nat} {s:Nat×Nat} (ho:S.ob d=some (.d_ .Fm)) (hg:g.cn d=some (some b,s)) :
  w.heap[b]?=some (.deferred (some []))∧Inv g (S.del d) (w.putObj b (.deferred none))∧Ext S g w (S.del d) g (w.putObj b (.deferred none)):=by
 obtain ⟨b1,s1,ob,k1,k2,k3⟩:=h.d_ d _ ho
 rw [hg] at k1
 obtain ⟨rfl,rfl⟩:b=b1∧s=s1:=by simpa using k1
 have k3:ob = .deferred (some []):=k3
 subst k3
 have m0:∀{i x},(S.del d).ob i=some x→i≠d∧S.ob i=some x:=fun {i x} e=>by
  have e:(if i=d then none else S.ob i)=some x:=e
  split at e
  ·cases e
  ·exact ⟨by assumption,e⟩
 have JL:∀k,k≠b→(w.putObj b (.deferred none)).heap[k]?=w.heap[k]?:=fun k jI=>World.putObj_heap_other jI
 refine ⟨k2,⟨fun i cs e=>?_,fun i x e=>?_,fun i e=>h.fresh i e,fun i b' s' e=>by rw [World.putObj_size];exact h.lt i b' s' e,fun i j x y b1 s1 s2 e1 e2=>h.inj i j _ _ b1 s1 s2 (m0 e1).2 (m0 e2).2,fun b' i x e=>?_,fun i b' s' j x e k=>h.o_ i b' s' j _ (m0 e).2 k,fun b' l e=>?_⟩,
  ⟨.refl g,rfl,rfl,rfl,by rw [World.putObj_size];exact Nat.le_refl _,fun k _ hn=>JL k (fun hh=>hn ⟨d,s,_,ho,by rw [hh];exact hg⟩),fun k ⟨i,s',x,e1,e2⟩=>.inl ⟨i,s',x,(m0 e1).2,e2⟩,fun _ _ e=>.inl e,fun _ e=>e,fun _ _ _ e=>.inl e,fun _ _ e=>.inl e⟩⟩
 ·obtain ⟨jI,e⟩:=m0 e
  refine (h.cells i cs e).imp id fun ⟨b1,t,q1,cur,ty,q2,q3⟩=>⟨b1,t,q1,cur,ty,?_,q3⟩
  rw [JL b1 (fun hb=>by subst hb;rw [k2] at q2;cases q2)];exact q2
 ·obtain ⟨jI,e⟩:=m0 e
  obtain ⟨b1,s1,o1,q1,q2,q3⟩:=h.d_ i x e
  exact ⟨b1,s1,o1,q1,by rw [JL b1 (fun hb=>by subst hb;exact jI (h.inj i d _ _ b1 s1 s e ho q1 hg))];exact q2,q3⟩
 ·obtain ⟨cur,ty,fz,q1,q2⟩:=h.mem b' i x e
  exact ⟨cur,ty,fz,by rw [JL b' (fun hb=>by subst hb;rw [k2] at q1;cases q1)];exact q1,q2⟩
 ·obtain ⟨r,q1,q2⟩:=h.lp b' l e
  exact ⟨r,by rw [JL b' (fun hb=>by subst hb;rw [k2] at q1;cases q1)];exact q1,q2⟩
theorem BX {β:Type} {r:β} {h:H}:∀(ds:List Nat) (t:Tr jJ) (k:Tr jJ→Option β),Ks t ds k=some r→∃t',k t'=some r∧s_ { h with t:=t } { h with t:=t' } (.wr (ds.map fT)) ∧
  ∀(fn:Func) (tmps:Array Value) (Rr:Ending→World→Prop) S2,bK (.wr (ds.map fT)) (hp { h with t:=t }) S2→∀(g:G) (w:World) (l:List Deferred),Inv g S2 w→sT g ds l →
   (∀w',Inv g (l6 (.wr (ds.map fT)) (hp { h with t:=t' }) S2) w'→Ext S2 g w (l6 (.wr (ds.map fT)) (hp { h with t:=t' }) S2) g w'→∃v,(results fn tmps).run P w' = .ok v w'∧Rr (.returned v) w')→LeavesInM (FR none) 0 P fn tmps Rr l .returning w
 | [],t,k,hk=>⟨t,hk,⟨fun _ _=>⟨rfl,Iff.rfl⟩,fun _ _=>⟨rfl,Iff.rfl⟩⟩,fun fn tmps Rr S2 hA g w l hI hd K=>by
  obtain rfl:l=[]:=List.length_eq_zero_iff.1 (by have:=hd.1;simpa using this.symm)
  have e:l6 (.wr (List.map fT [])) (hp { h with t:=t }) S2=S2:=rU hA
  rw [e] at K
  exact K w hI (.refl _ g w)⟩
 | d::ds,t,k,hk=>by
  have hk:(match t.get d with | some (.d_ .Fm)=>_ | _=>none)=some r:=hk
  split at hk
  ·rename_i fQ
   obtain ⟨hd0,hk⟩:=ab hk
   have hd0:=bU hd0
   obtain ⟨_,t1,k1,ht1⟩:=cp hk
   obtain ⟨t',q1,q2,q3⟩:=BX (h:=h) ds t1 k k1
   obtain ⟨f1,v1⟩:=Fo (h:={ h with t:=t }) hd0 ht1
   have ec:(Fp.wr [fT d]).cat (.wr (ds.map fT)) = .wr ((d::ds).map fT):=rfl
   have f1:s_ { h with t:=t } { h with t:=t1 } (.wr [fT d]):=f1
   refine ⟨t',q1,ec▸f1.trans q2,fun fn tmps Rr S2 hA g w l hI hd K=>?_⟩
   rw [←ec] at hA K
   rw [←je q2] at K
   have A1:=hA.left
   have A2:=bK.right f1 hA
   have v1:=v1 S2 A1
   have v1:l6 (.wr [fT d]) (hp { h with t:=t1 }) S2=S2.del d:=v1
   rw [v1] at A2 K
   cases l with
   | nil=>have:=hd.1;simp at this
   | cons el l=>
    obtain ⟨b,s,hg,rfl⟩:=hd.2 0 d el rfl rfl
    obtain ⟨u1,u2,u3⟩:=hI.drop (FC (x:=.d_ .Fm) hd0 fQ A1 (.head _)) hg
    refine ⟨by simp,.inl ⟨b,_,rfl,run_takeDeferred u1,?_⟩⟩
    exact q3 fn tmps Rr _ A2 g _ l u2 ⟨by have:=hd.1;simpa using this,fun i d el e1 e2=>hd.2 (i+1) d el (by simpa using e1) (by simpa using e2)⟩ (fun w' z1 z2=>K w' z1 (u3.trans z2))
  ·cases hk
theorem RZ (hE:di P E) {fns:FT} (hF:Ea P fns) {dr:Cx→Nat→Ua} {cx:Cx} (hx:nM P cx) (An:∀n β,La P n (dr cx n β)) {β:Type} {f:FuncId} {aa:List A} {h:H} {K:A→H→Fp→Option β} {r:β} (hr:fnK E fns dr cx β f aa h K=some r) :
  ∃pv h' T,K pv h' T=some r∧FH P f aa h h' T pv:=by
 unfold fnK at hr
 split at hr
 ·rename_i fn x hf
  have M5:=hF f fn x hf
  split at hr
  ·rename_i F hFa
   obtain ⟨hn,hr⟩:=ab hr
   have hn:=Nat.le_of_ble_eq_true hn
   obtain ⟨e,F',h',nQ,T0,k1,_,k2,k3⟩:=lN hE hx (An fn.ntmps β) x F h [] .no _ hr
   rw [Fp.tu] at k1
   obtain ⟨k4,k1⟩:=ab k1
   obtain ⟨t',k5,k6,k7⟩:=BX (P:=P) (h:=h') nQ h'.t _ k1
   obtain ⟨ps,l,k8,k9⟩:=yy (P:=P) hE _ _ k5
   have f3:s_ { h' with t:=t' } { h' with t:=t' } (.rd l):=⟨fun _ _=>⟨rfl,Iff.rfl⟩,fun _ _=>⟨rfl,Iff.rfl⟩⟩
   have f12:s_ h { h' with t:=t' } (T0.cat (.wr (nQ.map fT))):=k2.trans k6
   refine ⟨_,_,_,k8,(f12.trans f3).out,(f12.trans f3).rd,⟨fn,M5.cn,M5.name,by rw [M5.body];rfl⟩,fun S2 hA g w vs hI hl hv=>?_⟩
   have A1:=hA.left.left
   have A2:bK (.wr (nQ.map fT)) (hp h') _:=bK.right k2 hA.left
   have A3:=bK.right f12 hA
   rw [←je f3,rU A3,←je k6]
   rw [←je k6] at A3
   have d:=k3 none (fun _=>rfl) S2 g w S2 A1 (fun e1 st=>e1=e∧st=jW fn.ntmps F' nQ (l6 T0 (hp h') S2)) ⟨rfl,rfl⟩
   refine (callsIn_wide (n:=0)).1 (callsIn_of_wp_marks (F:=FR none) M5.cn M5.body trivial ?_)
   have qq:(vs.toArray++Array.replicate (fn.ntmps-vs.toArray.size) undef).size=fn.ntmps:=by simp;omega
   have hR0:R S2 g w (jW fn.ntmps F [] S2) { tmps:=vs.toArray++Array.replicate (fn.ntmps-vs.toArray.size) undef,defers:=[] } w:=by
    refine ⟨g,hI,.refl _ g w,⟨rfl,fun i d el e1=>by simp [jW] at e1⟩,qq,fun i hi=>?_⟩
    show V g (cd F.get i) ((vs.toArray++Array.replicate (fn.ntmps-vs.toArray.size) undef).getD i undef)
    rw [Ch aa 0 F hFa i,if_pos (Nat.zero_le i),Nat.sub_zero,Array.getD_eq_getD_getElem?]
    by_cases hia:i<aa.length
    ·rw [Array.getElem?_append_left (by simp;omega)]
     have h1:aa[i]?=some aa[i]:=zD hia
     have h2 : vs[i]? = some (vs[i]'(by omega)) := zD (by omega)
     have:=hv i _ _ h1 h2
     simpa [List.getD,h1,h2] using this
    ·rw [Array.getElem?_append_right (by simp;omega)]
     have h1:aa[i]?=none:=zb (by omega)
     have h2:(Array.replicate (fn.ntmps-vs.toArray.size) undef)[i-vs.toArray.size]?.getD undef=undef:=by
      cases hx:(Array.replicate (fn.ntmps-vs.toArray.size) undef)[i-vs.toArray.size]? with
      | none=>rfl
      | some x=>
       obtain ⟨dP,su⟩:=Array.getElem?_eq_some_iff.1 hx
       rw [←su];simp
     rw [h2]
     simp only [List.getD,h1,Option.getD_none]
     exact .un
   refine wpIn_mono (d _ w hR0) ?_
   rintro e1 a w' ⟨st,hR,rfl,rfl⟩
   obtain ⟨g1,i1,x1,d1,s1,v1⟩:=hR
   have key:LeavesInM (FR none) 0 P fn a.tmps (fun e w2=>∃v g',e = .returned v∧V g' (Q0 ps) v∧Inv g' (l6 (.wr (nQ.map fT)) (hp { h' with t:=t' }) (l6 T0 (hp h') S2)) w2∧Ext S2 g w (l6 (.wr (nQ.map fT)) (hp { h' with t:=t' }) (l6 T0 (hp h') S2)) g' w2) a.defers .returning w':=by
    refine k7 fn a.tmps _ _ A2 g1 w' a.defers i1 d1 (fun w2 i2 x2=>?_)
    obtain ⟨us,u1,u2,u3⟩:=k9 _ A3 g1 w2 a.tmps i2 v1
    have iO:=AR (P:=P) (fn:=fn) u1
    refine ⟨_,iO,_,g1,rfl,?_,i2,x1.trans x2⟩
    match ps,us,u2,u3 with
    | [p],[u],_,u3=>exact u3 0 p u rfl rfl
    | [],[],_,_=>exact .mA [] #[] rfl (by simp)
    | p::q::ps,u::v::us,u2,u3=>
     rw [dif_neg (by simp)]
     exact .mA _ _ (by simpa using u2) (fun i c x e1 e2=>u3 i c x e1 (by simpa using e2))
   cases e1 with
   | normal=>exact key
   | ret=>exact key
   | _=>exact absurd k4 (by simp [P3])
  ·cases hr
 ·cases hr
theorem LX (hE:di P E) {dr:Cx→Nat→Ua} {cx:Cx} (hx:nM P cx) (An:∀n β,La P n (dr cx n β)) {β:Type} {y:A} {aa:List A} {h:H} {K:A→H→Fp→Option β} {r:β} (hr:QZ E dr cx β y aa h K=some r) :
  ∃pv h' T,K pv h' T=some r∧QC P y aa h h' T pv:=by
 unfold QZ at hr
 split at hr
 ·rename_i q n F ps j nS bd
  split at hr
  ·rename_i pe0 hq0
   obtain ⟨hq,hr⟩:=ab hr
   have hq:=bU hq
   obtain ⟨F1,hr,hlen,MS⟩:=xD _ _ _ _ hr
   obtain ⟨e1,Fa,ha,pC,T1,hr,_,f1,d1⟩:=lN hE hx (An n β) nS F1 h [] .no _ hr
   rw [Fp.tu] at hr
   split at hr
   ·split at hr
    ·rename_i pe hqa
     obtain ⟨_,t2,hr,ht2⟩:=cp hr
     obtain ⟨e2,Fb,hb,HC,T2,hr,_,f3,d2⟩:=lN hE hx (An n β) bd Fa _ pC .no _ hr
     rw [Fp.tu] at hr
     split at hr
     ·rename_i st3 pe3 jump hqb hj
      obtain ⟨_,t3,hr,ht3⟩:=cp hr
      obtain ⟨f2,v2⟩:=Ej (h:=ha) hq ht2
      obtain ⟨f4,v4⟩:=Ej (h:=hb) hq ht3
      have f12:=f1.trans f2
      have f34:=f3.trans f4
      have ft:=f12.trans f34
      refine ⟨_,_,_,hr,ft.out,ft.rd,fun S2 hA g w u vs hI hu hl hv=>?_⟩
      have J1:=hA.left
      have DC:=bK.right f12 hA
      rw [←je f34,←je f4]
      rw [←je f2] at DC ⊢
      have A1:=J1.left
      have A2:=bK.right f1 J1
      have A3:=DC.left
      have A4:=bK.right f3 DC
      have fN:=FC (x:=.d_ (.loop .ready pe)) hq hqa A2 (.head _)
      have BC:=FC (x:=.d_ (.loop st3 pe3)) hq hqb A4 (.head _)
      have MX:S2.ob q=some (.d_ (.loop .ready pe0))∨True:=.inr trivial
      rw [v4 _ A4]
      rw [v2 _ A2] at A3 A4 BC ⊢
      cases hu with
      | wL _ _ _ _ _ _ _ b s lp h0 hlp h1 h2 h3 h4 h5=>
      obtain ⟨rr,r1,r2⟩:=hI.lp b lp hlp
      subst r2
      refine ⟨b,rr,rfl,r1,?_,?_⟩
      ·rw [←hl,hlen,←h1];simp [yZ]
      have aax:(rr.params.zip vs.toArray).foldl (fun tmps (t,a)=>tmps.setIfInBounds t a) rr.tmps=(ps.zip vs).foldl (fun tmps x=>tmps.setIfInBounds x.1 x.2) rr.tmps:=by
       rw [←Array.foldl_toList,Array.toList_zip,←h1];rfl
      rw [aax]
      obtain ⟨z1,z2⟩:=MS g n vs rr.tmps hl hv h4 h5
      generalize (ps.zip vs).foldl (fun tmps x=>tmps.setIfInBounds x.1 x.2) rr.tmps=T at z1 z2
      have h2:rr.assign=nS.code:=h2
      have h3:rr.body=bd.code:=h3
      rw [h2,h3]
      refine roundIn_of_wpIn trivial ?_
      show nS.code.wpIn (FR (some b)) 0 P _ _ _
      have hR0:R S2 g w (jW n F1 [] S2) { tmps:=T,defers:=[] } w:=⟨g,hI,.refl _ g w,⟨rfl,fun i d el e1=>by simp [jW] at e1⟩,z1,z2⟩
      refine wpIn_mono (d1 (some b) (fun h=>by cases h) S2 g w S2 A1 (fun e st=>e = .normal∧st=jW n Fa pC (l6 T1 (hp ha) S2)) ⟨rfl,rfl⟩ _ w hR0) ?_
      rintro e1 a1 w1 ⟨st,hR1,rfl,rfl⟩
      obtain ⟨g1,i1,x1,hd1,MU,Lm⟩:=hR1
      have i1:Inv g1 (l6 T1 (hp ha) S2) w1:=i1
      obtain ⟨b1,s1,ob1,q1,q2,q3⟩:=i1.d_ q _ fN
      have Zi:=x1.le.cn _ _ h0
      rw [q1] at Zi
      obtain ⟨rfl,rfl⟩:b1=b∧s1=s:=by simpa using Zi
      obtain ⟨rr1,rfl,u1,u2⟩:=q3
      obtain ⟨i2,x2⟩:=i1.H3 (LP:=.busy) (Q6:=rr1.pending) fN q1 q2
      rw [u2] at i2 x2
      refine ⟨_,run_beginRound q2 u1,?_⟩
      show bd.code.wpIn (FR (some b1)) 0 P _ _ _
      have eb:({ rr1 with state:=.busy }:Loop)={ rr1 with state:=.busy,pending:=pe }:=by rw [←u2]
      rw [eb]
      refine wpIn_mono (d2 (some b1) (fun h=>by cases h) S2 g w _ A3 (fun e st=>e=e2∧st=jW n Fb HC (l6 T2 (hp hb) ((l6 T1 (hp ha) S2).set q (.d_ (.loop .busy pe))))) ⟨rfl,rfl⟩ a1 _ ⟨g1,i2,x1.trans x2,hd1,MU,Lm⟩) ?_
      rintro e2' a2 w3 ⟨st,hR3,rfl,rfl⟩
      obtain ⟨g3,i3,x3,_,_,_⟩:=hR3
      obtain ⟨b3,s3,ob3,p1,p2,p3⟩:=i3.d_ q _ BC
      have Zh:=x3.le.cn _ _ h0
      rw [p1] at Zh
      obtain ⟨rfl,rfl⟩:b3=b1∧s3=s1:=by simpa using Zh
      obtain ⟨rr3,rfl,w1',w2'⟩:=p3
      have fin:∀jc:Option Code,Yf e2'=some jc→∃v w4,(Instr.endRound b3 jc).run P w3 = .ok v w4∧∃v' g',Ending.returned v = .returned v'∧V g' (.v (.bool jump.isNone)) v'∧Inv g' ((l6 T2 (hp hb) ((l6 T1 (hp ha) S2).set q (.d_ (.loop .busy pe)))).set q (jJ.d_ (.loop (Ii jump) jump)).low) w4∧Ext S2 g w ((l6 T2 (hp hb) ((l6 T1 (hp ha) S2).set q (.d_ (.loop .busy pe)))).set q (jJ.d_ (.loop (Ii jump) jump)).low) g' w4:=by
       intro jc M3
       rw [hj] at M3
       obtain rfl:=Option.some.inj M3
       have Dz:=run_endRound (P:=P) jump p2
       have est:(if jump.isNone=true then LoopState.ready else LoopState.done)=Ii jump:=by cases jump<;>rfl
       rw [est] at Dz
       obtain ⟨i4,x4⟩:=i3.H3 (LP:=Ii jump) (Q6:=jump) BC p1 p2
       exact ⟨_,_,Dz,_,g3,rfl,.v _,i4,x3.trans x4⟩
      cases e2' with
      | normal=>exact fin none rfl
      | ret=>exact fin _ rfl
      | exit id=>exact fin _ rfl
      | goto l=>cases hj
      | panic c=>cases hj
      | outgrown=>cases hj
     ·cases hr
    ·cases hr
   ·cases hr
  ·cases hr
 ·cases hr
theorem xA (hE:di P E) {fns:FT} (hF:Ea P fns) {dr:Cx→Nat→Ua} {hm:List (Nat×Nat)} {cx:Cx} (hx:nM P cx) (An:∀n β,La P n (dr cx n β)):nM P (CL E fns dr hm cx):=
 ⟨fun _ _ _ _ _ _ h=>RZ hE hF hx An h,fun _ _ _ _ _ _ h=>LX hE hx An h⟩
theorem FI (hm:List (Nat×Nat)):nM P (HG hm):=⟨fun _ _ _ _ _ r h=>(by have h:(none:Option _)=some r:=h;cases h),fun _ _ _ _ _ r h=>(by have h:(none:Option _)=some r:=h;cases h)⟩
end
end
section
open Go.RowKit
def cf (T U:Fp):Bool:=(T.w || U.w) && (T.all || U.all || T.rs.any fun a=>U.rs.any (Nat.beq a))
def Q2 (ops:Array Oper):Nat→Nat→Nat→Bool
 | 0,_,_=>false
 | f+1,i,j=>dep ops i j || (List.range i).any fun m=>dep ops i m && Q2 ops f m j
theorem vo {ops:Array Oper} {L:Nat→Bool} (hd:∀k j,L k=true→dep ops k j=true→L j=true):∀(f k j:Nat),L k=true→Q2 ops f k j=true→L j=true
 | 0,_,_,_,h=>by cases h
 | f+1,k,j,hk,h=>by
  simp only [Q2,Bool.or_eq_true,List.any_eq_true,zC] at h
  rcases h with h | ⟨m,_,h1,h2⟩
  ·exact hd k j hk h
  ·exact vo hd f m j (hd k m hk h1) h2
theorem L3 {ops:Array Oper} {L:Nat→Bool} {i:Nat} (h:LG ops i L):∀(f j:Nat),Q2 ops f i j=true→L j=true
 | 0,_,h=>by cases h
 | f+1,j,hr=>by
  simp only [Q2,Bool.or_eq_true,List.any_eq_true,zC] at hr
  rcases hr with hr | ⟨m,_,h1,h2⟩
  ·exact h.Nw j hr
  ·exact vo h.down f m j (h.Nw m h1) h2
def indep (ops:Array Oper) (m:Nat) (Ts:List Fp):Bool:=(List.range m).all fun i=>(List.range i).all fun j=>!(cf (Ts.getD j .no) (Ts.getD i .no)) || Q2 ops m i j
theorem Qy {T U:Fp} {x:Nat} (h1:aR T x=true) (h2:aR U x=true) (hw:T.w=true∨U.w=true):cf T U=true:=by
 unfold cf
 rw [zC]
 refine ⟨by rcases hw with h | h<;>simp [h],?_⟩
 unfold aR at h1 h2
 simp only [Bool.or_eq_true,List.any_eq_true] at h1 h2 ⊢
 rcases h1 with h1 | ⟨a,ha,h1⟩
 ·exact .inl (.inl h1)
 ·rcases h2 with h2 | ⟨b,hb,h2⟩
  ·exact .inl (.inr h2)
  ·exact .inr ⟨a,ha,b,hb,by rw [←beq_eq h1,←beq_eq h2];exact Nat.beq_refl _⟩
def qy (S:Hp) (x:Nat):Option Ob×Prop:=(S.ob x,S.fr x)
theorem uX {S S':Hp} (h:∀x,qy S x=qy S' x):S=S':=Hp.ext' (fun i=>congrArg Prod.fst (h i)) (fun i=>by have:=congrArg Prod.snd (h i);exact Iff.of_eq this)
def CG (T:Fp) (H S:Hp):Hp:=bif T.w then l6 T H S else S
theorem Fz (T:Fp) (H S:Hp) (x:Nat):qy (CG T H S) x=if (T.w && aR T x)=true then qy H x else qy S x:=by
 unfold CG
 cases hw:T.w with
 | false=>simp
 | true=>
  simp only [cond_true,Bool.true_and]
  show (if aR T x=true then H.ob x else S.ob x,if aR T x=true then H.fr x else S.fr x)=_
  cases aR T x<;>rfl
def oE (L:Nat→Bool):List (Fp×Hp)→Nat→Hp→Hp
 | [],_,S=>S
 | (T,H)::r,j,S=>oE L r (j+1) (bif L j then CG T H S else S)
def fx (L:Nat→Bool) (x:Nat):List (Fp×Hp)→Nat→Option Ob×Prop→Option Ob×Prop
 | [],_,v=>v
 | (T,H)::r,j,v=>fx L x r (j+1) (if (L j && (T.w && aR T x))=true then qy H x else v)
theorem ll (L:Nat→Bool) (x:Nat):∀(r:List (Fp×Hp)) (j:Nat) (S:Hp),qy (oE L r j S) x=fx L x r j (qy S x)
 | [],_,_=>rfl
 | (T,H)::r,j,S=>by
  unfold oE fx
  rw [ll L x r]
  congr 1
  cases hl:L j with
  | true=>simp only [cond_true,Bool.true_and];exact Fz T H S x
  | false=>simp
theorem po {L L':Nat→Bool} {x:Nat}:∀(r:List (Fp×Hp)) (j:Nat) (v:Option Ob×Prop),(∀m T H,r[m]?=some (T,H)→(T.w && aR T x)=true→L (j+m)=L' (j+m))→fx L x r j v=fx L' x r j v
 | [],_,_,_=>rfl
 | (T,H)::r,j,v,h=>by
  unfold fx
  have e:(if (L j && (T.w && aR T x))=true then qy H x else v)=(if (L' j && (T.w && aR T x))=true then qy H x else v):=by
   cases hw:(T.w && aR T x) with
   | false=>simp
   | true=>rw [show L j=L' j from h 0 T H rfl hw]
  rw [e]
  exact po r (j+1) _ (fun m T' H' hm hw=>by have:=h (m+1) T' H' (by simpa using hm) hw;rwa [show j+(m+1)=j+1+m by omega] at this)
def FF (H0:Hp) (rs:List (Fp×Hp)):Nat→Hp
 | 0=>H0
 | m+1=>match rs[m]? with
  | some q=>q.2
  | none=>H0
def oK (H0:Hp) (rs:List (Fp×Hp)):Prop:=∀m T H,rs[m]?=some (T,H)→(∀x,aR T x=false→qy H x=qy (FF H0 rs m) x)∧(T.w=false→H=FF H0 rs m)
theorem mw {H0:Hp} {q:Fp×Hp} {rs:List (Fp×Hp)} (m:Nat) (hm:m≤rs.length):FF H0 (q::rs) (m+1)=FF q.2 rs m:=by
 cases m with
 | zero=>rfl
 | succ m=>
  show (match (q::rs)[m+1]? with | some q=>q.2 | none=>H0)=(match rs[m]? with | some q'=>q'.2 | none=>q.2)
  rw [List.getElem?_cons_succ,zD (show m<rs.length by omega)]
theorem oK.tail {H0:Hp} {q:Fp×Hp} {rs:List (Fp×Hp)} (h:oK H0 (q::rs)):oK q.2 rs:=fun m T H hm=>by
 have:=h (m+1) T H (by simpa using hm)
 rw [mw m (Nat.le_of_lt (zB.1 hm).1)] at this
 exact this
theorem uT {x:Nat}:∀(rs:List (Fp×Hp)) (H0:Hp) (j i:Nat),oK H0 rs→i≤rs.length→fx (fun k=>decide (k<j+i)) x rs j (qy H0 x)=qy (FF H0 rs i) x
 | [],H0,j,i,_,hi=>by
  have:i=0:=by simpa using hi
  subst this;rfl
 | (T,H)::rs,H0,j,0,hc,_=>by
  have Yv:∀(r:List (Fp×Hp)) (k:Nat) (v:Option Ob×Prop),j≤k→fx (fun k=>decide (k<j+0)) x r k v=v:=by
   intro r
   induction r with
   | nil=>intro k v _;rfl
   | cons q r ih=>
    intro k v hk
    obtain ⟨T,H⟩:=q
    unfold fx
    rw [show (decide (k<j+0))=false by simpa using hk]
    simp only [Bool.false_and,Bool.false_eq_true,if_false]
    exact ih (k+1) v (by omega)
  exact Yv _ j _ (Nat.le_refl _)
 | (T,H)::rs,H0,j,i+1,hc,hi=>by
  unfold fx
  rw [show (decide (j<j+(i+1)))=true by simp]
  simp only [Bool.true_and]
  have h0:=hc 0 T H rfl
  have e:(if (T.w && aR T x)=true then qy H x else qy H0 x)=qy H x:=by
   cases hw:T.w with
   | false=>rw [h0.2 hw];simp [FF]
   | true=>
    cases ht:aR T x with
    | true=>simp
    | false=>simp only [Bool.and_false,Bool.false_eq_true,if_false];exact (h0.1 x ht).symm
  rw [e,mw i (by simpa using hi)]
  have:=uT (x:=x) rs H (j+1) i hc.tail (by simpa using hi)
  rw [show j+1+i=j+(i+1) by omega] at this
  exact this
theorem BA {ops:Array Oper} {H0 S2:Hp} {rs:List (Fp×Hp)} (hc:oK H0 rs) (hi:indep ops rs.length (rs.map (·.1))=true) (hA:∀T H,(T,H)∈rs→bK T H0 S2) {i:Nat} {T:Fp} {H:Hp} (hr:rs[i]?=some (T,H)) {L:Nat→Bool} (ha:LG ops i L) :
  bK T (FF H0 rs i) (oE L rs 0 S2)∧oE (ins L i) rs 0 S2=CG T H (oE L rs 0 S2):=by
 have dP:=(zB.1 hr).1
 have Qk:∀(a b:Nat) (Ta Tb:Fp) (Ha Hb:Hp),b<rs.length→a<b→rs[a]?=some (Ta,Ha)→rs[b]?=some (Tb,Hb)→cf Ta Tb=true→Q2 ops rs.length b a=true:=fun a b Ta Tb Ha Hb h1 h2 h3 h4 h5=>by
  unfold indep at hi
  have:=List.all_eq_true.1 (List.all_eq_true.1 hi b (List.mem_range.2 h1)) a (List.mem_range.2 h2)
  have ga:(rs.map (·.1)).getD a .no=Ta:=by simp [zA,zL,h3]
  have gb:(rs.map (·.1)).getD b .no=Tb:=by simp [zA,zL,h4]
  rw [ga,gb,h5] at this
  simpa using this
 have seg:∀x,aR T x=true→∀m T' H',rs[m]?=some (T',H')→(T'.w && aR T' x)=true→m≠i→L m=decide (m<i):=fun x hx m T' H' hm hw jI=>by
  simp only [zC] at hw
  have hml:=(zB.1 hm).1
  rcases Nat.lt_or_ge m i with Dv | Dv
  ·rw [show decide (m<i)=true by simpa using Dv]
   exact L3 ha _ m (Qk m i T' T H' H dP Dv hm hr (Qy hw.2 hx (.inl hw.1)))
  ·have Dv:i<m:=by omega
   rw [show decide (m<i)=false by simp;omega]
   cases hl:L m with
   | false=>rfl
   | true=>
    have:=vo ha.down _ m i hl (Qk i m T T' H H' hml Dv hr hm (Qy hx hw.2 (.inr hw.1)))
    rw [ha.new] at this;cases this
 have base:∀x,aR T x=true→qy S2 x=qy H0 x:=fun x hx=>by
  have:=hA T H (zG hr) x hx
  exact Prod.ext this.1 (propext this.2)
 have pre:∀x,aR T x=true→qy (oE L rs 0 S2) x=qy (FF H0 rs i) x:=fun x hx=>by
  rw [ll,base x hx,←uT rs H0 0 i hc (Nat.le_of_lt dP)]
  refine po rs 0 _ (fun m T' H' hm hw=>?_)
  simp only [Nat.zero_add]
  by_cases Dv:m=i
  ·subst Dv;rw [ha.new];simp
  ·exact seg x hx m T' H' hm hw Dv
 refine ⟨fun x hx=>?_,uX fun x=>?_⟩
 ·have:=pre x hx
  exact ⟨congrArg Prod.fst this,Iff.of_eq (congrArg Prod.snd this)⟩
 ·rw [Fz]
  by_cases hw:(T.w && aR T x)=true
  ·rw [if_pos hw]
   simp only [zC] at hw
   have e:FF H0 rs (i+1)=H:=by
    show (match rs[i]? with | some q=>q.2 | none=>H0)=H
    rw [hr]
   rw [←e,ll,base x hw.2,←uT rs H0 0 (i+1) hc dP]
   refine po rs 0 _ (fun m T' H' hm hw'=>?_)
   simp only [Nat.zero_add]
   by_cases Dv:m=i
   ·subst Dv;simp [ins]
   ·have:=seg x hw.2 m T' H' hm hw' Dv
    show (m == i || L m)=decide (m<i+1)
    rw [this,show (m == i)=false by simpa using Dv,Bool.false_or]
    by_cases h1:m<i
    ·rw [show decide (m<i)=true by simpa using h1,show decide (m<i+1)=true by simp;omega]
    ·rw [show decide (m<i)=false by simpa using h1,show decide (m<i+1)=false by simp;omega]
  ·rw [if_neg hw,ll,ll]
   refine po rs 0 _ (fun m T' H' hm hw'=>?_)
   simp only [Nat.zero_add]
   by_cases Dv:m=i
   ·subst Dv;rw [hr] at hm;cases hm;exact absurd hw' hw
   ·show (m == i || L m)=L m
    rw [show (m == i)=false by simpa using Dv,Bool.false_or]
end
section
open Go.RowKit
section
variable {P:Program} {E:Env} {cx:Cx} {n:Nat} {β:Type} {r:β}
def oL:List Fp→Fp
 | []=>.no
 | T::r=>T.cat (oL r)
def DZ (E:Env) (cx:Cx) (n:Nat) (l0:List Oper):List Oper→Tr A→H→List Fp→(Tr A→H→List Fp→Option β)→Option β
 | [],F,h,acc,K=>K F h acc
 | o::l,F,h,acc,K=>match o.guard with
  | none=>Ri E cx n o.op F h (fun F pv h' T=>yL F o.dst pv (fun F'=>DZ E cx n l0 l F' h' (acc++[T]) K))
  | some (j,want)=>Nf l0 n F j want (fun F b=>bif b then Ri E cx n o.op F h (fun F pv h' T=>yL F o.dst pv (fun F'=>DZ E cx n l0 l F' h' (acc++[T]) K)) else yL F o.dst .un (fun F'=>DZ E cx n l0 l F' h (acc++[.no]) K))
def drK (E:Env) (cx:Cx) (n:Nat) (β:Type) (_id:Nat) (ops:List Oper) (F:Tr A) (h:H) (U:Fp) (K:Tr A→H→Fp→Option β):Option β:=
 bif chk ops.toArray then DZ E cx n ops ops F h [] (fun F h Ts=>bif indep ops.toArray ops.length Ts then K F h (U.cat (oL Ts)) else none) else none
def sP (ops:Array Oper) (H0:Hp) (rs:List (Fp×Hp)) (Sf:(Nat→Bool)→Hp) (k:Nat):Prop:=
 ∀m T H,rs[m]?=some (T,H)→∀L,LG ops (k+m) L→bK T (FF H0 rs m) (Sf L)∧Sf (ins L (k+m))=CG T H (Sf L)
theorem sP.tail {ops:Array Oper} {H0:Hp} {q:Fp×Hp} {rs:List (Fp×Hp)} {Sf:(Nat→Bool)→Hp} {k:Nat} (h:sP ops H0 (q::rs) Sf k):sP ops q.2 rs Sf (k+1):=fun m T H hm L ha=>by
 have:=h (m+1) T H (by simpa using hm) L (by rwa [show k+(m+1)=k+1+m by omega])
 rw [mw m (Nat.le_of_lt (zB.1 hm).1),show k+(m+1)=k+1+m by omega] at this
 exact this
theorem oK.cons {H0:Hp} {T:Fp} {H:Hp} {rs:List (Fp×Hp)} (h1:∀x,aR T x=false→qy H x=qy H0 x) (h2:T.w=false→H=H0) (h:oK H rs):oK H0 ((T,H)::rs):=fun m T' H' hm=>by
 cases m with
 | zero=>simp at hm;obtain ⟨rfl,rfl⟩:=hm;exact ⟨h1,h2⟩
 | succ m=>
  have GO:rs[m]?=some (T',H'):=by simpa using hm
  rw [mw m (Nat.le_of_lt (zB.1 GO).1)]
  exact h m T' H' GO
theorem zt (hE:di P E) (hx:nM P cx) {l0:List Oper}:∀(l:List Oper) (F:Tr A) (h:H) (acc:List Fp) (K:Tr A→H→List Fp→Option β),DZ E cx n l0 l F h acc K=some r →
  ∃F' h' rs,K F' h' (acc++rs.map (·.1))=some r∧Kp (xo l) F F'∧rs.length=l.length∧oK (hp h) rs∧(∀x,wt (oL (rs.map (·.1))) x=false→qy (hp h') x=qy (hp h) x)∧FF (hp h) rs rs.length=hp h'∧∀Sf k,sP l0.toArray (hp h) rs Sf k→∀ds S (Kf:St→Prop),Kf (jW n F' ds S)→wu P l0.toArray Sf l k (jW n F ds S) Kf
 | [],F,h,acc,K,hr=>⟨F,h,[],by have hr:K F h acc=some r:=hr;simpa using hr,.refl _ F,rfl,fun m T H hm=>by simp at hm,fun _ _=>rfl,rfl,fun Sf k _ ds S Kf hk=>hk⟩
 | o::l,F,h,acc,K,hr=>by
  have yes:∀(F:Tr A),Ri E cx n o.op F h (fun F pv h' T=>yL F o.dst pv (fun F'=>DZ E cx n l0 l F' h' (acc++[T]) K))=some r →
    (∀ds S,o.guard=none∨∃j want,o.guard=some (j,want)∧pk l0.toArray (jW n F ds S) j want=some true) →
    ∃F' h' rs,K F' h' (acc++rs.map (·.1))=some r∧Kp (xo (o::l)) F F'∧rs.length=(o::l).length∧oK (hp h) rs∧(∀x,wt (oL (rs.map (·.1))) x=false→qy (hp h') x=qy (hp h) x)∧FF (hp h) rs rs.length=hp h'∧∀Sf k,sP l0.toArray (hp h) rs Sf k→∀ds S (Kf:St→Prop),Kf (jW n F' ds S)→wu P l0.toArray Sf (o::l) k (jW n F ds S) Kf:=fun F hr hg=>by
   obtain ⟨F0,e0,pv,h1,T1,k1,k2⟩:=IZ hE hx hr
   obtain ⟨F1,k3,Rt,k4⟩:=uP k1
   obtain ⟨F2,h2,rs,k5,kp2,k6,k7,kw,k8,k9⟩:=zt hE hx l F1 h1 (acc++[T1]) K k3
   have hg:∀ds S,o.guard=none∨∃j want,o.guard=some (j,want)∧pk l0.toArray (jW n F0 ds S) j want=some true:=fun ds S=>by rw [e0];exact hg ds S
   refine ⟨F2,h2,(T1,hp h1)::rs,by simpa using k5,(Kp.of (l:=[]) e0).trans (m:=xo (o::l)) (Rt.trans kp2 (fun i hi=>zQ _ hi) (fun i hi=>zS _ hi)) (fun i hi=>by cases hi) (fun i hi=>hi),by simp [k6],oK.cons (fun x hx=>Prod.ext (k2.out x hx).1 (propext (k2.out x hx).2)) (fun hw=>uX fun x=>Prod.ext (k2.rd x (LJ hw)).1 (propext (k2.rd x (LJ hw)).2)) k7,fun x hx=>(kw x (uY hx).2).trans (Prod.ext (k2.rd x (uY hx).1).1 (propext (k2.rd x (uY hx).1).2)),by rw [zR,mw _ (Nat.le_refl _)];exact k8,fun Sf k hs ds S Kf hk=>?_⟩
   rw [←e0 ds S]
   refine ⟨pv,?_,?_⟩
   ·have sX:∀L,LG l0.toArray k L→Hl P o ((jW n F0 ds S).Cs 0) (Sf L) (Sf (ins L k)) pv:=fun L ha=>by
     obtain ⟨q1,q2⟩:=hs 0 T1 (hp h1) rfl L ha
     have q1:bK T1 (hp h) (Sf L):=q1
     have q2:Sf (ins L k)=CG T1 (hp h1) (Sf L):=q2
     rw [←tr,q2]
     have:=k2.ok (Sf L) q1
     unfold CG
     cases hw:T1.w with
     | true=>exact this
     | false=>
      rw [show hp h1=hp h from uX fun x=>Prod.ext (k2.rd x (LJ hw)).1 (propext (k2.rd x (LJ hw)).2),rU q1] at this
      exact this
    unfold xz
    rcases hg ds S with hg | ⟨j,want,hg,hv⟩
    ·rw [hg];exact ⟨0,sX⟩
    ·rw [hg];exact .inl ⟨hv,0,sX⟩
   ·have:=k9 Sf (k+1) hs.tail ds S Kf hk
    rw [←k4 n ds S S,show ((jW n F0 ds S).put o.dst pv).to S=(jW n F0 ds S).put o.dst pv from yH _ _] at this
    exact this
  unfold DZ at hr
  split at hr
  ·rename_i hg
   exact yes F hr (fun _ _=>.inl hg)
  ·rename_i j want hg
   obtain ⟨F1,b,k1,k2,k3⟩:=E5 hr
   cases b with
   | true=>
    simp only [cond_true] at k1
    obtain ⟨F',h',rs,q1,qp,q2,q3,qw,q4,q5⟩:=yes F1 k1 (fun ds S=>.inr ⟨j,want,hg,by rw [k2];exact k3 ds S⟩)
    refine ⟨F',h',rs,q1,(Kp.of (l:=[]) k2).trans qp (fun i hi=>by cases hi) (fun i hi=>hi),q2,q3,qw,q4,fun Sf k hs ds S Kf hk=>?_⟩
    rw [←k2]
    exact q5 Sf k hs ds S Kf hk
   | false=>
    simp only [cond_false] at k1
    obtain ⟨F2,k4,Rt,k5⟩:=uP k1
    obtain ⟨F',h',rs,q1,qp,q2,q3,qw,q4,q5⟩:=zt hE hx l F2 h (acc++[.no]) K k4
    refine ⟨F',h',(.no,hp h)::rs,by simpa using q1,(Kp.of (l:=[]) k2).trans (m:=xo (o::l)) (Rt.trans qp (fun i hi=>zQ _ hi) (fun i hi=>zS _ hi)) (fun i hi=>by cases hi) (fun i hi=>hi),by simp [q2],.cons (fun _ _=>rfl) (fun _=>rfl) q3,fun x hx=>qw x (uY hx).2,by rw [zR,mw _ (Nat.le_refl _)];exact q4,fun Sf k hs ds S Kf hk=>⟨.un,?_,?_⟩⟩
    ·unfold xz
     rw [hg]
     exact .inr ⟨k3 ds S,fun g=>.un,fun L ha=>(hs 0 .no (hp h) rfl L ha).2⟩
    ·have:=q5 Sf (k+1) hs.tail ds S Kf hk
     rw [←k5 n ds S S,show ((jW n F1 ds S).put o.dst .un).to S=(jW n F1 ds S).put o.dst .un from yH _ _] at this
     rw [←k2]
     exact this
theorem qJ {x:Nat}:∀(Ts:List Fp),aR (oL Ts) x=Ts.any fun T=>aR T x
 | []=>rfl
 | T::r=>by
  show aR (T.cat (oL r)) x=_
  rw [kW,qJ r,List.any_cons]
theorem G_ {H0:Hp}:∀(rs:List (Fp×Hp)),oK H0 rs→(∀x,aR (oL (rs.map (·.1))) x=false→qy (FF H0 rs rs.length) x=qy H0 x)∧((oL (rs.map (·.1))).w=false→FF H0 rs rs.length=H0):=fun rs=>by
 induction rs generalizing H0 with
 | nil=>exact fun _=>⟨fun _ _=>rfl,fun _=>rfl⟩
 | cons q rs ih=>
  intro hc
  obtain ⟨T,H⟩:=q
  obtain ⟨i1,i2⟩:=ih hc.tail
  have h0:=hc 0 T H rfl
  rw [zR,mw _ (Nat.le_refl _)]
  refine ⟨fun x hx=>?_,fun hw=>?_⟩
  ·have hx:aR (T.cat (oL (rs.map (·.1)))) x=false:=hx
   rw [kW,Bool.or_eq_false_iff] at hx
   exact (i1 x hx.2).trans (h0.1 x hx.1)
  ·have hw:(T.w || (oL (rs.map (·.1))).w)=false:=hw
   rw [Bool.or_eq_false_iff] at hw
   exact (i2 hw.2).trans (h0.2 hw.1)
theorem Ku (hE:di P E) (hx:nM P cx) (hm:P.follows .mixedOrders=true) (n:Nat) (β:Type):La P n (drK E cx n β):=fun id ops F h U K r hr=>by
 obtain ⟨hch,hr⟩:=ab hr
 obtain ⟨F',h',rs,k1,kp,k2,k3,kw,k4,k5⟩:=zt hE hx ops F h [] _ hr
 rw [List.nil_append] at k1
 obtain ⟨hi,k1⟩:=ab k1
 rw [←k2] at hi
 refine ⟨F',h',oL (rs.map (·.1)),k1,kp,fun inr ds=>?_⟩
 obtain ⟨e1,e2⟩:=G_ rs k3
 rw [k4] at e1 e2
 refine ⟨⟨fun x hx=>⟨congrArg Prod.fst (e1 x hx),Iff.of_eq (congrArg Prod.snd (e1 x hx))⟩,fun x hx=>⟨congrArg Prod.fst (kw x hx),Iff.of_eq (congrArg Prod.snd (kw x hx))⟩⟩,fun ro _ S0 g0 w0 S2 hA Q hq=>?_⟩
 have hA':∀T H,(T,H)∈rs→bK T (hp h) S2:=fun T H GN x hx=>hA x (by
  rw [qJ,List.any_eq_true]
  exact ⟨T,List.mem_map.2 ⟨_,GN,rfl⟩,hx⟩)
 have zero:∀(r:List (Fp×Hp)) (j:Nat) (S:Hp),oE (fun _=>false) r j S=S:=fun r=>by
  induction r with
  | nil=>exact fun _ _=>rfl
  | cons q r ih=>exact fun j S=>ih (j+1) S
 refine L_ (fun L=>oE L rs 0 S2) hm hch (zero rs 0 S2) ?_
 refine k5 (fun L=>oE L rs 0 S2) 0 (fun m T H hmr L ha=>?_) ds S2 _ ?_
 ·rw [Nat.zero_add] at ha ⊢
  exact BA k3 hi hA' hmr ha
 ·have e:oE (fun j=>decide (j<ops.length)) rs 0 S2=l6 (oL (rs.map (·.1))) (hp h') S2:=uX fun x=>by
   rw [ll]
   cases ht:aR (oL (rs.map (·.1))) x with
   | true=>
    have b:qy S2 x=qy (hp h) x:=Prod.ext (hA x ht).1 (propext (hA x ht).2)
    have:=uT (x:=x) rs (hp h) 0 rs.length k3 (Nat.le_refl _)
    rw [Nat.zero_add,k4,k2] at this
    rw [b,this]
    show qy (hp h') x=(if aR (oL (rs.map (·.1))) x=true then (hp h').ob x else S2.ob x,if aR (oL (rs.map (·.1))) x=true then (hp h').fr x else S2.fr x)
    rw [if_pos ht,if_pos ht];rfl
   | false=>
    rw [po (L':=fun _=>false) rs 0 _ (fun m T H hmr hw=>by
     simp only [zC] at hw
     have:aR (oL (rs.map (·.1))) x=true:=by
      rw [qJ,List.any_eq_true]
      exact ⟨T,List.mem_map.2 ⟨_,zG hmr,rfl⟩,hw.2⟩
     rw [this] at ht;cases ht),←ll,zero]
    show qy S2 x=(if aR (oL (rs.map (·.1))) x=true then (hp h').ob x else S2.ob x,if aR (oL (rs.map (·.1))) x=true then (hp h').fr x else S2.fr x)
    rw [if_neg (by rw [ht];simp),if_neg (by rw [ht];simp)];rfl
  show Q .normal ((jW n F' ds S2).to (oE (fun j=>decide (j<ops.length)) rs 0 S2))
  rw [e]
  exact hq
end
end
open Go.RowKit
inductive Ah (P:Program):Nat→Nat→Hk→Prop
 | nil (a b:Nat):Ah P a b .nil
 | no {a b:Nat} {l r:Hk} (h1:Ah P (2*a) (a+b) l) (h2:Ah P (2*a) (2*a+b) r):Ah P a b (.node l none r)
 | yes {a b:Nat} {e:dK} {l r:Hk} (h:bZ P b e) (h1:Ah P (2*a) (a+b) l) (h2:Ah P (2*a) (2*a+b) r):Ah P a b (.node l (some e) r)
theorem LN {P:Program} {T:Hk} {a b:Nat} (h:Ah P a b T):∀t e,dx T t=some e→bZ P (a*t+b) e:=by
 have key:∀(a b:Nat) (l r:Hk),(∀t e,dx l t=some e→bZ P (2*a*t+(a+b)) e)→(∀t e,dx r t=some e→bZ P (2*a*t+(2*a+b)) e) →
   ∀n e v,dx (.node l v r) (n+1)=some e→bZ P (a*(n+1)+b) e:=by
  intro a b l r hl hr n e v ht
  rw [FK] at ht
  cases hn:Nat.beq (n%2) 0 with
  | true=>
   rw [hn] at ht
   have h0:=Nat.eq_of_beq_eq_true hn
   have:=hl _ e ht
   have e1:a*(n+1)+b=2*a*(n / 2)+(a+b):=by
    have:n=2*(n / 2):=by omega
    generalize n / 2=k at this
    subst this
    rw [Nat.mul_add,Nat.mul_one,Nat.mul_comm 2 a,Nat.mul_assoc];omega
   rw [e1];exact this
  | false=>
   rw [hn] at ht
   have h0:n%2≠0:=fun h=>by rw [h] at hn;cases hn
   have:=hr _ e ht
   have e1:a*(n+1)+b=2*a*(n / 2)+(2*a+b):=by
    have:n=2*(n / 2)+1:=by omega
    generalize n / 2=k at this
    subst this
    rw [show 2*k+1+1=2*(k+1) by omega,←Nat.mul_assoc,Nat.mul_comm a 2,Nat.mul_add,Nat.mul_one];omega
   rw [e1];exact this
 induction h with
 | nil=>intro t e h;cases h
 | no h1 h2 JC Li=>
  intro t e ht
  cases t with
  | zero=>cases ht
  | succ n=>exact key _ _ _ _ JC Li n e _ ht
 | yes h h1 h2 JC Li=>
  intro t e ht
  cases t with
  | zero=>cases ht;rw [Nat.mul_zero,Nat.zero_add];exact h
  | succ n=>exact key _ _ _ _ JC Li n e _ ht
theorem LM {P:Program} {T:Hk} (h:Ah P 1 0 T):∀t e,dx T t=some e→bZ P t e:=fun t e ht=>by
 have:=LN h t e ht
 rwa [Nat.one_mul,Nat.add_zero] at this
inductive EqL (P:Program):List Nat→Prop
 | nil:EqL P []
 | cons {t:Nat} {r:List Nat} (h:lO P t) (k:EqL P r):EqL P (t::r)
theorem Sj {P:Program} {l:List Nat} (h:EqL P l):∀t,l.any (Nat.beq t)=true→lO P t:=by
 induction h with
 | nil=>intro f h;simp at h
 | cons h k ih=>
  rename_i f0 r
  intro f hf
  rw [List.any_cons,Bool.or_eq_true] at hf
  rcases hf with hf | hf
  ·obtain rfl:=Nat.eq_of_beq_eq_true hf;exact h
  ·exact ih f hf
theorem fE {P : Program} {t : Nat} {fs : Array Field} (h1 : P.stoodInHeld t = false) (h2 : P.eqGuardType P.depth t = false) (h3 : P.underlying t = some (.struct fs)) (h4 : fs.toList.all (fun f => f.name != "_") = true) : lO P t :=
 ⟨h1,h2,fun fs' e f hf=>by
  rw [h3] at e
  cases e
  have:=List.all_eq_true.1 h4 f hf
  simpa using this⟩
theorem aD {P:Program} {t:Nat} {e:dK} (h1:P.underlying t=some e.d) (h2:TI P t e.size e.bytes e.zero) (h3:∀fs,e.d = .struct fs→∀w:World,(fs.mapM fun f=>(do pure (f.offset,←sizeOf f.type):Sem (Nat×Nat))).run P w = .ok e.pl.toArray w)
  (h4:∀u,e.t=some u→u.size=e.size∧sV u (l9 e.zero)=some u.dO):bZ P t e where
 u:=h1
 ti:=h2
 pl:=h3
 ts:=fun u hu=>(h4 u hu).1
 tz:=fun u hu g=>by
  obtain ⟨i,t1,t2,t3,t4,t5,t6⟩:=h2
  exact (lH (g:=g) u _ _ (h4 u hu).2).2 _ (rB t6 g)
theorem k_ {e:dK} (h:e.t=none):∀u,e.t=some u→u.size=e.size∧sV u (l9 e.zero)=some u.dO:=fun u hu=>by rw [h] at hu;cases hu
theorem bq {e:dK} {u:Ty} (h:e.t=some u) (h1:u.size=e.size) (h2:sV u (l9 e.zero)=some u.dO):∀u,e.t=some u→u.size=e.size∧sV u (l9 e.zero)=some u.dO:=fun u' hu=>by rw [h] at hu;cases hu;exact ⟨h1,h2⟩
inductive HT where
 | o
 | n (h:Option LH) (x y:HT)
def HT.h:HT→Option LH
 | .o=>none
 | .n h _ _=>h
def HT.l:HT→HT
 | .o=>.o
 | .n _ x _=>x
def HT.r:HT→HT
 | .o=>.o
 | .n _ _ y=>y
def Yw:LH:=⟨[],[],[],[],[],[]⟩
def mkSeq (h:Option LH) (x y:az):az:=match h with
 | some h=>.cut h x y
 | none=>.seq x y
def I_ (h:Option LH) (x:az):az:=match h with
 | some h=>.loop h x
 | none=>.loop Yw x
def comp:Code→HT→az
 | .skip,_=>.skip
 | .ret,_=>.ret
 | .exit id,_=>.exit id
 | .region id ops d,_=>.region id ops.toList d
 | .seq x y,t=>mkSeq t.h (comp x t.l) (comp y t.r)
 | .cond c x y,t=>.cond c (comp x t.l) (comp y t.r)
 | .block id x,t=>.block id (comp x t.l)
 | .loop x,t=>I_ t.h (comp x t.l)
 | .rangeFunc g ps x y,t=>.range g ps.toList Yw (comp x t.l) (comp y t.r)
 | c,_=>.bad c
theorem Dd (h:Option LH) (x y:az):(mkSeq h x y).code = .seq x.code y.code:=by cases h<;>rfl
theorem Bp (h:Option LH) (x:az):(I_ h x).code = .loop x.code:=by cases h<;>rfl
theorem G9 (c:Code) (t:HT):(comp c t).code=c:=by
 fun_induction comp c t<;>simp_all [az.code,Dd,Bp]
def ax (f:Func):Code:=match f.body with
 | some c=>c
 | none=>.skip
theorem af {P : Program} {f : Nat} {fn : Func} {t : HT} (h1 : P.funcs[f]? = some fn) (h2 : fn.body = some (ax fn)) (h3 : (fn.name == "runtime.NumGoroutine") = false) : bm P f fn (comp (ax fn) t) := ⟨h1, by rw [G9]; exact h2, h3⟩
section
open Go.RowKit
structure CtE where
 sg:dR
 F:Plain sg
abbrev Hn:=Nat→Option CtE
def uv (P:Program) (wN:Hn):Prop:=∀f e,wN f=some e→bV P f e.sg e.F
def Sr (wN:Hn) (DX:Cx):Cx:=⟨fun β f aa h K=>match wN f with
 | some e=>ctK e.sg e.F aa h K
 | none=>DX.call β f aa h K,DX.hm,DX.wL⟩
section
variable {P:Program} {E:Env}
theorem Fs {wN:Hn} (hc:uv P wN) {DX:Cx} (hf:nM P DX):nM P (Sr wN DX):=⟨fun β f aa h K r hr=>by
 have hr:(match wN f with | some e=>ctK e.sg e.F aa h K | none=>DX.call β f aa h K)=some r:=hr
 split at hr
 ·rename_i e he
  exact Sw (hc f e he) hr
 ·exact hf.call β f aa h K r hr,hf.wL⟩
def cxT (E:Env) (fns:FT) (hm:List (Nat×Nat)) (wN:Hn):Nat→Cx
 | 0=>Sr wN (HG hm)
 | k+1=>Sr wN (CL E fns (fun cx n=>drK E cx n) hm (cxT E fns hm wN k))
def cxF (E:Env) (fns:FT) (hm:List (Nat×Nat)) (wN:Hn) (k:Nat):Cx:=CL E fns (fun cx n=>drK E cx n) hm (cxT E fns hm wN k)
theorem zx (hE:di P E) (JR:P.follows .mixedOrders=true) {fns:FT} (hF:Ea P fns) {hm:List (Nat×Nat)} {wN:Hn} (hc:uv P wN):∀k,nM P (cxT E fns hm wN k)
 | 0=>Fs hc (FI hm)
 | k+1=>Fs hc (xA hE hF (zx hE JR hF hc k) (fun n β=>Ku hE (zx hE JR hF hc k) JR n β))
theorem zy (hE:di P E) (JR:P.follows .mixedOrders=true) {fns:FT} (hF:Ea P fns) {hm:List (Nat×Nat)} {wN:Hn} (hc:uv P wN) (k:Nat):nM P (cxF E fns hm wN k):=xA hE hF (zx hE JR hF hc k) (fun n β=>Ku hE (zx hE JR hF hc k) JR n β)
theorem bV.of {f:FuncId} {sg:dR} {F G:Plain sg} (h:bV P f sg G) (e:∀x c d,F x c d=G x c d):bV P f sg F:=by
 have:F=G:=funext fun x=>funext fun c=>funext fun d=>e x c d
 rw [this];exact h
end
end
section
open Go.RowKit
def aw {α:Type} (d:α) (l:List α) (i:Nat) (f:α→α):List α:=aT l i (f (nth d l i))
def ctN:Hn:=fun _=>none
def ctC (f:Nat) (sg:dR) (F:Plain sg) (l:Hn):Hn:=fun g=>bif Nat.beq g f then some ⟨sg,F⟩ else l g
theorem aP {P:Program}:uv P ctN:=fun f e h=>by cases h
theorem av {P:Program} {f:Nat} {sg:dR} {F:Plain sg} {l:Hn} (h:bV P f sg F) (k:uv P l):uv P (ctC f sg F l):=fun g e hg=>by
 have hg:(bif Nat.beq g f then some (⟨sg,F⟩:CtE) else l g)=some e:=hg
 cases hb:Nat.beq g f with
 | true=>rw [hb] at hg;cases hg;rw [beq_eq hb];exact h
 | false=>rw [hb] at hg;exact k g e hg
inductive NX (P:Program):Nat→Nat→Tr (Func×az)→Prop
 | nil (a b:Nat):NX P a b .nil
 | no {a b:Nat} {l r:Tr (Func×az)} (h1:NX P (2*a) (a+b) l) (h2:NX P (2*a) (2*a+b) r):NX P a b (.node l none r)
 | yes {a b:Nat} {fn:Func} {x:az} {l r:Tr (Func×az)} (h:bm P b fn x) (h1:NX P (2*a) (a+b) l) (h2:NX P (2*a) (2*a+b) r):NX P a b (.node l (some (fn,x)) r)
theorem RY {P:Program} {T:Tr (Func×az)} {a b:Nat} (h:NX P a b T):∀t fn x,T.get t=some (fn,x)→bm P (a*t+b) fn x:=by
 have key:∀(a b:Nat) (l r:Tr (Func×az)),(∀t fn x,l.get t=some (fn,x)→bm P (2*a*t+(a+b)) fn x)→(∀t fn x,r.get t=some (fn,x)→bm P (2*a*t+(2*a+b)) fn x) →
   ∀n fn x v,(Tr.node l v r).get (n+1)=some (fn,x)→bm P (a*(n+1)+b) fn x:=by
  intro a b l r hl hr n fn x v ht
  rw [Tr.j_] at ht
  cases hn:Nat.beq (n%2) 0 with
  | true=>
   rw [hn] at ht
   have h0:=Nat.eq_of_beq_eq_true hn
   have:=hl _ fn x ht
   have e1:a*(n+1)+b=2*a*(n / 2)+(a+b):=by
    have:n=2*(n / 2):=by omega
    generalize n / 2=k at this
    subst this
    rw [Nat.mul_add,Nat.mul_one,Nat.mul_comm 2 a,Nat.mul_assoc];omega
   rw [e1];exact this
  | false=>
   rw [hn] at ht
   have h0:n%2≠0:=fun h=>by rw [h] at hn;cases hn
   have:=hr _ fn x ht
   have e1:a*(n+1)+b=2*a*(n / 2)+(2*a+b):=by
    have:n=2*(n / 2)+1:=by omega
    generalize n / 2=k at this
    subst this
    rw [show 2*k+1+1=2*(k+1) by omega,←Nat.mul_assoc,Nat.mul_comm a 2,Nat.mul_add,Nat.mul_one];omega
   rw [e1];exact this
 induction h with
 | nil=>intro t fn x h;cases h
 | no h1 h2 JC Li=>
  intro t fn x ht
  cases t with
  | zero=>cases ht
  | succ n=>exact key _ _ _ _ JC Li n fn x _ ht
 | yes h h1 h2 JC Li=>
  intro t fn x ht
  cases t with
  | zero=>cases ht;rw [Nat.mul_zero,Nat.zero_add];exact h
  | succ n=>exact key _ _ _ _ JC Li n fn x _ ht
theorem RX {P:Program} {T:Tr (Func×az)} (h:NX P 1 0 T):Ea P (fun f=>T.get f):=fun f fn x hf=>by
 have:=RY h f fn x hf
 rwa [Nat.one_mul,Nat.add_zero] at this
theorem aaB {P:Program} {E:Env} {fns:FT} {hm:List (Nat×Nat)} {wN:Hn} (hE:di P E) (JR:P.follows .mixedOrders=true) (hF:Ea P fns) (hc:uv P wN) (k:Nat) {f:FuncId} {sg:dR} {F:Plain sg} (e:∀x c d,F x c d=QY (cxF E fns hm wN k) f sg x c d):bV P f sg F:=
 (LV (zy hE JR hF hc k) f sg).of e
theorem _root_.Go.Bm.V.OZ {g:G} {t:Ty} {f:Bool} {l:List t.T} {v:Value} (hv:V g (.tl t f l) v):(∃a n c,v = .slice (some a) n c∧VD g.mem (.sl t.size f (l.map (eH t))) v)∨(l=[]∧v = .slice none 0 0):=by
 cases hv with
 | tl _ _ _ _ hd=>
  generalize oJ:List.map (eH t) l=es at hd
  have tJ:es.length=l.length:=by rw [←oJ,zH]
  have qt:=hd
  cases hd with
  | wR sz full A=>
   cases A with
   | none=>exact .inr ⟨zZ tJ.symm,rfl⟩
   | some a=>exact .inl ⟨_,_,_,rfl,qt⟩
  | sl _ _ _ a cap vs hz hc hf hn hx hl hm Ll=>
   cases a with
   | some p=>exact .inl ⟨_,_,_,rfl,qt⟩
   | none=>
    have h0:cap=0:=hn rfl
    have h1:es.length=0:=by omega
    refine .inr ⟨zZ (by omega),?_⟩
    rw [h0,h1];rfl
theorem PC.less {P:Program} {f:FuncId} {aa:List A} {S S1 S2:Hp} {r:A} (h:PC P f aa S S1 r) (hs:∀o x,S2.ob o=some x→S1.ob o=some x) (hf:∀o,S2.fr o→S1.fr o):PC P f aa S S2 r:=fun g w vs hI hl hv=>by
 refine (h g w vs hI hl hv).mono ?_
 rintro e w' ⟨v,g',rfl,q1,q2,q3⟩
 exact ⟨v,g',rfl,q1,q2.less hs hf,q3.trans (.less hs hf)⟩
theorem Qc {h:H} {i:Nat} (hl:i<dJ):(hp h).ob i=ir h.t i∧((hp h).fr i↔h.bF≤i):=⟨if_pos hl,by show (if i<dJ then _ else _)↔_;rw [if_pos hl]⟩
theorem lU {t:Tr jJ} {n m:Nat} {l:List Rg} {k k':List Nat} (h:n≤m):(∀o x,(hp ⟨.nil,m,l,k'⟩).ob o=some x→(hp ⟨t,n,l,k⟩).ob o=some x)∧∀o,(hp ⟨.nil,m,l,k'⟩).fr o→(hp ⟨t,n,l,k⟩).fr o:=by
 refine ⟨fun o x e=>?_,fun o e=>?_⟩
 ·by_cases ho:o<dJ
  ·rw [(Qc ho).1] at e
   have e0:ir .nil o=none:=by unfold ir;rw [Tr.get_nil]
   rw [show (⟨.nil,m,l,k'⟩:H).t = .nil from rfl,e0] at e
   cases e
  ·rw [(gR ho).1] at e ⊢;exact e
 ·by_cases ho:o<dJ
  ·rw [(Qc ho).2] at e ⊢;exact Nat.le_trans h e
  ·rw [(gR ho).2] at e ⊢;exact e
theorem Kz {P:Program} {cx:Cx} (hx:nM P cx) {f:FuncId} {t:Ty} {rs:List (Bool×Ty)} {F:List t.T→Option (mv rs×Unit)}
  (hn:AO cx f ⟨[(false,.cB t)],rs,[],[]⟩ [.v (.slice none 0 0)] () ()=F []) (h1:∀l,AO cx f ⟨[(false,.cB t)],rs,[],[]⟩ [.nn t l] () ()=F l):bV P f ⟨[(false,.cB t)],rs,[],[]⟩ (fun x _ _=>F x.1):=by
 refine ⟨fun x c d y h=>(lr hx f _ _ c d y.1 y.2 ((h1 x.1).trans h)).1,fun x c d y d' h=>?_⟩
 obtain ⟨l,u⟩:=x
 obtain ⟨_,t1,n1,k1,p1⟩:=lr hx f _ _ c d y d' ((h1 l).trans h)
 obtain ⟨a1,a2⟩:=lU (t:=t1) (n:=n1) (m:=n1) (l:=eL [] d'++eL [] c) (k:=k1) (k':=k1) (Nat.le_refl _)
 have full:∀m,n1≤m→PC P f [.nn t l] (hp (h0 [] [] c d)) (hp ⟨.nil,m,eL [] d'++eL [] c,k1⟩) (wV rs y):=fun m hm=>p1.less (lU hm).1 (lU hm).2
 cases l with
 | cons a l=>
  refine ⟨.nil,n1,k1,fun g w vs hI hl hv=>?_⟩
  match vs,hl with
  | [v],_=>
   rcases (hv 0 _ _ rfl rfl:V g (.tl t false (a::l)) v).OZ with ⟨b,n,c2,rfl,hd⟩ | ⟨e,_⟩
   ·exact full n1 (Nat.le_refl _) g w _ hI rfl fun i p v e1 e2=>by
     cases i with
     | zero=>cases e1;cases e2;exact .nn _ _ _ _ _ hd
     | succ i=>cases e1
   ·cases e
 | nil=>
  obtain ⟨_,t0,n0,k0,p0⟩:=lr hx f _ _ c d y d' (hn.trans h)
  refine ⟨.nil,n1+n0,k1,fun g w vs hI hl hv=>?_⟩
  match vs,hl with
  | [v],_=>
   rcases (hv 0 _ _ rfl rfl:V g (.tl t false []) v).OZ with ⟨b,n,c2,rfl,hd⟩ | ⟨_,rfl⟩
   ·exact full _ (Nat.le_add_right _ _) g w _ hI rfl fun i p v e1 e2=>by
     cases i with
     | zero=>cases e1;cases e2;exact .nn _ _ _ _ _ hd
     | succ i=>cases e1
   ·exact (p0.less (S2:=hp ⟨.nil,n1+n0,eL [] d'++eL [] c,k1⟩) (lU (Nat.le_add_left _ _)).1 (lU (Nat.le_add_left _ _)).2) g w _ hI rfl fun i p v e1 e2=>by
     cases i with
     | zero=>cases e1;cases e2;exact .v _
     | succ i=>cases e1
end
end Go.Bm
namespace Go.Proofs.YtihiooaimdoapaaGreat
open Go.Bm
set_option maxRecDepth 20000
def R0:RK:=(.box (.pair (.pair (.int .i64) (.pair (.int .i64) (.pair (.int .i64) (.int .i64)))) (.pair (.cB (.cB (.pair (.int .u8) (.pair (.int .i64) (.int .i64))))) (.pair (.ptr 1) (.pair (.kz 5 3) (.pair (.kz 6 5) (.mp 7)))))))
def R1:RK:=(.box (.pair (.kz 3 6) (.ptr 2)))
def R2:RK:=(.box (.pair (.int .i64) (.pair (.int .i64) (.kz 4 2))))
def R3:RK:=(.row (.pair (.pair (.int .i64) (.pair (.int .i64) (.pair (.int .i64) (.int .i64)))) (.pair (.int .i64) (.int .i64))))
def R4:RK:=(.row (.pair (.int .i64) (.int .i64)))
def R5:RK:=(.row (.pair (.int .i64) (.pair (.int .u64) (.kz 9 1))))
def R6:RK:=(.row (.pair (.arr 4 (.int .u64)) (.cB (.pair (.int .i64) .bool))))
def R7:RK:=(.map true (.pair (.int .i64) (.pair (.int .i64) (.int .i64))) false (.ptr 8))
def R8:RK:=(.box (.pair (.pair (.int .i64) (.pair (.int .i64) (.int .i64))) (.pair (.int .i64) (.pair (.kz 10 1) .bool))))
def R9:RK:=(.row (.ptr 8))
def CF:RK:=(.row (.int .u64))
def FE:RK:=(.box (.pair (.pair (.int .i64) (.pair (.int .i64) (.pair (.int .i64) (.int .i64)))) (.pair (.cB (.cB (.pair (.int .u8) (.pair (.int .i64) (.int .i64))))) (.pair (.ptr 12) (.pair (.kz 17 5) (.pair (.arr 8 (.int .u64)) (.pair (.arr 8 (.int .i64)) (.pair (.arr 4 (.arr 4 (.int .u64))) (.arr 4 (.cB (.pair (.int .i64) .bool)))))))))))
def xp:RK:=(.box (.pair (.kz 14 4) (.pair (.kz 15 2) (.ptr 13))))
def uL:RK:=(.box (.pair (.int .i64) (.kz 16 1)))
def uK:RK:=(.row (.pair (.int .i64) (.pair (.int .i64) (.pair (.int .i64) (.int .i64)))))
def wH:RK:=(.row (.pair (.int .i64) (.int .i64)))
def rz:RK:=(.row .bool)
def D7:RK:=(.row (.pair (.int .i64) (.pair (.int .i64) (.pair (.int .i64) (.pair (.kz 18 1) .bool)))))
def CE:RK:=(.row (.int .u64))
def ty2:dK:=⟨.int .i64,1,8,.int .i64 0,[],(some (.int .i64)),false⟩
theorem te2:bZ Tryz.prog 2 ty2:=aD Tryz.underlying2 (bo (by kernel_rfl) rfl rfl) (fun _ h=>by cases h) (bq rfl (by kernel_rfl) (by kernel_rfl))
def ty3:dK:=⟨.int .i64,1,8,.int .i64 0,[],(some (.int .i64)),false⟩
theorem te3:bZ Tryz.prog 3 ty3:=aD Tryz.underlying3 (bo (by kernel_rfl) rfl rfl) (fun _ h=>by cases h) (bq rfl (by kernel_rfl) (by kernel_rfl))
def ty4:dK:=⟨.bool,1,1,.bool false,[],(some .bool),false⟩
theorem te4:bZ Tryz.prog 4 ty4:=aD Tryz.underlying4 (bo (by kernel_rfl) rfl rfl) (fun _ h=>by cases h) (bq rfl (by kernel_rfl) (by kernel_rfl))
def ty5:dK:=⟨.int .u8,1,1,.int .u8 0,[],(some (.int .u8)),false⟩
theorem te5:bZ Tryz.prog 5 ty5:=aD Tryz.underlying5 (bo (by kernel_rfl) rfl rfl) (fun _ h=>by cases h) (bq rfl (by kernel_rfl) (by kernel_rfl))
def ty9:dK:=⟨.string,1,16,.string ByteArray.empty,[],none,false⟩
theorem te9:bZ Tryz.prog 9 ty9:=aD Tryz.underlying9 (bo (by kernel_rfl) rfl rfl) (fun _ h=>by cases h) (k_ rfl)
def Wk:dK:=⟨.int .u64,1,8,.int .u64 0,[],(some (.int .u64)),false⟩
theorem adi:bZ Tryz.prog 12 Wk:=aD Tryz.underlying12 (bo (by kernel_rfl) rfl rfl) (fun _ h=>by cases h) (bq rfl (by kernel_rfl) (by kernel_rfl))
def Wj : dK := ⟨.struct #[⟨"msg", 9, 0, false, "", "runtime", 0⟩, ⟨"addr", 12, 1, false, "", "runtime", 16⟩], 2, 24, .agg #[.string ByteArray.empty, .int .u64 0], [(0, 1), (1, 1)], none, false⟩
theorem adh:bZ Tryz.prog 13 Wj:=aD Tryz.underlying13 (bo (by kernel_rfl) rfl rfl) (fun fs h w=>by cases h;kernel_rfl) (k_ rfl)
def Wi:dK:=⟨.int .i32,1,4,.int .i32 0,[],(some (.int .i32)),false⟩
theorem adg:bZ Tryz.prog 21 Wi:=aD Tryz.underlying21 (bo (by kernel_rfl) rfl rfl) (fun _ h=>by cases h) (bq rfl (by kernel_rfl) (by kernel_rfl))
def Wh : dK := ⟨.struct #[⟨"Op", 5, 0, false, "", "", 0⟩, ⟨"A", 3, 1, false, "", "", 8⟩, ⟨"B", 3, 2, false, "", "", 16⟩], 3, 24, .agg #[.int .u8 0, .int .i64 0, .int .i64 0], [(0, 1), (1, 1), (2, 1)], (some (.pair (.int .u8) (.pair (.int .i64) (.int .i64)))), false⟩
theorem adf:bZ Tryz.prog 23 Wh:=aD Tryz.underlying23 (bo (by kernel_rfl) rfl rfl) (fun fs h w=>by cases h;kernel_rfl) (bq rfl (by kernel_rfl) (by kernel_rfl))
def Wg : dK := ⟨.struct #[⟨"Op", 5, 0, false, "", "", 0⟩, ⟨"A", 3, 1, false, "", "", 8⟩, ⟨"B", 3, 2, false, "", "", 16⟩], 3, 24, .agg #[.int .u8 0, .int .i64 0, .int .i64 0], [(0, 1), (1, 1), (2, 1)], (some (.pair (.int .u8) (.pair (.int .i64) (.int .i64)))), false⟩
theorem ade:bZ Tryz.prog 24 Wg:=aD Tryz.underlying24 (bo (by kernel_rfl) rfl rfl) (fun fs h w=>by cases h;kernel_rfl) (bq rfl (by kernel_rfl) (by kernel_rfl))
def Wf:dK:=⟨.slice 24,1,24,.slice none 0 0,[],(some (.cB (.pair (.int .u8) (.pair (.int .i64) (.int .i64))))),false⟩
theorem adb:bZ Tryz.prog 25 Wf:=aD Tryz.underlying25 (bo (by kernel_rfl) rfl rfl) (fun _ h=>by cases h) (bq rfl (by kernel_rfl) (by kernel_rfl))
def We:dK:=⟨.slice 25,1,24,.slice none 0 0,[],(some (.cB (.cB (.pair (.int .u8) (.pair (.int .i64) (.int .i64)))))),false⟩
theorem ada:bZ Tryz.prog 26 We:=aD Tryz.underlying26 (bo (by kernel_rfl) rfl rfl) (fun _ h=>by cases h) (bq rfl (by kernel_rfl) (by kernel_rfl))
def Wd:dK:=⟨.pointer 109,1,8,.pointer none,[],(some (.ptr 0)),false⟩
theorem ac_:bZ Tryz.prog 27 Wd:=aD Tryz.underlying27 (bo (by kernel_rfl) rfl rfl) (fun _ h=>by cases h) (bq rfl (by kernel_rfl) (by kernel_rfl))
def Wc:dK:=⟨.int .i64,1,8,.int .i64 0,[],(some (.int .i64)),false⟩
theorem ac9:bZ Tryz.prog 28 Wc:=aD Tryz.underlying28 (bo (by kernel_rfl) rfl rfl) (fun _ h=>by cases h) (bq rfl (by kernel_rfl) (by kernel_rfl))
def Wb : dK := ⟨.struct #[⟨"Scopes", 3, 0, false, "", "", 0⟩, ⟨"Threads", 3, 1, false, "", "", 8⟩, ⟨"Immortal", 3, 2, false, "", "", 16⟩, ⟨"Heap", 3, 3, false, "", "", 24⟩], 4, 32, .agg #[.int .i64 0, .int .i64 0, .int .i64 0, .int .i64 0], [(0, 1), (1, 1), (2, 1), (3, 1)], (some (.pair (.int .i64) (.pair (.int .i64) (.pair (.int .i64) (.int .i64))))), false⟩
theorem ac8:bZ Tryz.prog 31 Wb:=aD Tryz.underlying31 (bo (by kernel_rfl) rfl rfl) (fun fs h w=>by cases h;kernel_rfl) (bq rfl (by kernel_rfl) (by kernel_rfl))
def Wa : dK := ⟨.struct #[⟨"Scopes", 3, 0, false, "", "", 0⟩, ⟨"Threads", 3, 1, false, "", "", 8⟩, ⟨"Immortal", 3, 2, false, "", "", 16⟩, ⟨"Heap", 3, 3, false, "", "", 24⟩], 4, 32, .agg #[.int .i64 0, .int .i64 0, .int .i64 0, .int .i64 0], [(0, 1), (1, 1), (2, 1), (3, 1)], (some (.pair (.int .i64) (.pair (.int .i64) (.pair (.int .i64) (.int .i64))))), false⟩
theorem ac7:bZ Tryz.prog 32 Wa:=aD Tryz.underlying32 (bo (by kernel_rfl) rfl rfl) (fun fs h w=>by cases h;kernel_rfl) (bq rfl (by kernel_rfl) (by kernel_rfl))
def V_:dK:=⟨.slice 3,1,24,.slice none 0 0,[],(some (.cB (.int .i64))),false⟩
theorem ac6:bZ Tryz.prog 34 V_:=aD Tryz.underlying34 (bo (by kernel_rfl) rfl rfl) (fun _ h=>by cases h) (bq rfl (by kernel_rfl) (by kernel_rfl))
def V9 : dK := ⟨.struct #[⟨"Code", 28, 0, false, "", "", 0⟩, ⟨"N", 3, 1, false, "", "", 8⟩, ⟨"Said", 34, 2, false, "", "", 16⟩], 3, 40, .agg #[.int .i64 0, .int .i64 0, .slice none 0 0], [(0, 1), (1, 1), (2, 1)], (some (.pair (.int .i64) (.pair (.int .i64) (.cB (.int .i64))))), false⟩
theorem ac5:bZ Tryz.prog 35 V9:=aD Tryz.underlying35 (bo (by kernel_rfl) rfl rfl) (fun fs h w=>by cases h;kernel_rfl) (bq rfl (by kernel_rfl) (by kernel_rfl))
def V8 : dK := ⟨.struct #[⟨"Code", 28, 0, false, "", "", 0⟩, ⟨"N", 3, 1, false, "", "", 8⟩, ⟨"Said", 34, 2, false, "", "", 16⟩], 3, 40, .agg #[.int .i64 0, .int .i64 0, .slice none 0 0], [(0, 1), (1, 1), (2, 1)], none, false⟩
theorem ac4:bZ Tryz.prog 36 V8:=aD Tryz.underlying36 (bo (by kernel_rfl) rfl rfl) (fun fs h w=>by cases h;kernel_rfl) (k_ rfl)
def V7 : dK := ⟨.struct #[⟨"Op", 5, 0, false, "", "", 0⟩, ⟨"R", 5, 1, false, "", "", 1⟩, ⟨"H", 5, 2, false, "", "", 2⟩, ⟨"V", 5, 3, false, "", "", 3⟩, ⟨"A", 3, 4, false, "", "", 8⟩, ⟨"B", 3, 5, false, "", "", 16⟩, ⟨"C", 3, 6, false, "", "", 24⟩], 7, 32, .agg #[.int .u8 0, .int .u8 0, .int .u8 0, .int .u8 0, .int .i64 0, .int .i64 0, .int .i64 0], [(0, 1), (1, 1), (2, 1), (3, 1), (4, 1), (5, 1), (6, 1)], (some (.pair (.int .u8) (.pair (.int .u8) (.pair (.int .u8) (.pair (.int .u8) (.pair (.int .i64) (.pair (.int .i64) (.int .i64)))))))), false⟩
theorem ac3:bZ Tryz.prog 39 V7:=aD Tryz.underlying39 (bo (by kernel_rfl) rfl rfl) (fun fs h w=>by cases h;kernel_rfl) (bq rfl (by kernel_rfl) (by kernel_rfl))
def V6 : dK := ⟨.struct #[⟨"Op", 5, 0, false, "", "", 0⟩, ⟨"R", 5, 1, false, "", "", 1⟩, ⟨"H", 5, 2, false, "", "", 2⟩, ⟨"V", 5, 3, false, "", "", 3⟩, ⟨"A", 3, 4, false, "", "", 8⟩, ⟨"B", 3, 5, false, "", "", 16⟩, ⟨"C", 3, 6, false, "", "", 24⟩], 7, 32, .agg #[.int .u8 0, .int .u8 0, .int .u8 0, .int .u8 0, .int .i64 0, .int .i64 0, .int .i64 0], [(0, 1), (1, 1), (2, 1), (3, 1), (4, 1), (5, 1), (6, 1)], (some (.pair (.int .u8) (.pair (.int .u8) (.pair (.int .u8) (.pair (.int .u8) (.pair (.int .i64) (.pair (.int .i64) (.int .i64)))))))), false⟩
theorem ac2:bZ Tryz.prog 40 V6:=aD Tryz.underlying40 (bo (by kernel_rfl) rfl rfl) (fun fs h w=>by cases h;kernel_rfl) (bq rfl (by kernel_rfl) (by kernel_rfl))
def V5 : dK := ⟨.struct #[⟨"State", 3, 0, false, "", "", 0⟩, ⟨"Count", 3, 1, false, "", "", 8⟩, ⟨"Parent", 3, 2, false, "", "", 16⟩, ⟨"Epoch", 3, 3, false, "", "", 24⟩], 4, 32, .agg #[.int .i64 0, .int .i64 0, .int .i64 0, .int .i64 0], [(0, 1), (1, 1), (2, 1), (3, 1)], (some (.pair (.int .i64) (.pair (.int .i64) (.pair (.int .i64) (.int .i64))))), false⟩
theorem ac1:bZ Tryz.prog 41 V5:=aD Tryz.underlying41 (bo (by kernel_rfl) rfl rfl) (fun fs h w=>by cases h;kernel_rfl) (bq rfl (by kernel_rfl) (by kernel_rfl))
def V4 : dK := ⟨.struct #[⟨"State", 3, 0, false, "", "", 0⟩, ⟨"Count", 3, 1, false, "", "", 8⟩, ⟨"Parent", 3, 2, false, "", "", 16⟩, ⟨"Epoch", 3, 3, false, "", "", 24⟩], 4, 32, .agg #[.int .i64 0, .int .i64 0, .int .i64 0, .int .i64 0], [(0, 1), (1, 1), (2, 1), (3, 1)], (some (.pair (.int .i64) (.pair (.int .i64) (.pair (.int .i64) (.int .i64))))), false⟩
theorem ac0:bZ Tryz.prog 42 V4:=aD Tryz.underlying42 (bo (by kernel_rfl) rfl rfl) (fun fs h w=>by cases h;kernel_rfl) (bq rfl (by kernel_rfl) (by kernel_rfl))
def V3:dK:=⟨.int .u64,1,8,.int .u64 0,[],(some (.int .u64)),false⟩
theorem acZ:bZ Tryz.prog 45 V3:=aD Tryz.underlying45 (bo (by kernel_rfl) rfl rfl) (fun _ h=>by cases h) (bq rfl (by kernel_rfl) (by kernel_rfl))
def V2:dK:=⟨.slice 54,1,24,.slice none 0 0,[],(some (.cB (.pair (.int .i64) (.pair (.int .u8) (.pair (.int .u8) (.pair (.int .u8) (.pair (.int .u8) (.pair (.int .i64) (.pair (.int .i64) (.int .i64)))))))))),false⟩
theorem acY:bZ Tryz.prog 50 V2:=aD Tryz.underlying50 (bo (by kernel_rfl) rfl rfl) (fun _ h=>by cases h) (bq rfl (by kernel_rfl) (by kernel_rfl))
def V1 : dK := ⟨.struct #[⟨"Thread", 3, 0, false, "", "", 0⟩, ⟨"Call", 40, 1, false, "", "", 8⟩], 8, 40, .agg #[.int .i64 0, .int .u8 0, .int .u8 0, .int .u8 0, .int .u8 0, .int .i64 0, .int .i64 0, .int .i64 0], [(0, 1), (1, 7)], (some (.pair (.int .i64) (.pair (.int .u8) (.pair (.int .u8) (.pair (.int .u8) (.pair (.int .u8) (.pair (.int .i64) (.pair (.int .i64) (.int .i64))))))))), false⟩
theorem acX:bZ Tryz.prog 53 V1:=aD Tryz.underlying53 (bo (by kernel_rfl) rfl rfl) (fun fs h w=>by cases h;kernel_rfl) (bq rfl (by kernel_rfl) (by kernel_rfl))
def V0 : dK := ⟨.struct #[⟨"Thread", 3, 0, false, "", "", 0⟩, ⟨"Call", 40, 1, false, "", "", 8⟩], 8, 40, .agg #[.int .i64 0, .int .u8 0, .int .u8 0, .int .u8 0, .int .u8 0, .int .i64 0, .int .i64 0, .int .i64 0], [(0, 1), (1, 7)], (some (.pair (.int .i64) (.pair (.int .u8) (.pair (.int .u8) (.pair (.int .u8) (.pair (.int .u8) (.pair (.int .i64) (.pair (.int .i64) (.int .i64))))))))), false⟩
theorem acW:bZ Tryz.prog 54 V0:=aD Tryz.underlying54 (bo (by kernel_rfl) rfl rfl) (fun fs h w=>by cases h;kernel_rfl) (bq rfl (by kernel_rfl) (by kernel_rfl))
def VZ:dK:=⟨.slice 58,1,24,.slice none 0 0,[],(some (.cB (.pair (.int .i64) .bool))),false⟩
theorem acV:bZ Tryz.prog 55 VZ:=aD Tryz.underlying55 (bo (by kernel_rfl) rfl rfl) (fun _ h=>by cases h) (bq rfl (by kernel_rfl) (by kernel_rfl))
def VY : dK := ⟨.struct #[⟨"Scope", 3, 0, false, "", "", 0⟩, ⟨"Counted", 4, 1, false, "", "", 8⟩], 2, 16, .agg #[.int .i64 0, .bool false], [(0, 1), (1, 1)], (some (.pair (.int .i64) .bool)), false⟩
theorem acU:bZ Tryz.prog 57 VY:=aD Tryz.underlying57 (bo (by kernel_rfl) rfl rfl) (fun fs h w=>by cases h;kernel_rfl) (bq rfl (by kernel_rfl) (by kernel_rfl))
def VX : dK := ⟨.struct #[⟨"Scope", 3, 0, false, "", "", 0⟩, ⟨"Counted", 4, 1, false, "", "", 8⟩], 2, 16, .agg #[.int .i64 0, .bool false], [(0, 1), (1, 1)], (some (.pair (.int .i64) .bool)), false⟩
theorem acT:bZ Tryz.prog 58 VX:=aD Tryz.underlying58 (bo (by kernel_rfl) rfl rfl) (fun fs h w=>by cases h;kernel_rfl) (bq rfl (by kernel_rfl) (by kernel_rfl))
def VW:dK:=⟨.pointer 71,1,8,.pointer none,[],(some (.ptr 11)),false⟩
theorem acS:bZ Tryz.prog 60 VW:=aD Tryz.underlying60 (bo (by kernel_rfl) rfl rfl) (fun _ h=>by cases h) (bq rfl (by kernel_rfl) (by kernel_rfl))
def VV:dK:=⟨.pointer 98,1,8,.pointer none,[],(some (.ptr 12)),false⟩
theorem acR:bZ Tryz.prog 63 VV:=aD Tryz.underlying63 (bo (by kernel_rfl) rfl rfl) (fun _ h=>by cases h) (bq rfl (by kernel_rfl) (by kernel_rfl))
def VU:dK:=⟨.slice 77,1,24,.slice none 0 0,[],none,false⟩
theorem acQ:bZ Tryz.prog 64 VU:=aD Tryz.underlying64 (bo (by kernel_rfl) rfl rfl) (fun _ h=>by cases h) (k_ rfl)
def VS:dK:=⟨.array 8 45,8,64,.agg #[.int .u64 0,.int .u64 0,.int .u64 0,.int .u64 0,.int .u64 0,.int .u64 0,.int .u64 0,.int .u64 0],[],(some (.arr 8 (.int .u64))),false⟩
theorem acP:bZ Tryz.prog 65 VS:=aD Tryz.underlying65 (bo (by kernel_rfl) rfl rfl) (fun _ h=>by cases h) (bq rfl (by kernel_rfl) (by kernel_rfl))
def VR:dK:=⟨.array 8 3,8,64,.agg #[.int .i64 0,.int .i64 0,.int .i64 0,.int .i64 0,.int .i64 0,.int .i64 0,.int .i64 0,.int .i64 0],[],(some (.arr 8 (.int .i64))),false⟩
theorem acO:bZ Tryz.prog 66 VR:=aD Tryz.underlying66 (bo (by kernel_rfl) rfl rfl) (fun _ h=>by cases h) (bq rfl (by kernel_rfl) (by kernel_rfl))
def VQ:dK:=⟨.array 4 45,4,32,.agg #[.int .u64 0,.int .u64 0,.int .u64 0,.int .u64 0],[],(some (.arr 4 (.int .u64))),false⟩
theorem acN:bZ Tryz.prog 67 VQ:=aD Tryz.underlying67 (bo (by kernel_rfl) rfl rfl) (fun _ h=>by cases h) (bq rfl (by kernel_rfl) (by kernel_rfl))
def VO:dK:=⟨.array 4 67,16,128,.agg #[.int .u64 0,.int .u64 0,.int .u64 0,.int .u64 0,.int .u64 0,.int .u64 0,.int .u64 0,.int .u64 0,.int .u64 0,.int .u64 0,.int .u64 0,.int .u64 0,.int .u64 0,.int .u64 0,.int .u64 0,.int .u64 0],[],(some (.arr 4 (.arr 4 (.int .u64)))),false⟩
theorem acM:bZ Tryz.prog 68 VO:=aD Tryz.underlying68 (bo (by kernel_rfl) rfl rfl) (fun _ h=>by cases h) (bq rfl (by kernel_rfl) (by kernel_rfl))
def VN:dK:=⟨.array 4 55,4,96,.agg #[.slice none 0 0,.slice none 0 0,.slice none 0 0,.slice none 0 0],[],(some (.arr 4 (.cB (.pair (.int .i64) .bool)))),false⟩
theorem acL:bZ Tryz.prog 69 VN:=aD Tryz.underlying69 (bo (by kernel_rfl) rfl rfl) (fun _ h=>by cases h) (bq rfl (by kernel_rfl) (by kernel_rfl))
def VM : dK := ⟨.struct #[⟨"P", 32, 0, false, "", "", 0⟩, ⟨"F", 26, 4, false, "", "", 32⟩, ⟨"S", 63, 5, false, "", "", 56⟩, ⟨"O", 64, 6, false, "", "", 64⟩, ⟨"Gate", 65, 7, false, "", "", 88⟩, ⟨"Bytes", 66, 15, false, "", "", 152⟩, ⟨"R", 68, 23, false, "", "", 216⟩, ⟨"C", 69, 39, false, "", "", 344⟩], 43, 440, .agg #[.int .i64 0, .int .i64 0, .int .i64 0, .int .i64 0, .slice none 0 0, .pointer none, .slice none 0 0, .int .u64 0, .int .u64 0, .int .u64 0, .int .u64 0, .int .u64 0, .int .u64 0, .int .u64 0, .int .u64 0, .int .i64 0, .int .i64 0, .int .i64 0, .int .i64 0, .int .i64 0, .int .i64 0, .int .i64 0, .int .i64 0, .int .u64 0, .int .u64 0, .int .u64 0, .int .u64 0, .int .u64 0, .int .u64 0, .int .u64 0, .int .u64 0, .int .u64 0, .int .u64 0, .int .u64 0, .int .u64 0, .int .u64 0, .int .u64 0, .int .u64 0, .int .u64 0, .slice none 0 0, .slice none 0 0, .slice none 0 0, .slice none 0 0], [(0, 4), (4, 1), (5, 1), (6, 1), (7, 8), (15, 8), (23, 16), (39, 4)], none, false⟩
theorem acK:bZ Tryz.prog 70 VM:=aD Tryz.underlying70 (bo (by kernel_rfl) rfl rfl) (fun fs h w=>by cases h;kernel_rfl) (k_ rfl)
def VL : dK := ⟨.struct #[⟨"P", 32, 0, false, "", "", 0⟩, ⟨"F", 26, 4, false, "", "", 32⟩, ⟨"S", 63, 5, false, "", "", 56⟩, ⟨"O", 64, 6, false, "", "", 64⟩, ⟨"Gate", 65, 7, false, "", "", 88⟩, ⟨"Bytes", 66, 15, false, "", "", 152⟩, ⟨"R", 68, 23, false, "", "", 216⟩, ⟨"C", 69, 39, false, "", "", 344⟩], 43, 440, .agg #[.int .i64 0, .int .i64 0, .int .i64 0, .int .i64 0, .slice none 0 0, .pointer none, .slice none 0 0, .int .u64 0, .int .u64 0, .int .u64 0, .int .u64 0, .int .u64 0, .int .u64 0, .int .u64 0, .int .u64 0, .int .i64 0, .int .i64 0, .int .i64 0, .int .i64 0, .int .i64 0, .int .i64 0, .int .i64 0, .int .i64 0, .int .u64 0, .int .u64 0, .int .u64 0, .int .u64 0, .int .u64 0, .int .u64 0, .int .u64 0, .int .u64 0, .int .u64 0, .int .u64 0, .int .u64 0, .int .u64 0, .int .u64 0, .int .u64 0, .int .u64 0, .int .u64 0, .slice none 0 0, .slice none 0 0, .slice none 0 0, .slice none 0 0], [(0, 4), (4, 1), (5, 1), (6, 1), (7, 8), (15, 8), (23, 16), (39, 4)], (some (.pair (.pair (.int .i64) (.pair (.int .i64) (.pair (.int .i64) (.int .i64)))) (.pair (.cB (.cB (.pair (.int .u8) (.pair (.int .i64) (.int .i64))))) (.pair (.ptr 12) (.pair (.kz 17 5) (.pair (.arr 8 (.int .u64)) (.pair (.arr 8 (.int .i64)) (.pair (.arr 4 (.arr 4 (.int .u64))) (.arr 4 (.cB (.pair (.int .i64) .bool))))))))))), false⟩
theorem acJ:bZ Tryz.prog 71 VL:=aD Tryz.underlying71 (bo (by kernel_rfl) rfl rfl) (fun fs h w=>by cases h;kernel_rfl) (bq rfl (by kernel_rfl) (by kernel_rfl))
def VJ:dK:=⟨.slice 45,1,24,.slice none 0 0,[],(some (.cB (.int .u64))),false⟩
theorem acI:bZ Tryz.prog 72 VJ:=aD Tryz.underlying72 (bo (by kernel_rfl) rfl rfl) (fun _ h=>by cases h) (bq rfl (by kernel_rfl) (by kernel_rfl))
def VI : dK := ⟨.struct #[⟨"Scope", 3, 0, false, "", "", 0⟩, ⟨"At", 3, 1, false, "", "", 8⟩, ⟨"Tag", 3, 2, false, "", "", 16⟩, ⟨"Slots", 72, 3, false, "", "", 24⟩, ⟨"Done", 4, 4, false, "", "", 48⟩], 5, 56, .agg #[.int .i64 0, .int .i64 0, .int .i64 0, .slice none 0 0, .bool false], [(0, 1), (1, 1), (2, 1), (3, 1), (4, 1)], (some (.pair (.int .i64) (.pair (.int .i64) (.pair (.int .i64) (.pair (.cB (.int .u64)) .bool))))), false⟩
theorem acH:bZ Tryz.prog 76 VI:=aD Tryz.underlying76 (bo (by kernel_rfl) rfl rfl) (fun fs h w=>by cases h;kernel_rfl) (bq rfl (by kernel_rfl) (by kernel_rfl))
def VH : dK := ⟨.struct #[⟨"Scope", 3, 0, false, "", "", 0⟩, ⟨"At", 3, 1, false, "", "", 8⟩, ⟨"Tag", 3, 2, false, "", "", 16⟩, ⟨"Slots", 72, 3, false, "", "", 24⟩, ⟨"Done", 4, 4, false, "", "", 48⟩], 5, 56, .agg #[.int .i64 0, .int .i64 0, .int .i64 0, .slice none 0 0, .bool false], [(0, 1), (1, 1), (2, 1), (3, 1), (4, 1)], (some (.pair (.int .i64) (.pair (.int .i64) (.pair (.int .i64) (.pair (.kz 18 1) .bool))))), false⟩
theorem acG:bZ Tryz.prog 77 VH:=aD Tryz.underlying77 (bo (by kernel_rfl) rfl rfl) (fun fs h w=>by cases h;kernel_rfl) (bq rfl (by kernel_rfl) (by kernel_rfl))
def VG:dK:=⟨.array 2 72,2,48,.agg #[.slice none 0 0,.slice none 0 0],[],(some (.arr 2 (.cB (.int .u64)))),false⟩
theorem acF:bZ Tryz.prog 79 VG:=aD Tryz.underlying79 (bo (by kernel_rfl) rfl rfl) (fun _ h=>by cases h) (bq rfl (by kernel_rfl) (by kernel_rfl))
def VF:dK:=⟨.array 2 55,2,48,.agg #[.slice none 0 0,.slice none 0 0],[],(some (.arr 2 (.cB (.pair (.int .i64) .bool)))),false⟩
theorem acE:bZ Tryz.prog 80 VF:=aD Tryz.underlying80 (bo (by kernel_rfl) rfl rfl) (fun _ h=>by cases h) (bq rfl (by kernel_rfl) (by kernel_rfl))
def VE:dK:=⟨.array 4 42,16,128,.agg #[.int .i64 0,.int .i64 0,.int .i64 0,.int .i64 0,.int .i64 0,.int .i64 0,.int .i64 0,.int .i64 0,.int .i64 0,.int .i64 0,.int .i64 0,.int .i64 0,.int .i64 0,.int .i64 0,.int .i64 0,.int .i64 0],[],(some (.arr 4 (.pair (.int .i64) (.pair (.int .i64) (.pair (.int .i64) (.int .i64)))))),false⟩
theorem acD:bZ Tryz.prog 81 VE:=aD Tryz.underlying81 (bo (by kernel_rfl) rfl rfl) (fun _ h=>by cases h) (bq rfl (by kernel_rfl) (by kernel_rfl))
def VC:dK:=⟨.array 4 3,4,32,.agg #[.int .i64 0,.int .i64 0,.int .i64 0,.int .i64 0],[],(some (.arr 4 (.int .i64))),false⟩
theorem acC:bZ Tryz.prog 82 VC:=aD Tryz.underlying82 (bo (by kernel_rfl) rfl rfl) (fun _ h=>by cases h) (bq rfl (by kernel_rfl) (by kernel_rfl))
def VB:dK:=⟨.array 12 45,12,96,.agg #[.int .u64 0,.int .u64 0,.int .u64 0,.int .u64 0,.int .u64 0,.int .u64 0,.int .u64 0,.int .u64 0,.int .u64 0,.int .u64 0,.int .u64 0,.int .u64 0],[],(some (.arr 12 (.int .u64))),false⟩
theorem acB:bZ Tryz.prog 85 VB:=aD Tryz.underlying85 (bo (by kernel_rfl) rfl rfl) (fun _ h=>by cases h) (bq rfl (by kernel_rfl) (by kernel_rfl))
def VA : dK := ⟨.struct #[⟨"Scope", 3, 0, false, "", "", 0⟩, ⟨"Epoch", 3, 1, false, "", "", 8⟩, ⟨"At", 3, 2, false, "", "", 16⟩], 3, 24, .agg #[.int .i64 0, .int .i64 0, .int .i64 0], [(0, 1), (1, 1), (2, 1)], (some (.pair (.int .i64) (.pair (.int .i64) (.int .i64)))), false⟩
theorem acA:bZ Tryz.prog 88 VA:=aD Tryz.underlying88 (bo (by kernel_rfl) rfl rfl) (fun fs h w=>by cases h;kernel_rfl) (bq rfl (by kernel_rfl) (by kernel_rfl))
def Vz : dK := ⟨.struct #[⟨"Scope", 3, 0, false, "", "", 0⟩, ⟨"Epoch", 3, 1, false, "", "", 8⟩, ⟨"At", 3, 2, false, "", "", 16⟩], 3, 24, .agg #[.int .i64 0, .int .i64 0, .int .i64 0], [(0, 1), (1, 1), (2, 1)], (some (.pair (.int .i64) (.pair (.int .i64) (.int .i64)))), false⟩
theorem acz:bZ Tryz.prog 89 Vz:=aD Tryz.underlying89 (bo (by kernel_rfl) rfl rfl) (fun fs h w=>by cases h;kernel_rfl) (bq rfl (by kernel_rfl) (by kernel_rfl))
def Vy:dK:=⟨.slice 42,1,24,.slice none 0 0,[],(some (.cB (.pair (.int .i64) (.pair (.int .i64) (.pair (.int .i64) (.int .i64)))))),false⟩
theorem acy:bZ Tryz.prog 94 Vy:=aD Tryz.underlying94 (bo (by kernel_rfl) rfl rfl) (fun _ h=>by cases h) (bq rfl (by kernel_rfl) (by kernel_rfl))
def Vx:dK:=⟨.slice 151,1,24,.slice none 0 0,[],(some (.cB (.pair (.int .i64) (.int .i64)))),false⟩
theorem acx:bZ Tryz.prog 95 Vx:=aD Tryz.underlying95 (bo (by kernel_rfl) rfl rfl) (fun _ h=>by cases h) (bq rfl (by kernel_rfl) (by kernel_rfl))
def Vw:dK:=⟨.pointer 217,1,8,.pointer none,[],(some (.ptr 13)),false⟩
theorem acw:bZ Tryz.prog 96 Vw:=aD Tryz.underlying96 (bo (by kernel_rfl) rfl rfl) (fun _ h=>by cases h) (bq rfl (by kernel_rfl) (by kernel_rfl))
def Vv : dK := ⟨.struct #[⟨"C", 94, 0, false, "", "", 0⟩, ⟨"X", 95, 1, false, "", "", 24⟩, ⟨"G", 96, 2, false, "", "", 48⟩], 3, 56, .agg #[.slice none 0 0, .slice none 0 0, .pointer none], [(0, 1), (1, 1), (2, 1)], (some (.pair (.cB (.pair (.int .i64) (.pair (.int .i64) (.pair (.int .i64) (.int .i64))))) (.pair (.cB (.pair (.int .i64) (.int .i64))) (.ptr 13)))), false⟩
theorem acv:bZ Tryz.prog 97 Vv:=aD Tryz.underlying97 (bo (by kernel_rfl) rfl rfl) (fun fs h w=>by cases h;kernel_rfl) (bq rfl (by kernel_rfl) (by kernel_rfl))
def Vu : dK := ⟨.struct #[⟨"C", 94, 0, false, "", "", 0⟩, ⟨"X", 95, 1, false, "", "", 24⟩, ⟨"G", 96, 2, false, "", "", 48⟩], 3, 56, .agg #[.slice none 0 0, .slice none 0 0, .pointer none], [(0, 1), (1, 1), (2, 1)], (some (.pair (.kz 14 4) (.pair (.kz 15 2) (.ptr 13)))), false⟩
theorem acu:bZ Tryz.prog 98 Vu:=aD Tryz.underlying98 (bo (by kernel_rfl) rfl rfl) (fun fs h w=>by cases h;kernel_rfl) (bq rfl (by kernel_rfl) (by kernel_rfl))
def OX:dK:=⟨.pointer 149,1,8,.pointer none,[],(some (.ptr 1)),false⟩
theorem W_:bZ Tryz.prog 101 OX:=aD Tryz.underlying101 (bo (by kernel_rfl) rfl rfl) (fun _ h=>by cases h) (bq rfl (by kernel_rfl) (by kernel_rfl))
def OW:dK:=⟨.slice 123,1,24,.slice none 0 0,[],none,false⟩
theorem W9:bZ Tryz.prog 105 OW:=aD Tryz.underlying105 (bo (by kernel_rfl) rfl rfl) (fun _ h=>by cases h) (k_ rfl)
def OV:dK:=⟨.slice 113,1,24,.slice none 0 0,[],(some (.cB (.pair (.arr 4 (.int .u64)) (.cB (.pair (.int .i64) .bool))))),false⟩
theorem W8:bZ Tryz.prog 106 OV:=aD Tryz.underlying106 (bo (by kernel_rfl) rfl rfl) (fun _ h=>by cases h) (bq rfl (by kernel_rfl) (by kernel_rfl))
def OU:dK:=⟨.map 89 136,1,8,.map none,[],none,false⟩
theorem W7:bZ Tryz.prog 107 OU:=aD Tryz.underlying107 (bo (by kernel_rfl) rfl rfl) (fun _ h=>by cases h) (k_ rfl)
def OT : dK := ⟨.struct #[⟨"plan", 32, 0, false, "", "penfold/model", 0⟩, ⟨"fins", 26, 4, false, "", "penfold/model", 32⟩, ⟨"scopes", 101, 5, false, "", "penfold/model", 56⟩, ⟨"areas", 105, 6, false, "", "penfold/model", 64⟩, ⟨"threads", 106, 7, false, "", "penfold/model", 88⟩, ⟨"objects", 107, 8, false, "", "penfold/model", 112⟩], 9, 120, .agg #[.int .i64 0, .int .i64 0, .int .i64 0, .int .i64 0, .slice none 0 0, .pointer none, .slice none 0 0, .slice none 0 0, .map none], [(0, 4), (4, 1), (5, 1), (6, 1), (7, 1), (8, 1)], none, false⟩
theorem W6:bZ Tryz.prog 108 OT:=aD Tryz.underlying108 (bo (by kernel_rfl) rfl rfl) (fun fs h w=>by cases h;kernel_rfl) (k_ rfl)
def OS : dK := ⟨.struct #[⟨"plan", 32, 0, false, "", "penfold/model", 0⟩, ⟨"fins", 26, 4, false, "", "penfold/model", 32⟩, ⟨"scopes", 101, 5, false, "", "penfold/model", 56⟩, ⟨"areas", 105, 6, false, "", "penfold/model", 64⟩, ⟨"threads", 106, 7, false, "", "penfold/model", 88⟩, ⟨"objects", 107, 8, false, "", "penfold/model", 112⟩], 9, 120, .agg #[.int .i64 0, .int .i64 0, .int .i64 0, .int .i64 0, .slice none 0 0, .pointer none, .slice none 0 0, .slice none 0 0, .map none], [(0, 4), (4, 1), (5, 1), (6, 1), (7, 1), (8, 1)], (some (.pair (.pair (.int .i64) (.pair (.int .i64) (.pair (.int .i64) (.int .i64)))) (.pair (.cB (.cB (.pair (.int .u8) (.pair (.int .i64) (.int .i64))))) (.pair (.ptr 1) (.pair (.kz 5 3) (.pair (.kz 6 5) (.mp 7))))))), false⟩
theorem W5:bZ Tryz.prog 109 OS:=aD Tryz.underlying109 (bo (by kernel_rfl) rfl rfl) (fun fs h w=>by cases h;kernel_rfl) (bq rfl (by kernel_rfl) (by kernel_rfl))
def OQ:dK:=⟨.pointer 113,1,8,.pointer none,[],none,false⟩
theorem W4:bZ Tryz.prog 111 OQ:=aD Tryz.underlying111 (bo (by kernel_rfl) rfl rfl) (fun _ h=>by cases h) (k_ rfl)
def OP : dK := ⟨.struct #[⟨"regs", 67, 0, false, "", "penfold/model", 0⟩, ⟨"entries", 55, 4, false, "", "penfold/model", 32⟩], 5, 56, .agg #[.int .u64 0, .int .u64 0, .int .u64 0, .int .u64 0, .slice none 0 0], [(0, 4), (4, 1)], (some (.pair (.arr 4 (.int .u64)) (.cB (.pair (.int .i64) .bool)))), false⟩
theorem W3:bZ Tryz.prog 112 OP:=aD Tryz.underlying112 (bo (by kernel_rfl) rfl rfl) (fun fs h w=>by cases h;kernel_rfl) (bq rfl (by kernel_rfl) (by kernel_rfl))
def OO : dK := ⟨.struct #[⟨"regs", 67, 0, false, "", "penfold/model", 0⟩, ⟨"entries", 55, 4, false, "", "penfold/model", 32⟩], 5, 56, .agg #[.int .u64 0, .int .u64 0, .int .u64 0, .int .u64 0, .slice none 0 0], [(0, 4), (4, 1)], (some (.pair (.arr 4 (.int .u64)) (.cB (.pair (.int .i64) .bool)))), false⟩
theorem W2:bZ Tryz.prog 113 OO:=aD Tryz.underlying113 (bo (by kernel_rfl) rfl rfl) (fun fs h w=>by cases h;kernel_rfl) (bq rfl (by kernel_rfl) (by kernel_rfl))
def ON : dK := ⟨.struct #[⟨"Model", 27, 0, true, "", "", 0⟩, ⟨"thread", 111, 1, true, "", "penfold/model", 8⟩, ⟨"c", 40, 2, false, "", "penfold/model", 16⟩], 9, 48, .agg #[.pointer none, .pointer none, .int .u8 0, .int .u8 0, .int .u8 0, .int .u8 0, .int .i64 0, .int .i64 0, .int .i64 0], [(0, 1), (1, 1), (2, 7)], none, false⟩
theorem W1:bZ Tryz.prog 114 ON:=aD Tryz.underlying114 (bo (by kernel_rfl) rfl rfl) (fun fs h w=>by cases h;kernel_rfl) (k_ rfl)
def OM : dK := ⟨.struct #[⟨"Model", 27, 0, true, "", "", 0⟩, ⟨"thread", 111, 1, true, "", "penfold/model", 8⟩, ⟨"c", 40, 2, false, "", "penfold/model", 16⟩], 9, 48, .agg #[.pointer none, .pointer none, .int .u8 0, .int .u8 0, .int .u8 0, .int .u8 0, .int .i64 0, .int .i64 0, .int .i64 0], [(0, 1), (1, 1), (2, 7)], none, false⟩
theorem W0:bZ Tryz.prog 115 OM:=aD Tryz.underlying115 (bo (by kernel_rfl) rfl rfl) (fun fs h w=>by cases h;kernel_rfl) (k_ rfl)
def OL:dK:=⟨.func #[] #[36] false,1,8,.nilFunc,[],none,false⟩
theorem WZ:bZ Tryz.prog 116 OL:=aD Tryz.underlying116 (bo (by kernel_rfl) rfl rfl) (fun _ h=>by cases h) (k_ rfl)
def OK:dK:=⟨.map 5 116,1,8,.map none,[],none,false⟩
theorem WY:bZ Tryz.prog 117 OK:=aD Tryz.underlying117 (bo (by kernel_rfl) rfl rfl) (fun _ h=>by cases h) (k_ rfl)
def OJ:dK:=⟨.slice 136,1,24,.slice none 0 0,[],none,false⟩
theorem WX:bZ Tryz.prog 121 OJ:=aD Tryz.underlying121 (bo (by kernel_rfl) rfl rfl) (fun _ h=>by cases h) (k_ rfl)
def OI : dK := ⟨.struct #[⟨"used", 3, 0, false, "", "penfold/model", 0⟩, ⟨"portal", 45, 1, false, "", "penfold/model", 8⟩, ⟨"objects", 121, 2, false, "", "penfold/model", 16⟩], 3, 40, .agg #[.int .i64 0, .int .u64 0, .slice none 0 0], [(0, 1), (1, 1), (2, 1)], none, false⟩
theorem WW:bZ Tryz.prog 122 OI:=aD Tryz.underlying122 (bo (by kernel_rfl) rfl rfl) (fun fs h w=>by cases h;kernel_rfl) (k_ rfl)
def OH : dK := ⟨.struct #[⟨"used", 3, 0, false, "", "penfold/model", 0⟩, ⟨"portal", 45, 1, false, "", "penfold/model", 8⟩, ⟨"objects", 121, 2, false, "", "penfold/model", 16⟩], 3, 40, .agg #[.int .i64 0, .int .u64 0, .slice none 0 0], [(0, 1), (1, 1), (2, 1)], (some (.pair (.int .i64) (.pair (.int .u64) (.kz 9 1)))), false⟩
theorem WV:bZ Tryz.prog 123 OH:=aD Tryz.underlying123 (bo (by kernel_rfl) rfl rfl) (fun fs h w=>by cases h;kernel_rfl) (bq rfl (by kernel_rfl) (by kernel_rfl))
def OG:dK:=⟨.pointer 139,1,8,.pointer none,[],(some (.ptr 8)),false⟩
theorem WU:bZ Tryz.prog 136 OG:=aD Tryz.underlying136 (bo (by kernel_rfl) rfl rfl) (fun _ h=>by cases h) (bq rfl (by kernel_rfl) (by kernel_rfl))
def OF : dK := ⟨.struct #[⟨"ref", 89, 0, false, "", "penfold/model", 0⟩, ⟨"tag", 3, 3, false, "", "penfold/model", 24⟩, ⟨"slots", 72, 4, false, "", "penfold/model", 32⟩, ⟨"done", 4, 5, false, "", "penfold/model", 56⟩], 6, 64, .agg #[.int .i64 0, .int .i64 0, .int .i64 0, .int .i64 0, .slice none 0 0, .bool false], [(0, 3), (3, 1), (4, 1), (5, 1)], (some (.pair (.pair (.int .i64) (.pair (.int .i64) (.int .i64))) (.pair (.int .i64) (.pair (.cB (.int .u64)) .bool)))), false⟩
theorem WT:bZ Tryz.prog 138 OF:=aD Tryz.underlying138 (bo (by kernel_rfl) rfl rfl) (fun fs h w=>by cases h;kernel_rfl) (bq rfl (by kernel_rfl) (by kernel_rfl))
def OE : dK := ⟨.struct #[⟨"ref", 89, 0, false, "", "penfold/model", 0⟩, ⟨"tag", 3, 3, false, "", "penfold/model", 24⟩, ⟨"slots", 72, 4, false, "", "penfold/model", 32⟩, ⟨"done", 4, 5, false, "", "penfold/model", 56⟩], 6, 64, .agg #[.int .i64 0, .int .i64 0, .int .i64 0, .int .i64 0, .slice none 0 0, .bool false], [(0, 3), (3, 1), (4, 1), (5, 1)], (some (.pair (.pair (.int .i64) (.pair (.int .i64) (.int .i64))) (.pair (.int .i64) (.pair (.kz 10 1) .bool)))), false⟩
theorem WS:bZ Tryz.prog 139 OE:=aD Tryz.underlying139 (bo (by kernel_rfl) rfl rfl) (fun fs h w=>by cases h;kernel_rfl) (bq rfl (by kernel_rfl) (by kernel_rfl))
def OD:dK:=⟨.func #[196,24] #[] false,1,8,.nilFunc,[],none,false⟩
theorem WR:bZ Tryz.prog 141 OD:=aD Tryz.underlying141 (bo (by kernel_rfl) rfl rfl) (fun _ h=>by cases h) (k_ rfl)
def OC : dK := ⟨.struct #[⟨"a", 3, 0, false, "", "penfold/fin", 0⟩, ⟨"b", 3, 1, false, "", "penfold/fin", 8⟩, ⟨"do", 141, 2, false, "", "penfold/fin", 16⟩], 3, 24, .agg #[.int .i64 0, .int .i64 0, .nilFunc], [(0, 1), (1, 1), (2, 1)], none, false⟩
theorem WQ:bZ Tryz.prog 142 OC:=aD Tryz.underlying142 (bo (by kernel_rfl) rfl rfl) (fun fs h w=>by cases h;kernel_rfl) (k_ rfl)
def OB : dK := ⟨.struct #[⟨"a", 3, 0, false, "", "penfold/fin", 0⟩, ⟨"b", 3, 1, false, "", "penfold/fin", 8⟩, ⟨"do", 141, 2, false, "", "penfold/fin", 16⟩], 3, 24, .agg #[.int .i64 0, .int .i64 0, .nilFunc], [(0, 1), (1, 1), (2, 1)], none, false⟩
theorem WO:bZ Tryz.prog 143 OB:=aD Tryz.underlying143 (bo (by kernel_rfl) rfl rfl) (fun fs h w=>by cases h;kernel_rfl) (k_ rfl)
def OA:dK:=⟨.array 5 143,15,120,.agg #[.int .i64 0,.int .i64 0,.nilFunc,.int .i64 0,.int .i64 0,.nilFunc,.int .i64 0,.int .i64 0,.nilFunc,.int .i64 0,.int .i64 0,.nilFunc,.int .i64 0,.int .i64 0,.nilFunc],[],none,false⟩
theorem WN:bZ Tryz.prog 144 OA:=aD Tryz.underlying144 (bo (by kernel_rfl) rfl rfl) (fun _ h=>by cases h) (k_ rfl)
def Oz:dK:=⟨.slice 153,1,24,.slice none 0 0,[],(some (.cB (.pair (.pair (.int .i64) (.pair (.int .i64) (.pair (.int .i64) (.int .i64)))) (.pair (.int .i64) (.int .i64))))),false⟩
theorem WM:bZ Tryz.prog 146 Oz:=aD Tryz.underlying146 (bo (by kernel_rfl) rfl rfl) (fun _ h=>by cases h) (bq rfl (by kernel_rfl) (by kernel_rfl))
def Oy:dK:=⟨.pointer 201,1,8,.pointer none,[],(some (.ptr 2)),false⟩
theorem WL:bZ Tryz.prog 147 Oy:=aD Tryz.underlying147 (bo (by kernel_rfl) rfl rfl) (fun _ h=>by cases h) (bq rfl (by kernel_rfl) (by kernel_rfl))
def Ox : dK := ⟨.struct #[⟨"l", 146, 0, false, "", "penfold/scopes", 0⟩, ⟨"ground", 147, 1, false, "", "penfold/scopes", 24⟩], 2, 32, .agg #[.slice none 0 0, .pointer none], [(0, 1), (1, 1)], (some (.pair (.cB (.pair (.pair (.int .i64) (.pair (.int .i64) (.pair (.int .i64) (.int .i64)))) (.pair (.int .i64) (.int .i64)))) (.ptr 2))), false⟩
theorem WK:bZ Tryz.prog 148 Ox:=aD Tryz.underlying148 (bo (by kernel_rfl) rfl rfl) (fun fs h w=>by cases h;kernel_rfl) (bq rfl (by kernel_rfl) (by kernel_rfl))
def Ow : dK := ⟨.struct #[⟨"l", 146, 0, false, "", "penfold/scopes", 0⟩, ⟨"ground", 147, 1, false, "", "penfold/scopes", 24⟩], 2, 32, .agg #[.slice none 0 0, .pointer none], [(0, 1), (1, 1)], (some (.pair (.kz 3 6) (.ptr 2))), false⟩
theorem WJ:bZ Tryz.prog 149 Ow:=aD Tryz.underlying149 (bo (by kernel_rfl) rfl rfl) (fun fs h w=>by cases h;kernel_rfl) (bq rfl (by kernel_rfl) (by kernel_rfl))
def Ov : dK := ⟨.struct #[⟨"At", 3, 0, false, "", "", 0⟩, ⟨"Size", 3, 1, false, "", "", 8⟩], 2, 16, .agg #[.int .i64 0, .int .i64 0], [(0, 1), (1, 1)], (some (.pair (.int .i64) (.int .i64))), false⟩
theorem WI:bZ Tryz.prog 150 Ov:=aD Tryz.underlying150 (bo (by kernel_rfl) rfl rfl) (fun fs h w=>by cases h;kernel_rfl) (bq rfl (by kernel_rfl) (by kernel_rfl))
def Ou : dK := ⟨.struct #[⟨"At", 3, 0, false, "", "", 0⟩, ⟨"Size", 3, 1, false, "", "", 8⟩], 2, 16, .agg #[.int .i64 0, .int .i64 0], [(0, 1), (1, 1)], (some (.pair (.int .i64) (.int .i64))), false⟩
theorem WH:bZ Tryz.prog 151 Ou:=aD Tryz.underlying151 (bo (by kernel_rfl) rfl rfl) (fun fs h w=>by cases h;kernel_rfl) (bq rfl (by kernel_rfl) (by kernel_rfl))
def Ot : dK := ⟨.struct #[⟨"ctl", 42, 0, false, "", "penfold/scopes", 0⟩, ⟨"extent", 151, 4, false, "", "penfold/scopes", 32⟩], 6, 48, .agg #[.int .i64 0, .int .i64 0, .int .i64 0, .int .i64 0, .int .i64 0, .int .i64 0], [(0, 4), (4, 2)], (some (.pair (.pair (.int .i64) (.pair (.int .i64) (.pair (.int .i64) (.int .i64)))) (.pair (.int .i64) (.int .i64)))), false⟩
theorem WG:bZ Tryz.prog 152 Ot:=aD Tryz.underlying152 (bo (by kernel_rfl) rfl rfl) (fun fs h w=>by cases h;kernel_rfl) (bq rfl (by kernel_rfl) (by kernel_rfl))
def Oq : dK := ⟨.struct #[⟨"ctl", 42, 0, false, "", "penfold/scopes", 0⟩, ⟨"extent", 151, 4, false, "", "penfold/scopes", 32⟩], 6, 48, .agg #[.int .i64 0, .int .i64 0, .int .i64 0, .int .i64 0, .int .i64 0, .int .i64 0], [(0, 4), (4, 2)], (some (.pair (.pair (.int .i64) (.pair (.int .i64) (.pair (.int .i64) (.int .i64)))) (.pair (.int .i64) (.int .i64)))), false⟩
theorem WE:bZ Tryz.prog 153 Oq:=aD Tryz.underlying153 (bo (by kernel_rfl) rfl rfl) (fun fs h w=>by cases h;kernel_rfl) (bq rfl (by kernel_rfl) (by kernel_rfl))
def Oo:dK:=⟨.pointer 123,1,8,.pointer none,[],none,false⟩
theorem WD:bZ Tryz.prog 163 Oo:=aD Tryz.underlying163 (bo (by kernel_rfl) rfl rfl) (fun _ h=>by cases h) (k_ rfl)
def On:dK:=⟨.pointer 45,1,8,.pointer none,[],none,false⟩
theorem WC:bZ Tryz.prog 170 On:=aD Tryz.underlying170 (bo (by kernel_rfl) rfl rfl) (fun _ h=>by cases h) (k_ rfl)
def Om:dK:=⟨.slice 5,1,24,.slice none 0 0,[],(some (.cB (.int .u8))),false⟩
theorem WB:bZ Tryz.prog 177 Om:=aD Tryz.underlying177 (bo (by kernel_rfl) rfl rfl) (fun _ h=>by cases h) (bq rfl (by kernel_rfl) (by kernel_rfl))
def Ol:dK:=⟨.map 5 177,1,8,.map none,[],none,false⟩
theorem WA:bZ Tryz.prog 178 Ol:=aD Tryz.underlying178 (bo (by kernel_rfl) rfl rfl) (fun _ h=>by cases h) (k_ rfl)
def Ok:dK:=⟨.pointer 153,1,8,.pointer none,[],none,false⟩
theorem Wz:bZ Tryz.prog 181 Ok:=aD Tryz.underlying181 (bo (by kernel_rfl) rfl rfl) (fun _ h=>by cases h) (k_ rfl)
def Oj:dK:=⟨.int .u64,1,8,.int .u64 0,[],(some (.int .u64)),false⟩
theorem Wy:bZ Tryz.prog 195 Oj:=aD Tryz.underlying195 (bo (by kernel_rfl) rfl rfl) (fun _ h=>by cases h) (bq rfl (by kernel_rfl) (by kernel_rfl))
def Oi:dK:=⟨.pointer 198,1,8,.pointer none,[],none,false⟩
theorem Wx:bZ Tryz.prog 196 Oi:=aD Tryz.underlying196 (bo (by kernel_rfl) rfl rfl) (fun _ h=>by cases h) (k_ rfl)
def Oh : dK := ⟨.struct #[⟨"slots", 72, 0, false, "", "penfold/fin", 0⟩, ⟨"said", 34, 1, false, "", "penfold/fin", 24⟩, ⟨"held", 4, 2, false, "", "penfold/fin", 48⟩, ⟨"skip", 3, 3, false, "", "penfold/fin", 56⟩], 4, 64, .agg #[.slice none 0 0, .slice none 0 0, .bool false, .int .i64 0], [(0, 1), (1, 1), (2, 1), (3, 1)], (some (.pair (.cB (.int .u64)) (.pair (.cB (.int .i64)) (.pair .bool (.int .i64))))), false⟩
theorem Ww:bZ Tryz.prog 197 Oh:=aD Tryz.underlying197 (bo (by kernel_rfl) rfl rfl) (fun fs h w=>by cases h;kernel_rfl) (bq rfl (by kernel_rfl) (by kernel_rfl))
def Og : dK := ⟨.struct #[⟨"slots", 72, 0, false, "", "penfold/fin", 0⟩, ⟨"said", 34, 1, false, "", "penfold/fin", 24⟩, ⟨"held", 4, 2, false, "", "penfold/fin", 48⟩, ⟨"skip", 3, 3, false, "", "penfold/fin", 56⟩], 4, 64, .agg #[.slice none 0 0, .slice none 0 0, .bool false, .int .i64 0], [(0, 1), (1, 1), (2, 1), (3, 1)], none, false⟩
theorem Wv:bZ Tryz.prog 198 Og:=aD Tryz.underlying198 (bo (by kernel_rfl) rfl rfl) (fun fs h w=>by cases h;kernel_rfl) (k_ rfl)
def Of : dK := ⟨.struct #[⟨"from", 3, 0, false, "", "penfold/ground", 0⟩, ⟨"end", 3, 1, false, "", "penfold/ground", 8⟩, ⟨"free", 95, 2, false, "", "penfold/ground", 16⟩], 3, 40, .agg #[.int .i64 0, .int .i64 0, .slice none 0 0], [(0, 1), (1, 1), (2, 1)], (some (.pair (.int .i64) (.pair (.int .i64) (.cB (.pair (.int .i64) (.int .i64)))))), false⟩
theorem Wu:bZ Tryz.prog 200 Of:=aD Tryz.underlying200 (bo (by kernel_rfl) rfl rfl) (fun fs h w=>by cases h;kernel_rfl) (bq rfl (by kernel_rfl) (by kernel_rfl))
def Oe : dK := ⟨.struct #[⟨"from", 3, 0, false, "", "penfold/ground", 0⟩, ⟨"end", 3, 1, false, "", "penfold/ground", 8⟩, ⟨"free", 95, 2, false, "", "penfold/ground", 16⟩], 3, 40, .agg #[.int .i64 0, .int .i64 0, .slice none 0 0], [(0, 1), (1, 1), (2, 1)], (some (.pair (.int .i64) (.pair (.int .i64) (.kz 4 2)))), false⟩
theorem Wt:bZ Tryz.prog 201 Oe:=aD Tryz.underlying201 (bo (by kernel_rfl) rfl rfl) (fun fs h w=>by cases h;kernel_rfl) (bq rfl (by kernel_rfl) (by kernel_rfl))
def Od:dK:=⟨.slice 4,1,24,.slice none 0 0,[],(some (.cB .bool)),false⟩
theorem Ws:bZ Tryz.prog 215 Od:=aD Tryz.underlying215 (bo (by kernel_rfl) rfl rfl) (fun _ h=>by cases h) (bq rfl (by kernel_rfl) (by kernel_rfl))
def Oc : dK := ⟨.struct #[⟨"At", 3, 0, false, "", "", 0⟩, ⟨"Free", 215, 1, false, "", "", 8⟩], 2, 32, .agg #[.int .i64 0, .slice none 0 0], [(0, 1), (1, 1)], (some (.pair (.int .i64) (.cB .bool))), false⟩
theorem Wr:bZ Tryz.prog 216 Oc:=aD Tryz.underlying216 (bo (by kernel_rfl) rfl rfl) (fun fs h w=>by cases h;kernel_rfl) (bq rfl (by kernel_rfl) (by kernel_rfl))
def Oa : dK := ⟨.struct #[⟨"At", 3, 0, false, "", "", 0⟩, ⟨"Free", 215, 1, false, "", "", 8⟩], 2, 32, .agg #[.int .i64 0, .slice none 0 0], [(0, 1), (1, 1)], (some (.pair (.int .i64) (.kz 16 1))), false⟩
theorem Wq:bZ Tryz.prog 217 Oa:=aD Tryz.underlying217 (bo (by kernel_rfl) rfl rfl) (fun fs h w=>by cases h;kernel_rfl) (bq rfl (by kernel_rfl) (by kernel_rfl))
def N_:dK:=⟨.pointer 151,1,8,.pointer none,[],none,false⟩
theorem Wp:bZ Tryz.prog 226 N_:=aD Tryz.underlying226 (bo (by kernel_rfl) rfl rfl) (fun _ h=>by cases h) (k_ rfl)
def N9:dK:=⟨.int .u32,1,4,.int .u32 0,[],(some (.int .u32)),false⟩
theorem Wo:bZ Tryz.prog 240 N9:=aD Tryz.underlying240 (bo (by kernel_rfl) rfl rfl) (fun _ h=>by cases h) (bq rfl (by kernel_rfl) (by kernel_rfl))
def N8:dK:=⟨.pointer 5,1,8,.pointer none,[],none,false⟩
theorem Wn:bZ Tryz.prog 244 N8:=aD Tryz.underlying244 (bo (by kernel_rfl) rfl rfl) (fun _ h=>by cases h) (k_ rfl)
theorem agN:lO Tryz.prog 23:=fE Tryz.stoodInHeld23 Tryz.eqGuardType23 Tryz.underlying23 (by decide)
theorem agM:lO Tryz.prog 24:=fE Tryz.stoodInHeld24 Tryz.eqGuardType24 Tryz.underlying24 (by decide)
theorem agL:lO Tryz.prog 31:=fE Tryz.stoodInHeld31 Tryz.eqGuardType31 Tryz.underlying31 (by decide)
theorem agK:lO Tryz.prog 32:=fE Tryz.stoodInHeld32 Tryz.eqGuardType32 Tryz.underlying32 (by decide)
theorem agJ:lO Tryz.prog 39:=fE Tryz.stoodInHeld39 Tryz.eqGuardType39 Tryz.underlying39 (by decide)
theorem agI:lO Tryz.prog 40:=fE Tryz.stoodInHeld40 Tryz.eqGuardType40 Tryz.underlying40 (by decide)
theorem agH:lO Tryz.prog 41:=fE Tryz.stoodInHeld41 Tryz.eqGuardType41 Tryz.underlying41 (by decide)
theorem agG:lO Tryz.prog 42:=fE Tryz.stoodInHeld42 Tryz.eqGuardType42 Tryz.underlying42 (by decide)
theorem agF:lO Tryz.prog 53:=fE Tryz.stoodInHeld53 Tryz.eqGuardType53 Tryz.underlying53 (by decide)
theorem agE:lO Tryz.prog 54:=fE Tryz.stoodInHeld54 Tryz.eqGuardType54 Tryz.underlying54 (by decide)
theorem agD:lO Tryz.prog 57:=fE Tryz.stoodInHeld57 Tryz.eqGuardType57 Tryz.underlying57 (by decide)
theorem agC:lO Tryz.prog 58:=fE Tryz.stoodInHeld58 Tryz.eqGuardType58 Tryz.underlying58 (by decide)
theorem agB:lO Tryz.prog 88:=fE Tryz.stoodInHeld88 Tryz.eqGuardType88 Tryz.underlying88 (by decide)
theorem agA:lO Tryz.prog 89:=fE Tryz.stoodInHeld89 Tryz.eqGuardType89 Tryz.underlying89 (by decide)
theorem aav:lO Tryz.prog 114:=fE Tryz.stoodInHeld114 Tryz.eqGuardType114 Tryz.underlying114 (by decide)
theorem aau:lO Tryz.prog 115:=fE Tryz.stoodInHeld115 Tryz.eqGuardType115 Tryz.underlying115 (by decide)
theorem aat:lO Tryz.prog 150:=fE Tryz.stoodInHeld150 Tryz.eqGuardType150 Tryz.underlying150 (by decide)
theorem aas:lO Tryz.prog 151:=fE Tryz.stoodInHeld151 Tryz.eqGuardType151 Tryz.underlying151 (by decide)
theorem aar:lO Tryz.prog 152:=fE Tryz.stoodInHeld152 Tryz.eqGuardType152 Tryz.underlying152 (by decide)
theorem aaq:lO Tryz.prog 153:=fE Tryz.stoodInHeld153 Tryz.eqGuardType153 Tryz.underlying153 (by decide)
def env:Env:=⟨(.node (.node (.node (.node (.node (.node (.node (.node .nil none .nil) (some VV) (.node .nil none .nil)) (some Wb) (.node (.node .nil none .nil) (some Vx) (.node .nil none .nil))) none (.node (.node (.node .nil (some OB) .nil) (some VG) (.node .nil none .nil)) none (.node (.node .nil none .nil) (some OQ) (.node .nil none .nil)))) none (.node (.node (.node (.node .nil none .nil) (some VL) (.node .nil none .nil)) (some V7) (.node (.node .nil none .nil) none (.node .nil none .nil))) (some Wh) (.node (.node (.node .nil (some Ou) .nil) none (.node .nil (some Od) .nil)) (some VZ) (.node (.node .nil none .nil) none .nil)))) (some ty3) (.node (.node (.node (.node (.node .nil none .nil) (some VQ) (.node .nil (some Oj) .nil)) (some V9) (.node (.node .nil (some Oo) .nil) none (.node .nil none .nil))) none (.node (.node (.node .nil (some Oy) .nil) none (.node .nil none .nil)) none (.node (.node .nil none .nil) (some OM) (.node .nil none .nil)))) none (.node (.node (.node (.node .nil (some OE) .nil) none (.node .nil none .nil)) none (.node (.node .nil none .nil) (some OU) (.node .nil none .nil))) (some Wd) (.node (.node (.node .nil none .nil) none (.node .nil none .nil)) none (.node (.node .nil none .nil) (some OH) .nil))))) none (.node (.node (.node (.node (.node (.node .nil none .nil) (some VS) (.node .nil none .nil)) none (.node (.node .nil none .nil) (some Vv) (.node .nil none .nil))) none (.node (.node (.node .nil none .nil) (some VE) (.node .nil none .nil)) none (.node (.node .nil (some Om) .nil) (some OO) (.node .nil none .nil)))) (some ty9) (.node (.node (.node (.node .nil none .nil) none (.node .nil (some Oe) .nil)) (some V5) (.node (.node .nil none .nil) (some OW) (.node .nil none .nil))) (some Wf) (.node (.node (.node .nil (some Oq) .nil) (some Vz) (.node .nil (some Oa) .nil)) (some VY) (.node (.node .nil none .nil) (some OJ) .nil)))) (some ty5) (.node (.node (.node (.node (.node .nil none .nil) (some VN) (.node .nil (some Oh) .nil)) none (.node (.node .nil none .nil) (some OX) (.node .nil none .nil))) (some Wi) (.node (.node (.node .nil (some Ow) .nil) (some VB) (.node .nil none .nil)) (some V1) (.node (.node .nil (some Ok) .nil) (some OK) .nil))) (some Wj) (.node (.node (.node (.node .nil (some OD) .nil) (some VH) (.node .nil none .nil)) (some V3) (.node (.node .nil none .nil) (some OS) (.node .nil none .nil))) none (.node (.node (.node .nil none .nil) none (.node .nil none .nil)) none (.node (.node .nil none .nil) none .nil)))))) none (.node (.node (.node (.node (.node (.node (.node .nil none .nil) (some VU) (.node .nil none .nil)) (some Wa) (.node (.node .nil none .nil) (some Vw) (.node .nil none .nil))) none (.node (.node (.node .nil (some OA) .nil) (some VF) (.node .nil none .nil)) none (.node (.node .nil none .nil) (some OP) (.node .nil (some N9) .nil)))) none (.node (.node (.node (.node .nil (some OG) .nil) (some VJ) (.node .nil (some Of) .nil)) (some V6) (.node (.node .nil none .nil) none (.node .nil none .nil))) (some Wg) (.node (.node (.node .nil (some Ot) .nil) (some VA) (.node .nil (some Oc) .nil)) none (.node (.node .nil none .nil) none .nil)))) (some ty4) (.node (.node (.node (.node (.node .nil none .nil) (some VO) (.node .nil (some Oi) .nil)) (some V8) (.node (.node .nil none .nil) none (.node .nil none .nil))) none (.node (.node (.node .nil (some Ox) .nil) none (.node .nil none .nil)) none (.node (.node .nil none .nil) (some OL) (.node .nil (some N8) .nil)))) (some Wk) (.node (.node (.node (.node .nil none .nil) (some VI) (.node .nil none .nil)) none (.node (.node .nil none .nil) (some OT) (.node .nil none .nil))) (some Wc) (.node (.node (.node .nil none .nil) none (.node .nil none .nil)) (some VW) (.node (.node .nil none .nil) none .nil))))) (some ty2) (.node (.node (.node (.node (.node (.node .nil none .nil) (some VR) (.node .nil none .nil)) (some V_) (.node (.node .nil none .nil) (some Vu) (.node .nil (some N_) .nil))) none (.node (.node (.node .nil (some Oz) .nil) (some VC) (.node .nil none .nil)) (some V2) (.node (.node .nil (some Ol) .nil) (some ON) (.node .nil none .nil)))) none (.node (.node (.node (.node .nil (some OF) .nil) none (.node .nil none .nil)) (some V4) (.node (.node .nil (some On) .nil) (some OV) (.node .nil none .nil))) (some We) (.node (.node (.node .nil none .nil) none (.node .nil none .nil)) (some VX) (.node (.node .nil none .nil) (some OI) .nil)))) none (.node (.node (.node (.node (.node .nil none .nil) (some VM) (.node .nil (some Og) .nil)) none (.node (.node .nil none .nil) none (.node .nil none .nil))) none (.node (.node (.node .nil (some Ov) .nil) none (.node .nil none .nil)) (some V0) (.node (.node .nil none .nil) none .nil))) none (.node (.node (.node (.node .nil (some OC) .nil) none (.node .nil none .nil)) none (.node (.node .nil none .nil) none (.node .nil none .nil))) none (.node (.node (.node .nil none .nil) (some Vy) (.node .nil none .nil)) none (.node (.node .nil none .nil) none .nil))))))),[23,24,31,32,39,40,41,42,53,54,57,58,88,89,114,115,150,151,152,153]⟩
theorem Fk:di Tryz.prog env:=⟨LM (.no (.no (.yes te3 (.no (.no (.yes ac8 (.yes acR (.no (.nil _ _) (.nil _ _)) (.no (.nil _ _) (.nil _ _))) (.yes acx (.no (.nil _ _) (.nil _ _)) (.no (.nil _ _) (.nil _ _)))) (.no (.yes acF (.yes WO (.nil _ _) (.nil _ _)) (.no (.nil _ _) (.nil _ _))) (.yes W4 (.no (.nil _ _) (.nil _ _)) (.no (.nil _ _) (.nil _ _))))) (.yes adf (.yes ac3 (.yes acJ (.no (.nil _ _) (.nil _ _)) (.no (.nil _ _) (.nil _ _))) (.no (.no (.nil _ _) (.nil _ _)) (.no (.nil _ _) (.nil _ _)))) (.yes acV (.no (.yes WH (.nil _ _) (.nil _ _)) (.yes Ws (.nil _ _) (.nil _ _))) (.no (.no (.nil _ _) (.nil _ _)) (.nil _ _))))) (.no (.no (.yes ac5 (.yes acN (.no (.nil _ _) (.nil _ _)) (.yes Wy (.nil _ _) (.nil _ _))) (.no (.yes WD (.nil _ _) (.nil _ _)) (.no (.nil _ _) (.nil _ _)))) (.no (.no (.yes WL (.nil _ _) (.nil _ _)) (.no (.nil _ _) (.nil _ _))) (.yes W0 (.no (.nil _ _) (.nil _ _)) (.no (.nil _ _) (.nil _ _))))) (.yes ac_ (.no (.no (.yes WS (.nil _ _) (.nil _ _)) (.no (.nil _ _) (.nil _ _))) (.yes W7 (.no (.nil _ _) (.nil _ _)) (.no (.nil _ _) (.nil _ _)))) (.no (.no (.no (.nil _ _) (.nil _ _)) (.no (.nil _ _) (.nil _ _))) (.yes WV (.no (.nil _ _) (.nil _ _)) (.nil _ _)))))) (.yes te5 (.yes te9 (.no (.no (.yes acP (.no (.nil _ _) (.nil _ _)) (.no (.nil _ _) (.nil _ _))) (.yes acv (.no (.nil _ _) (.nil _ _)) (.no (.nil _ _) (.nil _ _)))) (.no (.yes acD (.no (.nil _ _) (.nil _ _)) (.no (.nil _ _) (.nil _ _))) (.yes W2 (.yes WB (.nil _ _) (.nil _ _)) (.no (.nil _ _) (.nil _ _))))) (.yes adb (.yes ac1 (.no (.no (.nil _ _) (.nil _ _)) (.yes Wt (.nil _ _) (.nil _ _))) (.yes W9 (.no (.nil _ _) (.nil _ _)) (.no (.nil _ _) (.nil _ _)))) (.yes acU (.yes acz (.yes WE (.nil _ _) (.nil _ _)) (.yes Wq (.nil _ _) (.nil _ _))) (.yes WX (.no (.nil _ _) (.nil _ _)) (.nil _ _))))) (.yes adh (.yes adg (.no (.yes acL (.no (.nil _ _) (.nil _ _)) (.yes Ww (.nil _ _) (.nil _ _))) (.yes W_ (.no (.nil _ _) (.nil _ _)) (.no (.nil _ _) (.nil _ _)))) (.yes acX (.yes acB (.yes WJ (.nil _ _) (.nil _ _)) (.no (.nil _ _) (.nil _ _))) (.yes WY (.yes Wz (.nil _ _) (.nil _ _)) (.nil _ _)))) (.no (.yes acZ (.yes acG (.yes WR (.nil _ _) (.nil _ _)) (.no (.nil _ _) (.nil _ _))) (.yes W5 (.no (.nil _ _) (.nil _ _)) (.no (.nil _ _) (.nil _ _)))) (.no (.no (.no (.nil _ _) (.nil _ _)) (.no (.nil _ _) (.nil _ _))) (.no (.no (.nil _ _) (.nil _ _)) (.nil _ _))))))) (.yes te2 (.yes te4 (.no (.no (.yes ac7 (.yes acQ (.no (.nil _ _) (.nil _ _)) (.no (.nil _ _) (.nil _ _))) (.yes acw (.no (.nil _ _) (.nil _ _)) (.no (.nil _ _) (.nil _ _)))) (.no (.yes acE (.yes WN (.nil _ _) (.nil _ _)) (.no (.nil _ _) (.nil _ _))) (.yes W3 (.no (.nil _ _) (.nil _ _)) (.yes Wo (.nil _ _) (.nil _ _))))) (.yes ade (.yes ac2 (.yes acI (.yes WU (.nil _ _) (.nil _ _)) (.yes Wu (.nil _ _) (.nil _ _))) (.no (.no (.nil _ _) (.nil _ _)) (.no (.nil _ _) (.nil _ _)))) (.no (.yes acA (.yes WG (.nil _ _) (.nil _ _)) (.yes Wr (.nil _ _) (.nil _ _))) (.no (.no (.nil _ _) (.nil _ _)) (.nil _ _))))) (.yes adi (.no (.yes ac4 (.yes acM (.no (.nil _ _) (.nil _ _)) (.yes Wx (.nil _ _) (.nil _ _))) (.no (.no (.nil _ _) (.nil _ _)) (.no (.nil _ _) (.nil _ _)))) (.no (.no (.yes WK (.nil _ _) (.nil _ _)) (.no (.nil _ _) (.nil _ _))) (.yes WZ (.no (.nil _ _) (.nil _ _)) (.yes Wn (.nil _ _) (.nil _ _))))) (.yes ac9 (.no (.yes acH (.no (.nil _ _) (.nil _ _)) (.no (.nil _ _) (.nil _ _))) (.yes W6 (.no (.nil _ _) (.nil _ _)) (.no (.nil _ _) (.nil _ _)))) (.yes acS (.no (.no (.nil _ _) (.nil _ _)) (.no (.nil _ _) (.nil _ _))) (.no (.no (.nil _ _) (.nil _ _)) (.nil _ _)))))) (.no (.no (.no (.yes ac6 (.yes acO (.no (.nil _ _) (.nil _ _)) (.no (.nil _ _) (.nil _ _))) (.yes acu (.no (.nil _ _) (.nil _ _)) (.yes Wp (.nil _ _) (.nil _ _)))) (.yes acY (.yes acC (.yes WM (.nil _ _) (.nil _ _)) (.no (.nil _ _) (.nil _ _))) (.yes W1 (.yes WA (.nil _ _) (.nil _ _)) (.no (.nil _ _) (.nil _ _))))) (.yes ada (.yes ac0 (.no (.yes WT (.nil _ _) (.nil _ _)) (.no (.nil _ _) (.nil _ _))) (.yes W8 (.yes WC (.nil _ _) (.nil _ _)) (.no (.nil _ _) (.nil _ _)))) (.yes acT (.no (.no (.nil _ _) (.nil _ _)) (.no (.nil _ _) (.nil _ _))) (.yes WW (.no (.nil _ _) (.nil _ _)) (.nil _ _))))) (.no (.no (.no (.yes acK (.no (.nil _ _) (.nil _ _)) (.yes Wv (.nil _ _) (.nil _ _))) (.no (.no (.nil _ _) (.nil _ _)) (.no (.nil _ _) (.nil _ _)))) (.yes acW (.no (.yes WI (.nil _ _) (.nil _ _)) (.no (.nil _ _) (.nil _ _))) (.no (.no (.nil _ _) (.nil _ _)) (.nil _ _)))) (.no (.no (.no (.yes WQ (.nil _ _) (.nil _ _)) (.no (.nil _ _) (.nil _ _))) (.no (.no (.nil _ _) (.nil _ _)) (.no (.nil _ _) (.nil _ _)))) (.no (.yes acy (.no (.nil _ _) (.nil _ _)) (.no (.nil _ _) (.nil _ _))) (.no (.no (.nil _ _) (.nil _ _)) (.nil _ _)))))))),Sj (.cons agN (.cons agM (.cons agL (.cons agK (.cons agJ (.cons agI (.cons agH (.cons agG (.cons agF (.cons agE (.cons agD (.cons agC (.cons agB (.cons agA (.cons aav (.cons aau (.cons aat (.cons aas (.cons aar (.cons aaq (.nil))))))))))))))))))))),by kernel_rfl⟩
def homes:List (Nat×Nat):=[(71,11),(98,12),(109,0),(139,8),(149,1),(201,2),(217,13)]
open Go.Bm
set_option maxRecDepth 100000
def x10:az:=comp (ax Tryz.f10) (.n none .o (.n none .o (.n none .o (.n none .o (.n none .o (.n none .o (.n (some ⟨[],[],[],[],[],[]⟩) .o (.n none (.n none .o (.n none (.n (some ⟨[(13,false,(.int .i64))],[],[],[],[],[(2,R2),(3,R3),(4,R4),(5,R5),(6,R6),(7,R7),(8,R8),(9,R9),(10,CF),(11,FE),(14,uK),(15,wH),(16,rz),(17,D7),(18,CE)]⟩) (.n (some ⟨[],[],[],[],[],[]⟩) .o (.n none (.n none (.n none .o (.n none .o (.n (some ⟨[],[],[],[],[],[]⟩) .o (.n none .o (.n none .o (.n (some ⟨[(19,false,.bool)],[],[],[],[],[]⟩) .o (.n none .o (.n (some ⟨[],[],[],[],[],[]⟩) .o (.n none (.n none .o (.n none (.n (some ⟨[(21,false,(.int .i64))],[],[],[],[],[]⟩) .o .o) .o)) (.n none .o (.n none (.n (some ⟨[(24,false,(.int .i64))],[],[],[],[],[]⟩) (.n none .o (.n none (.n none (.n none .o (.n none .o (.n (some ⟨[(29,false,.bool)],[],[],[],[],[]⟩) .o .o))) .o) .o)) .o) .o))))))))))) .o) .o)) .o) .o)) .o))))))))
def x11:az:=comp (ax Tryz.f11) (.n none .o (.n none .o (.n (some ⟨[],[],[],[],[],[]⟩) .o .o)))
def x12:az:=comp (ax Tryz.f12) (.n none .o (.n (some ⟨[],[],[],[],[],[]⟩) .o (.n none .o (.n none .o (.n none (.n none .o (.n none (.n (some ⟨[(29,false,(.int .i64))],[(8,(.cB (.pair (.int .u8) (.pair (.int .i64) (.int .i64)))))],[],[],[],[]⟩) .o .o) .o)) .o)))))
def x13:az:=comp (ax Tryz.f13) .o
def x14:az:=comp (ax Tryz.f14) .o
def x15:az:=comp (ax Tryz.f15) .o
def x16:az:=comp (ax Tryz.f16) .o
def x17:az:=comp (ax Tryz.f17) .o
def x19:az:=comp (ax Tryz.f19) .o
def x20:az:=comp (ax Tryz.f20) (.n none .o (.n none .o (.n none (.n none .o (.n none (.n (some ⟨[(4,false,(.int .i64))],[(3,(.cB (.pair (.int .u8) (.pair (.int .i64) (.int .i64)))))],[],[],[],[]⟩) (.n (some ⟨[],[],[],[],[],[]⟩) .o (.n none (.n none (.n none .o (.n none (.n none .o (.n none (.n (some ⟨[(6,false,(.int .i64))],[(5,(.pair (.int .u8) (.pair (.int .i64) (.int .i64))))],[],[],[],[]⟩) (.n (some ⟨[],[],[],[],[],[]⟩) .o .o) .o) .o)) .o)) .o) .o)) .o) .o)) .o)))
def x21:az:=comp (ax Tryz.f21) .o
def x22:az:=comp (ax Tryz.f22) .o
def x23:az:=comp (ax Tryz.f23) (.n none .o (.n none .o (.n none .o (.n none (.n none .o (.n none (.n none .o (.n none .o (.n none .o (.n none .o (.n none .o (.n none .o (.n none .o (.n none .o (.n (some ⟨[(62,false,.bool)],[],[],[],[],[]⟩) .o (.n none .o (.n none .o (.n none (.n none .o (.n (some ⟨[],[],[],[((6,none),[(false,(.int .i64)),(false,(.int .i64)),(true,(.int .i64))])],[],[(11,FE),(14,uK),(17,D7),(18,CE)]⟩) .o .o)) (.n none .o (.n none .o (.n (some ⟨[(107,false,.bool)],[],[],[],[],[]⟩) .o (.n none .o (.n (some ⟨[(114,false,.bool)],[],[],[],[],[]⟩) .o .o))))))))))))))))) .o)) .o))))
def x26:az:=comp (ax Tryz.f26) .o
def x27:az:=comp (ax Tryz.f27) (.n none .o (.n none .o (.n none (.n none .o (.n none (.n (some ⟨[(5,false,(.int .i64))],[],[],[],[],[]⟩) .o .o) .o)) .o)))
def x28:az:=comp (ax Tryz.f28) .o
def x29:az:=comp (ax Tryz.f29) (.n none .o (.n none .o (.n none (.n none .o (.n none (.n (some ⟨[(5,false,(.int .i64))],[],[],[],[],[]⟩) .o .o) .o)) .o)))
def x30:az:=comp (ax Tryz.f30) .o
def x31:az:=comp (ax Tryz.f31) .o
def x32:az:=comp (ax Tryz.f32) .o
def x33:az:=comp (ax Tryz.f33) (.n none .o (.n (some ⟨[],[],[],[],[],[]⟩) .o (.n none (.n none .o (.n none (.n (some ⟨[(5,false,(.int .i64))],[],[],[],[],[]⟩) .o .o) .o)) .o)))
def x34:az:=comp (ax Tryz.f34) (.n none .o (.n none .o (.n (some ⟨[],[],[],[],[],[]⟩) .o .o)))
def x35:az:=comp (ax Tryz.f35) .o
def x36:az:=comp (ax Tryz.f36) (.n none .o (.n none .o (.n none (.n none .o (.n none (.n (some ⟨[(11,false,(.int .i64))],[],[],[],[],[]⟩) (.n none .o (.n none .o (.n none (.n none (.n none .o (.n none (.n none .o (.n none (.n (some ⟨[(17,false,(.int .i64))],[],[],[],[],[]⟩) .o .o) .o)) .o)) .o) .o))) .o) .o)) .o)))
def x37:az:=comp (ax Tryz.f37) (.n none .o (.n none .o (.n none .o (.n none (.n none .o (.n none (.n (some ⟨[(21,false,(.int .i64))],[],[],[],[],[(3,R3)]⟩) .o .o) .o)) .o))))
def x38:az:=comp (ax Tryz.f38) .o
def x39:az:=comp (ax Tryz.f39) .o
def x40:az:=comp (ax Tryz.f40) .o
def x41:az:=comp (ax Tryz.f41) .o
def x42:az:=comp (ax Tryz.f42) .o
def x43:az:=comp (ax Tryz.f43) .o
def x44:az:=comp (ax Tryz.f44) .o
def x45:az:=comp (ax Tryz.f45) (.n none .o (.n none .o (.n none (.n (some ⟨[(29,false,.bool)],[],[],[],[],[]⟩) .o .o) (.n none .o (.n (some ⟨[],[],[],[((2,none),[(false,(.int .i64)),(false,(.int .i64)),(true,(.int .i64))]),((6,none),[(false,(.int .i64)),(false,(.int .i64)),(true,(.int .i64))])],[],[(8,R8),(10,CF)]⟩) .o (.n (some ⟨[],[],[],[],[],[(3,R3),(5,R5),(7,R7)]⟩) (.n none .o (.n none .o (.n none (.n none .o (.n none (.n none .o (.n none (.n (some ⟨[(97,false,(.int .i64))],[],[],[],[],[(7,R7)]⟩) .o .o) .o)) .o)) .o))) .o))))))
def x46:az:=comp (ax Tryz.f46) .o
def x47:az:=comp (ax Tryz.f47) (.n none .o (.n none .o (.n (some ⟨[],[],[],[((2,none),[(false,(.int .i64)),(false,(.int .i64)),(true,(.int .i64))])],[],[]⟩) .o .o)))
def x48:az:=comp (ax Tryz.f48) .o
def x49:az:=comp (ax Tryz.f49) .o
def x50:az:=comp (ax Tryz.f50) .o
def x51:az:=comp (ax Tryz.f51) .o
def x52:az:=comp (ax Tryz.f52) .o
def x53:az:=comp (ax Tryz.f53) .o
def x54:az:=comp (ax Tryz.f54) .o
def x55:az:=comp (ax Tryz.f55) .o
def x56:az:=comp (ax Tryz.f56) .o
def x57:az:=comp (ax Tryz.f57) (.n none .o (.n none .o (.n none (.n none .o (.n none (.n (some ⟨[(4,false,(.int .i64))],[],[],[],[],[(12,xp),(14,uK),(15,wH)]⟩) .o .o) .o)) .o)))
def x58:az:=comp (ax Tryz.f58) (.n none .o (.n none .o (.n none .o (.n none .o (.n none (.n none .o (.n none (.n (some ⟨[(17,false,.bool)],[],[],[],[],[]⟩) .o .o) .o)) .o)))))
def x59:az:=comp (ax Tryz.f59) .o
def x60:az:=comp (ax Tryz.f60) (.n none .o (.n (some ⟨[],[],[],[],[],[]⟩) .o (.n none .o (.n none (.n none .o (.n none (.n (some ⟨[(6,false,(.int .i64))],[],[],[],[],[(14,uK),(15,wH),(16,rz)]⟩) .o .o) .o)) .o))))
def x61:az:=comp (ax Tryz.f61) (.n none .o (.n none .o (.n (some ⟨[],[],[],[],[],[]⟩) .o .o)))
def x62:az:=comp (ax Tryz.f62) (.n none .o (.n none .o (.n (some ⟨[],[],[],[((6,none),[(false,(.int .i64)),(false,(.int .i64)),(true,(.int .i64))])],[],[]⟩) .o (.n (some ⟨[],[],[],[((6,none),[(false,(.int .i64)),(false,(.int .i64)),(true,(.int .i64))])],[],[]⟩) .o (.n none .o (.n (some ⟨[(9,false,(.int .i64))],[],[],[],[],[(14,uK)]⟩) (.n (some ⟨[(70,false,.bool)],[],[],[],[],[]⟩) .o .o) .o))))))
def x63:az:=comp (ax Tryz.f63) .o
def x64:az:=comp (ax Tryz.f64) (.n none .o (.n none .o (.n none .o (.n none .o (.n none .o (.n none .o (.n none (.n none .o (.n none (.n (some ⟨[(10,false,.bool),(11,false,(.int .i64))],[],[],[((9,none),[(false,(.int .i64)),(false,(.int .i64)),(true,(.int .i64))])],[],[(17,D7),(18,CE)]⟩) (.n none .o (.n none (.n none (.n none .o (.n none .o (.n (some ⟨[],[],[],[],[],[]⟩) .o .o))) .o) .o)) .o) .o)) (.n none .o (.n none .o (.n none (.n none .o (.n none (.n (some ⟨[(19,false,(.int .i64))],[(18,(.pair (.int .i64) (.pair (.int .i64) (.pair (.int .i64) (.pair (.kz 18 1) .bool)))))],[],[],[],[]⟩) .o .o) .o)) .o))))))))))
def x65:az:=comp (ax Tryz.f65) (.n none .o (.n none .o (.n (some ⟨[],[],[],[((6,none),[(false,(.int .i64)),(false,(.int .i64)),(true,(.int .i64))])],[],[]⟩) .o .o)))
def x66:az:=comp (ax Tryz.f66) (.n none .o (.n none .o (.n none .o (.n (some ⟨[],[],[],[((6,none),[(false,(.int .i64)),(false,(.int .i64)),(true,(.int .i64))])],[],[]⟩) .o .o))))
def x67:az:=comp (ax Tryz.f67) .o
def x69:az:=comp (ax Tryz.f69) (.n none .o (.n (some ⟨[],[],[],[],[],[]⟩) .o .o))
def x70:az:=comp (ax Tryz.f70) .o
def x71:az:=comp (ax Tryz.f71) .o
def x72:az:=comp (ax Tryz.f72) (.n none .o (.n none (.n none .o (.n none (.n (some ⟨[(5,false,(.int .i64))],[],[],[],[],[]⟩) .o .o) .o)) .o))
def x73:az:=comp (ax Tryz.f73) .o
def x74:az:=comp (ax Tryz.f74) .o
def x75:az:=comp (ax Tryz.f75) .o
def x76:az:=comp (ax Tryz.f76) (.n none .o (.n (some ⟨[],[],[],[],[],[]⟩) .o .o))
def x77:az:=comp (ax Tryz.f77) (.n none .o (.n none .o (.n (some ⟨[(6,false,(.int .i64))],[],[],[],[],[]⟩) .o .o)))
def x78:az:=comp (ax Tryz.f78) (.n none .o (.n none .o (.n none (.n none (.n (some ⟨[(9,false,.bool)],[],[],[],[],[]⟩) .o .o) .o) .o)))
def x79:az:=comp (ax Tryz.f79) .o
def x80:az:=comp (ax Tryz.f80) (.n none .o (.n none .o (.n (some ⟨[(8,false,(.int .i64))],[],[],[],[],[(3,R3)]⟩) .o .o)))
def x81:az:=comp (ax Tryz.f81) .o
def x82:az:=comp (ax Tryz.f82) .o
def x83:az:=comp (ax Tryz.f83) .o
def x84:az:=comp (ax Tryz.f84) .o
def x85:az:=comp (ax Tryz.f85) (.n none .o (.n none .o (.n none (.n none .o (.n none (.n none .o (.n none (.n none .o (.n (some ⟨[],[],[],[],[],[]⟩) .o .o)) .o)) .o)) .o)))
def x86:az:=comp (ax Tryz.f86) (.n none .o (.n none .o (.n (some ⟨[],[],[],[],[],[(3,R3)]⟩) .o .o)))
def x87:az:=comp (ax Tryz.f87) .o
def x88:az:=comp (ax Tryz.f88) .o
def x89:az:=comp (ax Tryz.f89) .o
def x90:az:=comp (ax Tryz.f90) (.n none .o (.n (some ⟨[],[],[],[],[],[]⟩) .o .o))
def x91:az:=comp (ax Tryz.f91) .o
def x92:az:=comp (ax Tryz.f92) .o
def x93:az:=comp (ax Tryz.f93) (.n none .o (.n (some ⟨[(5,false,(.ptr 8)),(6,false,(.int .i64))],[],[],[],[],[]⟩) .o .o))
def x94:az:=comp (ax Tryz.f94) .o
def x95:az:=comp (ax Tryz.f95) (.n none .o (.n none .o (.n none (.n none .o (.n none (.n (some ⟨[(8,false,(.ptr 8)),(9,false,(.int .i64))],[],[],[],[],[]⟩) .o .o) .o)) .o)))
def x96:az:=comp (ax Tryz.f96) .o
def x97:az:=comp (ax Tryz.f97) .o
def x98:az:=comp (ax Tryz.f98) .o
def x99:az:=comp (ax Tryz.f99) .o
def Vr:az:=comp (ax Tryz.f100) .o
def Vq:az:=comp (ax Tryz.f101) .o
def Vp:az:=comp (ax Tryz.f102) (.n none .o (.n none .o (.n none (.n none .o (.n none (.n (some ⟨[(6,false,(.int .i64))],[],[],[],[],[(16,rz)]⟩) .o .o) .o)) .o)))
def Vo:az:=comp (ax Tryz.f103) (.n none .o (.n (some ⟨[],[],[],[],[],[]⟩) .o (.n none .o (.n none (.n none .o (.n none (.n (some ⟨[(7,false,(.int .i64))],[],[],[],[],[(16,rz)]⟩) .o .o) .o)) .o))))
def Vn:az:=comp (ax Tryz.f104) .o
def Vm:az:=comp (ax Tryz.f105) (.n none .o (.n none .o (.n (some ⟨[],[],[],[],[],[]⟩) .o (.n none (.n none .o (.n none (.n (some ⟨[(8,false,(.int .i64))],[],[],[],[],[]⟩) .o .o) .o)) .o))))
def Vl:az:=comp (ax Tryz.f106) (.n none .o (.n none (.n none .o (.n none (.n (some ⟨[(5,false,(.int .i64))],[],[],[],[],[]⟩) .o .o) .o)) .o))
def Vk:az:=comp (ax Tryz.f107) .o
def Vj:az:=comp (ax Tryz.f108) .o
def Vi:az:=comp (ax Tryz.f109) .o
def Vh:az:=comp (ax Tryz.f110) .o
def Vg:az:=comp (ax Tryz.f111) (.n none .o (.n none .o (.n none .o (.n none .o (.n none .o (.n none .o (.n none (.n none (.n (some ⟨[(10,false,.bool),(11,false,(.int .i64)),(12,false,(.int .i64))],[(8,(.int .u64)),(9,(.int .i64))],[],[],[],[]⟩) (.n none .o (.n none (.n (some ⟨[(13,false,(.int .i64)),(16,false,.bool)],[(14,(.int .u64)),(15,(.int .i64))],[],[],[],[]⟩) .o .o) .o)) .o) .o) .o)))))))
def Vf:az:=comp (ax Tryz.f112) .o
def Ve:az:=comp (ax Tryz.f113) (.n none .o (.n (some ⟨[],[],[],[],[],[]⟩) .o .o))
def Vd:az:=comp (ax Tryz.f114) (.n none .o (.n none .o (.n (some ⟨[],[],[],[],[],[]⟩) .o .o)))
def Vc:az:=comp (ax Tryz.f115) .o
def Vb:az:=comp (ax Tryz.f116) (.n none .o (.n (some ⟨[],[],[],[],[],[]⟩) .o .o))
def Va:az:=comp (ax Tryz.f117) .o
def U_:az:=comp (ax Tryz.f118) (.n none .o (.n (some ⟨[(8,false,.bool)],[],[],[],[],[]⟩) .o .o))
def UZ:az:=comp (ax Tryz.f119) .o
def UY:az:=comp (ax Tryz.f120) (.n none .o (.n (some ⟨[(10,false,.bool)],[],[],[],[],[]⟩) .o .o))
def UX:az:=comp (ax Tryz.f121) (.n none .o (.n (some ⟨[(19,false,.bool)],[],[],[],[],[]⟩) .o .o))
def UW:az:=comp (ax Tryz.f122) .o
def UU:az:=comp (ax Tryz.f123) (.n none .o (.n none (.n none .o (.n none (.n (some ⟨[(8,false,(.int .i64))],[],[],[],[],[]⟩) .o .o) .o)) .o))
def UT:az:=comp (ax Tryz.f124) .o
def US:az:=comp (ax Tryz.f125) .o
def UR:az:=comp (ax Tryz.f126) (.n none .o (.n (some ⟨[],[],[],[],[],[]⟩) .o (.n (some ⟨[(6,false,(.int .i64))],[],[],[],[],[]⟩) .o .o)))
def UQ:az:=comp (ax Tryz.f127) (.n none .o (.n (some ⟨[],[],[],[],[],[]⟩) .o (.n (some ⟨[(7,false,(.int .i64))],[],[],[],[],[]⟩) .o (.n (some ⟨[(7,false,(.int .i64))],[],[],[],[],[]⟩) .o (.n (some ⟨[],[],[],[],[],[]⟩) .o (.n none .o (.n none .o (.n none .o (.n none (.n none .o (.n none (.n (some ⟨[(107,false,(.int .i64))],[],[],[],[],[(2,R2),(4,R4)]⟩) (.n none .o (.n none .o (.n none (.n none (.n none .o (.n none .o (.n none (.n (some ⟨[(140,false,.bool)],[],[],[],[],[]⟩) .o .o) .o))) .o) .o))) .o) .o)) .o)))))))))
def UP:az:=comp (ax Tryz.f128) .o
def UO:az:=comp (ax Tryz.f129) .o
def UN:az:=comp (ax Tryz.f130) .o
def UM:az:=comp (ax Tryz.f131) (.n none .o (.n (some ⟨[],[],[],[((2,none),[(false,(.int .i64)),(false,(.int .i64)),(false,(.int .i64)),(false,(.int .i64))]),((4,none),[(false,(.int .i64)),(false,(.int .i64)),(false,(.int .i64)),(false,(.int .i64))])],[],[]⟩) (.n none (.n (some ⟨[(6,false,.bool)],[],[],[],[],[]⟩) .o .o) .o) .o))
def UL:az:=comp (ax Tryz.f132) .o
def UK:az:=comp (ax Tryz.f133) .o
def UJ:az:=comp (ax Tryz.f134) (.n none .o (.n none .o (.n none .o (.n none .o (.n none (.n none .o (.n none (.n (some ⟨[(10,false,.bool),(11,false,(.int .i64)),(12,false,(.int .i64))],[(8,(.int .u64)),(9,(.int .i64))],[],[],[],[]⟩) (.n none .o (.n none (.n none (.n (some ⟨[(13,false,(.int .i64)),(16,false,.bool)],[(14,(.int .u64)),(15,(.int .i64))],[],[],[],[]⟩) .o .o) .o) .o)) .o) .o)) .o)))))
def UI:az:=comp (ax Tryz.f135) .o
def UH:az:=comp (ax Tryz.f136) .o
def UG:az:=comp (ax Tryz.f137) .o
def UF:az:=comp (ax Tryz.f138) .o
def UE:az:=comp (ax Tryz.f139) (.n none .o (.n none .o (.n none (.n none (.n (some ⟨[(16,false,.bool)],[],[],[],[],[]⟩) .o .o) .o) .o)))
def UD:az:=comp (ax Tryz.f140) (.n none .o (.n none .o (.n none (.n none .o (.n none (.n (some ⟨[(2,false,(.int .i64)),(9,false,(.int .i64))],[],[],[],[],[]⟩) .o .o) .o)) .o)))
def UC:az:=comp (ax Tryz.f141) (.n none .o (.n none (.n none .o (.n none (.n (some ⟨[(8,false,(.int .i64))],[],[],[],[],[]⟩) .o .o) .o)) .o))
def UB:az:=comp (ax Tryz.f142) (.n none .o (.n none .o (.n none (.n none .o (.n none (.n (some ⟨[(4,false,(.int .i64))],[(3,(.pair (.int .i64) (.int .i64)))],[],[],[],[]⟩) (.n none .o (.n none (.n none (.n none .o (.n (some ⟨[],[(3,(.pair (.int .i64) (.int .i64)))],[],[],[],[]⟩) (.n (some ⟨[(35,false,.bool)],[],[],[],[],[]⟩) .o .o) .o)) .o) .o)) .o) .o)) .o)))
def UA:az:=comp (ax Tryz.f143) (.n none .o (.n none (.n (some ⟨[(8,false,(.int .i64))],[],[],[],[],[(16,rz)]⟩) .o .o) .o))
def Uz:az:=comp (ax Tryz.f144) (.n none .o (.n none .o (.n (some ⟨[],[],[],[((4,none),[(false,(.int .i64)),(false,(.int .i64)),(false,(.int .i64)),(false,(.int .i64))])],[],[]⟩) .o .o)))
def Uy:az:=comp (ax Tryz.f145) .o
def Ux:az:=comp (ax Tryz.f146) .o
def Uw:az:=comp (ax Tryz.f147) (.n none .o (.n none .o (.n none (.n (some ⟨[(24,false,.bool)],[],[],[],[],[]⟩) .o .o) (.n none .o (.n (some ⟨[(12,false,.bool)],[],[],[],[],[]⟩) .o (.n (some ⟨[(13,false,.bool)],[],[],[],[],[]⟩) .o (.n (some ⟨[],[(10,(.int .u64))],[],[],[],[]⟩) (.n none .o (.n none (.n none .o (.n none .o (.n none .o (.n none .o (.n none .o (.n none (.n (some ⟨[(73,false,.bool)],[],[],[],[],[]⟩) .o .o) (.n none .o (.n none (.n (some ⟨[(93,false,.bool)],[],[],[],[],[]⟩) .o .o) .o)))))))) .o)) .o)))))))
def Uv:az:=comp (ax Tryz.f148) .o
def Uu:az:=comp (ax Tryz.f149) (.n none .o (.n (some ⟨[],[],[],[],[],[]⟩) .o (.n none .o (.n none (.n none .o (.n none (.n (some ⟨[(7,false,(.int .i64)),(8,false,(.int .i64))],[],[],[],[],[]⟩) .o .o) .o)) .o))))
def Ut:az:=comp (ax Tryz.f150) .o
def Us:az:=comp (ax Tryz.f151) .o
def Ur:az:=comp (ax Tryz.f152) .o
def Uq:az:=comp (ax Tryz.f153) (.n none .o (.n none (.n none .o (.n none (.n (some ⟨[(8,false,(.int .i64))],[],[],[],[],[]⟩) .o .o) .o)) .o))
def Uo:az:=comp (ax Tryz.f154) .o
def Un:az:=comp (ax Tryz.f155) .o
def Um:az:=comp (ax Tryz.f156) .o
def Ul:az:=comp (ax Tryz.f157) .o
def Uk:az:=comp (ax Tryz.f158) (.n none .o (.n none (.n (some ⟨[(3,false,(.int .i64))],[],[],[((0,some 5),[(false,(.int .i64)),(false,(.int .i64)),(true,(.int .i64))])],[0],[(8,R8),(10,CF)]⟩) .o .o) .o))
def Uj:az:=comp (ax Tryz.f159) (.n none .o (.n none .o (.n none .o (.n none .o (.n (some ⟨[],[],[],[((10,none),[(true,(.int .u64)),(true,(.int .i64)),(false,.bool),(false,(.int .i64))])],[],[]⟩) .o .o)))))
def Ui:az:=comp (ax Tryz.f160) .o
def Uh:az:=comp (ax Tryz.f161) (.n none .o (.n none (.n none .o (.n none (.n (some ⟨[(8,false,(.int .i64))],[],[],[],[],[]⟩) .o .o) .o)) .o))
def Ug:az:=comp (ax Tryz.f162) .o
def Uf:az:=comp (ax Tryz.f163) (.n none .o (.n (some ⟨[],[],[],[],[],[]⟩) .o (.n (some ⟨[(3,false,.bool)],[],[],[],[],[]⟩) .o (.n none (.n none .o (.n none (.n (some ⟨[(22,false,.bool)],[],[],[],[],[]⟩) .o .o) .o)) .o))))
def Ue:az:=comp (ax Tryz.f164) (.n none .o (.n none (.n none .o (.n none (.n (some ⟨[(5,false,(.int .i64))],[],[],[],[],[]⟩) .o .o) .o)) .o))
def Ud:az:=comp (ax Tryz.f165) (.n none .o (.n none (.n none .o (.n none (.n (some ⟨[(8,false,(.int .i64))],[],[],[],[],[]⟩) .o .o) .o)) .o))
def Uc:az:=comp (ax Tryz.f166) (.n none .o (.n none (.n none .o (.n none (.n (some ⟨[(4,false,.bool)],[],[],[],[],[]⟩) .o .o) .o)) .o))
def fnT:Tr (Func×az):=(.node (.node (.node (.node (.node (.node (.node (.node .nil (some (Tryz.f127,UQ)) .nil) (some (Tryz.f63,x63)) .nil) (some (Tryz.f31,x31)) (.node (.node .nil (some (Tryz.f159,Uj)) .nil) (some (Tryz.f95,x95)) .nil)) (some (Tryz.f15,x15)) (.node (.node (.node .nil (some (Tryz.f143,UA)) .nil) (some (Tryz.f79,x79)) .nil) (some (Tryz.f47,x47)) (.node .nil (some (Tryz.f111,Vg)) .nil))) none (.node (.node (.node (.node .nil (some (Tryz.f135,UI)) .nil) (some (Tryz.f71,x71)) .nil) (some (Tryz.f39,x39)) (.node .nil (some (Tryz.f103,Vo)) .nil)) (some (Tryz.f23,x23)) (.node (.node (.node .nil (some (Tryz.f151,Us)) .nil) (some (Tryz.f87,x87)) .nil) (some (Tryz.f55,x55)) (.node .nil (some (Tryz.f119,UZ)) .nil)))) none (.node (.node (.node (.node (.node .nil (some (Tryz.f131,UM)) .nil) (some (Tryz.f67,x67)) .nil) (some (Tryz.f35,x35)) (.node (.node .nil (some (Tryz.f163,Uf)) .nil) (some (Tryz.f99,x99)) .nil)) (some (Tryz.f19,x19)) (.node (.node (.node .nil (some (Tryz.f147,Uw)) .nil) (some (Tryz.f83,x83)) .nil) (some (Tryz.f51,x51)) (.node .nil (some (Tryz.f115,Vc)) .nil))) (some (Tryz.f11,x11)) (.node (.node (.node (.node .nil (some (Tryz.f139,UE)) .nil) (some (Tryz.f75,x75)) .nil) (some (Tryz.f43,x43)) (.node .nil (some (Tryz.f107,Vk)) .nil)) (some (Tryz.f27,x27)) (.node (.node (.node .nil (some (Tryz.f155,Un)) .nil) (some (Tryz.f91,x91)) .nil) (some (Tryz.f59,x59)) (.node .nil (some (Tryz.f123,UU)) .nil))))) none (.node (.node (.node (.node (.node (.node .nil (some (Tryz.f129,UO)) .nil) (some (Tryz.f65,x65)) .nil) (some (Tryz.f33,x33)) (.node (.node .nil (some (Tryz.f161,Uh)) .nil) (some (Tryz.f97,x97)) .nil)) (some (Tryz.f17,x17)) (.node (.node (.node .nil (some (Tryz.f145,Uy)) .nil) (some (Tryz.f81,x81)) .nil) (some (Tryz.f49,x49)) (.node .nil (some (Tryz.f113,Ve)) .nil))) none (.node (.node (.node (.node .nil (some (Tryz.f137,UG)) .nil) (some (Tryz.f73,x73)) .nil) (some (Tryz.f41,x41)) (.node .nil (some (Tryz.f105,Vm)) .nil)) none (.node (.node (.node .nil (some (Tryz.f153,Uq)) .nil) (some (Tryz.f89,x89)) .nil) (some (Tryz.f57,x57)) (.node .nil (some (Tryz.f121,UX)) .nil)))) none (.node (.node (.node (.node (.node .nil (some (Tryz.f133,UK)) .nil) (some (Tryz.f69,x69)) .nil) (some (Tryz.f37,x37)) (.node (.node .nil (some (Tryz.f165,Ud)) .nil) (some (Tryz.f101,Vq)) .nil)) (some (Tryz.f21,x21)) (.node (.node (.node .nil (some (Tryz.f149,Uu)) .nil) (some (Tryz.f85,x85)) .nil) (some (Tryz.f53,x53)) (.node .nil (some (Tryz.f117,Va)) .nil))) (some (Tryz.f13,x13)) (.node (.node (.node (.node .nil (some (Tryz.f141,UC)) .nil) (some (Tryz.f77,x77)) .nil) (some (Tryz.f45,x45)) (.node .nil (some (Tryz.f109,Vi)) .nil)) (some (Tryz.f29,x29)) (.node (.node (.node .nil (some (Tryz.f157,Ul)) .nil) (some (Tryz.f93,x93)) .nil) (some (Tryz.f61,x61)) (.node .nil (some (Tryz.f125,US)) .nil)))))) none (.node (.node (.node (.node (.node (.node (.node .nil (some (Tryz.f128,UP)) .nil) (some (Tryz.f64,x64)) .nil) (some (Tryz.f32,x32)) (.node (.node .nil (some (Tryz.f160,Ui)) .nil) (some (Tryz.f96,x96)) .nil)) (some (Tryz.f16,x16)) (.node (.node (.node .nil (some (Tryz.f144,Uz)) .nil) (some (Tryz.f80,x80)) .nil) (some (Tryz.f48,x48)) (.node .nil (some (Tryz.f112,Vf)) .nil))) none (.node (.node (.node (.node .nil (some (Tryz.f136,UH)) .nil) (some (Tryz.f72,x72)) .nil) (some (Tryz.f40,x40)) (.node .nil (some (Tryz.f104,Vn)) .nil)) none (.node (.node (.node .nil (some (Tryz.f152,Ur)) .nil) (some (Tryz.f88,x88)) .nil) (some (Tryz.f56,x56)) (.node .nil (some (Tryz.f120,UY)) .nil)))) none (.node (.node (.node (.node (.node .nil (some (Tryz.f132,UL)) .nil) none .nil) (some (Tryz.f36,x36)) (.node (.node .nil (some (Tryz.f164,Ue)) .nil) (some (Tryz.f100,Vr)) .nil)) (some (Tryz.f20,x20)) (.node (.node (.node .nil (some (Tryz.f148,Uv)) .nil) (some (Tryz.f84,x84)) .nil) (some (Tryz.f52,x52)) (.node .nil (some (Tryz.f116,Vb)) .nil))) (some (Tryz.f12,x12)) (.node (.node (.node (.node .nil (some (Tryz.f140,UD)) .nil) (some (Tryz.f76,x76)) .nil) (some (Tryz.f44,x44)) (.node .nil (some (Tryz.f108,Vj)) .nil)) (some (Tryz.f28,x28)) (.node (.node (.node .nil (some (Tryz.f156,Um)) .nil) (some (Tryz.f92,x92)) .nil) (some (Tryz.f60,x60)) (.node .nil (some (Tryz.f124,UT)) .nil))))) none (.node (.node (.node (.node (.node (.node .nil (some (Tryz.f130,UN)) .nil) (some (Tryz.f66,x66)) .nil) (some (Tryz.f34,x34)) (.node (.node .nil (some (Tryz.f162,Ug)) .nil) (some (Tryz.f98,x98)) .nil)) none (.node (.node (.node .nil (some (Tryz.f146,Ux)) .nil) (some (Tryz.f82,x82)) .nil) (some (Tryz.f50,x50)) (.node .nil (some (Tryz.f114,Vd)) .nil))) (some (Tryz.f10,x10)) (.node (.node (.node (.node .nil (some (Tryz.f138,UF)) .nil) (some (Tryz.f74,x74)) .nil) (some (Tryz.f42,x42)) (.node .nil (some (Tryz.f106,Vl)) .nil)) (some (Tryz.f26,x26)) (.node (.node (.node .nil (some (Tryz.f154,Uo)) .nil) (some (Tryz.f90,x90)) .nil) (some (Tryz.f58,x58)) (.node .nil (some (Tryz.f122,UW)) .nil)))) none (.node (.node (.node (.node (.node .nil (some (Tryz.f134,UJ)) .nil) (some (Tryz.f70,x70)) .nil) (some (Tryz.f38,x38)) (.node (.node .nil (some (Tryz.f166,Uc)) .nil) (some (Tryz.f102,Vp)) .nil)) (some (Tryz.f22,x22)) (.node (.node (.node .nil (some (Tryz.f150,Ut)) .nil) (some (Tryz.f86,x86)) .nil) (some (Tryz.f54,x54)) (.node .nil (some (Tryz.f118,U_)) .nil))) (some (Tryz.f14,x14)) (.node (.node (.node (.node .nil (some (Tryz.f142,UB)) .nil) (some (Tryz.f78,x78)) .nil) (some (Tryz.f46,x46)) (.node .nil (some (Tryz.f110,Vh)) .nil)) (some (Tryz.f30,x30)) (.node (.node (.node .nil (some (Tryz.f158,Uk)) .nil) (some (Tryz.f94,x94)) .nil) (some (Tryz.f62,x62)) (.node .nil (some (Tryz.f126,UR)) .nil)))))))
def fns:FT:=fun f=>fnT.get f
theorem agx:bm Tryz.prog 10 Tryz.f10 x10:=af Tryz.func10 rfl rfl
theorem agw:bm Tryz.prog 11 Tryz.f11 x11:=af Tryz.func11 rfl rfl
theorem agv:bm Tryz.prog 12 Tryz.f12 x12:=af Tryz.func12 rfl rfl
theorem agu:bm Tryz.prog 13 Tryz.f13 x13:=af Tryz.func13 rfl rfl
theorem agt:bm Tryz.prog 14 Tryz.f14 x14:=af Tryz.func14 rfl rfl
theorem ags:bm Tryz.prog 15 Tryz.f15 x15:=af Tryz.func15 rfl rfl
theorem agr:bm Tryz.prog 16 Tryz.f16 x16:=af Tryz.func16 rfl rfl
theorem agq:bm Tryz.prog 17 Tryz.f17 x17:=af Tryz.func17 rfl rfl
theorem agp:bm Tryz.prog 19 Tryz.f19 x19:=af Tryz.func19 rfl rfl
theorem ago:bm Tryz.prog 20 Tryz.f20 x20:=af Tryz.func20 rfl rfl
theorem agn:bm Tryz.prog 21 Tryz.f21 x21:=af Tryz.func21 rfl rfl
theorem agm:bm Tryz.prog 22 Tryz.f22 x22:=af Tryz.func22 rfl rfl
theorem agl:bm Tryz.prog 23 Tryz.f23 x23:=af Tryz.func23 rfl rfl
theorem agk:bm Tryz.prog 26 Tryz.f26 x26:=af Tryz.func26 rfl rfl
theorem agj:bm Tryz.prog 27 Tryz.f27 x27:=af Tryz.func27 rfl rfl
theorem agi:bm Tryz.prog 28 Tryz.f28 x28:=af Tryz.func28 rfl rfl
theorem agh:bm Tryz.prog 29 Tryz.f29 x29:=af Tryz.func29 rfl rfl
theorem agf:bm Tryz.prog 30 Tryz.f30 x30:=af Tryz.func30 rfl rfl
theorem age:bm Tryz.prog 31 Tryz.f31 x31:=af Tryz.func31 rfl rfl
theorem agd:bm Tryz.prog 32 Tryz.f32 x32:=af Tryz.func32 rfl rfl
theorem agc:bm Tryz.prog 33 Tryz.f33 x33:=af Tryz.func33 rfl rfl
theorem agb:bm Tryz.prog 34 Tryz.f34 x34:=af Tryz.func34 rfl rfl
theorem aga:bm Tryz.prog 35 Tryz.f35 x35:=af Tryz.func35 rfl rfl
theorem af_:bm Tryz.prog 36 Tryz.f36 x36:=af Tryz.func36 rfl rfl
theorem af9:bm Tryz.prog 37 Tryz.f37 x37:=af Tryz.func37 rfl rfl
theorem af8:bm Tryz.prog 38 Tryz.f38 x38:=af Tryz.func38 rfl rfl
theorem af7:bm Tryz.prog 39 Tryz.f39 x39:=af Tryz.func39 rfl rfl
theorem af6:bm Tryz.prog 40 Tryz.f40 x40:=af Tryz.func40 rfl rfl
theorem af5:bm Tryz.prog 41 Tryz.f41 x41:=af Tryz.func41 rfl rfl
theorem af4:bm Tryz.prog 42 Tryz.f42 x42:=af Tryz.func42 rfl rfl
theorem af3:bm Tryz.prog 43 Tryz.f43 x43:=af Tryz.func43 rfl rfl
theorem af2:bm Tryz.prog 44 Tryz.f44 x44:=af Tryz.func44 rfl rfl
theorem af1:bm Tryz.prog 45 Tryz.f45 x45:=af Tryz.func45 rfl rfl
theorem af0:bm Tryz.prog 46 Tryz.f46 x46:=af Tryz.func46 rfl rfl
theorem afZ:bm Tryz.prog 47 Tryz.f47 x47:=af Tryz.func47 rfl rfl
theorem afY:bm Tryz.prog 48 Tryz.f48 x48:=af Tryz.func48 rfl rfl
theorem afX:bm Tryz.prog 49 Tryz.f49 x49:=af Tryz.func49 rfl rfl
theorem afW:bm Tryz.prog 50 Tryz.f50 x50:=af Tryz.func50 rfl rfl
theorem afV:bm Tryz.prog 51 Tryz.f51 x51:=af Tryz.func51 rfl rfl
theorem afU:bm Tryz.prog 52 Tryz.f52 x52:=af Tryz.func52 rfl rfl
theorem afT:bm Tryz.prog 53 Tryz.f53 x53:=af Tryz.func53 rfl rfl
theorem afS:bm Tryz.prog 54 Tryz.f54 x54:=af Tryz.func54 rfl rfl
theorem afR:bm Tryz.prog 55 Tryz.f55 x55:=af Tryz.func55 rfl rfl
theorem afQ:bm Tryz.prog 56 Tryz.f56 x56:=af Tryz.func56 rfl rfl
theorem afP:bm Tryz.prog 57 Tryz.f57 x57:=af Tryz.func57 rfl rfl
theorem afO:bm Tryz.prog 58 Tryz.f58 x58:=af Tryz.func58 rfl rfl
theorem afN:bm Tryz.prog 59 Tryz.f59 x59:=af Tryz.func59 rfl rfl
theorem afM:bm Tryz.prog 60 Tryz.f60 x60:=af Tryz.func60 rfl rfl
theorem afL:bm Tryz.prog 61 Tryz.f61 x61:=af Tryz.func61 rfl rfl
theorem afK:bm Tryz.prog 62 Tryz.f62 x62:=af Tryz.func62 rfl rfl
theorem afJ:bm Tryz.prog 63 Tryz.f63 x63:=af Tryz.func63 rfl rfl
theorem afI:bm Tryz.prog 64 Tryz.f64 x64:=af Tryz.func64 rfl rfl
theorem afH:bm Tryz.prog 65 Tryz.f65 x65:=af Tryz.func65 rfl rfl
theorem afG:bm Tryz.prog 66 Tryz.f66 x66:=af Tryz.func66 rfl rfl
theorem afF:bm Tryz.prog 67 Tryz.f67 x67:=af Tryz.func67 rfl rfl
theorem afE:bm Tryz.prog 69 Tryz.f69 x69:=af Tryz.func69 rfl rfl
theorem afD:bm Tryz.prog 70 Tryz.f70 x70:=af Tryz.func70 rfl rfl
theorem afC:bm Tryz.prog 71 Tryz.f71 x71:=af Tryz.func71 rfl rfl
theorem afB:bm Tryz.prog 72 Tryz.f72 x72:=af Tryz.func72 rfl rfl
theorem afA:bm Tryz.prog 73 Tryz.f73 x73:=af Tryz.func73 rfl rfl
theorem afz:bm Tryz.prog 74 Tryz.f74 x74:=af Tryz.func74 rfl rfl
theorem afy:bm Tryz.prog 75 Tryz.f75 x75:=af Tryz.func75 rfl rfl
theorem afx:bm Tryz.prog 76 Tryz.f76 x76:=af Tryz.func76 rfl rfl
theorem afw:bm Tryz.prog 77 Tryz.f77 x77:=af Tryz.func77 rfl rfl
theorem afv:bm Tryz.prog 78 Tryz.f78 x78:=af Tryz.func78 rfl rfl
theorem afu:bm Tryz.prog 79 Tryz.f79 x79:=af Tryz.func79 rfl rfl
theorem aft:bm Tryz.prog 80 Tryz.f80 x80:=af Tryz.func80 rfl rfl
theorem afs:bm Tryz.prog 81 Tryz.f81 x81:=af Tryz.func81 rfl rfl
theorem afr:bm Tryz.prog 82 Tryz.f82 x82:=af Tryz.func82 rfl rfl
theorem afq:bm Tryz.prog 83 Tryz.f83 x83:=af Tryz.func83 rfl rfl
theorem afp:bm Tryz.prog 84 Tryz.f84 x84:=af Tryz.func84 rfl rfl
theorem afo:bm Tryz.prog 85 Tryz.f85 x85:=af Tryz.func85 rfl rfl
theorem afn:bm Tryz.prog 86 Tryz.f86 x86:=af Tryz.func86 rfl rfl
theorem afm:bm Tryz.prog 87 Tryz.f87 x87:=af Tryz.func87 rfl rfl
theorem afl:bm Tryz.prog 88 Tryz.f88 x88:=af Tryz.func88 rfl rfl
theorem afk:bm Tryz.prog 89 Tryz.f89 x89:=af Tryz.func89 rfl rfl
theorem afj:bm Tryz.prog 90 Tryz.f90 x90:=af Tryz.func90 rfl rfl
theorem afi:bm Tryz.prog 91 Tryz.f91 x91:=af Tryz.func91 rfl rfl
theorem afh:bm Tryz.prog 92 Tryz.f92 x92:=af Tryz.func92 rfl rfl
theorem afg:bm Tryz.prog 93 Tryz.f93 x93:=af Tryz.func93 rfl rfl
theorem aff:bm Tryz.prog 94 Tryz.f94 x94:=af Tryz.func94 rfl rfl
theorem afe:bm Tryz.prog 95 Tryz.f95 x95:=af Tryz.func95 rfl rfl
theorem afd:bm Tryz.prog 96 Tryz.f96 x96:=af Tryz.func96 rfl rfl
theorem afc:bm Tryz.prog 97 Tryz.f97 x97:=af Tryz.func97 rfl rfl
theorem afb:bm Tryz.prog 98 Tryz.f98 x98:=af Tryz.func98 rfl rfl
theorem afa:bm Tryz.prog 99 Tryz.f99 x99:=af Tryz.func99 rfl rfl
theorem aao:bm Tryz.prog 100 Tryz.f100 Vr:=af Tryz.func100 rfl rfl
theorem aan:bm Tryz.prog 101 Tryz.f101 Vq:=af Tryz.func101 rfl rfl
theorem aam:bm Tryz.prog 102 Tryz.f102 Vp:=af Tryz.func102 rfl rfl
theorem aal:bm Tryz.prog 103 Tryz.f103 Vo:=af Tryz.func103 rfl rfl
theorem aak:bm Tryz.prog 104 Tryz.f104 Vn:=af Tryz.func104 rfl rfl
theorem aaj:bm Tryz.prog 105 Tryz.f105 Vm:=af Tryz.func105 rfl rfl
theorem aai:bm Tryz.prog 106 Tryz.f106 Vl:=af Tryz.func106 rfl rfl
theorem aah:bm Tryz.prog 107 Tryz.f107 Vk:=af Tryz.func107 rfl rfl
theorem aag:bm Tryz.prog 108 Tryz.f108 Vj:=af Tryz.func108 rfl rfl
theorem aaf:bm Tryz.prog 109 Tryz.f109 Vi:=af Tryz.func109 rfl rfl
theorem aae:bm Tryz.prog 110 Tryz.f110 Vh:=af Tryz.func110 rfl rfl
theorem aad:bm Tryz.prog 111 Tryz.f111 Vg:=af Tryz.func111 rfl rfl
theorem aac:bm Tryz.prog 112 Tryz.f112 Vf:=af Tryz.func112 rfl rfl
theorem aab:bm Tryz.prog 113 Tryz.f113 Ve:=af Tryz.func113 rfl rfl
theorem aaa:bm Tryz.prog 114 Tryz.f114 Vd:=af Tryz.func114 rfl rfl
theorem Z_:bm Tryz.prog 115 Tryz.f115 Vc:=af Tryz.func115 rfl rfl
theorem Z9:bm Tryz.prog 116 Tryz.f116 Vb:=af Tryz.func116 rfl rfl
theorem Z8:bm Tryz.prog 117 Tryz.f117 Va:=af Tryz.func117 rfl rfl
theorem Z7:bm Tryz.prog 118 Tryz.f118 U_:=af Tryz.func118 rfl rfl
theorem Z6:bm Tryz.prog 119 Tryz.f119 UZ:=af Tryz.func119 rfl rfl
theorem Z5:bm Tryz.prog 120 Tryz.f120 UY:=af Tryz.func120 rfl rfl
theorem Z4:bm Tryz.prog 121 Tryz.f121 UX:=af Tryz.func121 rfl rfl
theorem Z3:bm Tryz.prog 122 Tryz.f122 UW:=af Tryz.func122 rfl rfl
theorem Z2:bm Tryz.prog 123 Tryz.f123 UU:=af Tryz.func123 rfl rfl
theorem Z1:bm Tryz.prog 124 Tryz.f124 UT:=af Tryz.func124 rfl rfl
theorem Z0:bm Tryz.prog 125 Tryz.f125 US:=af Tryz.func125 rfl rfl
theorem ZZ:bm Tryz.prog 126 Tryz.f126 UR:=af Tryz.func126 rfl rfl
theorem ZY:bm Tryz.prog 127 Tryz.f127 UQ:=af Tryz.func127 rfl rfl
theorem ZX:bm Tryz.prog 128 Tryz.f128 UP:=af Tryz.func128 rfl rfl
theorem ZW:bm Tryz.prog 129 Tryz.f129 UO:=af Tryz.func129 rfl rfl
theorem ZV:bm Tryz.prog 130 Tryz.f130 UN:=af Tryz.func130 rfl rfl
theorem ZU:bm Tryz.prog 131 Tryz.f131 UM:=af Tryz.func131 rfl rfl
theorem ZT:bm Tryz.prog 132 Tryz.f132 UL:=af Tryz.func132 rfl rfl
theorem ZS:bm Tryz.prog 133 Tryz.f133 UK:=af Tryz.func133 rfl rfl
theorem ZR:bm Tryz.prog 134 Tryz.f134 UJ:=af Tryz.func134 rfl rfl
theorem ZQ:bm Tryz.prog 135 Tryz.f135 UI:=af Tryz.func135 rfl rfl
theorem ZP:bm Tryz.prog 136 Tryz.f136 UH:=af Tryz.func136 rfl rfl
theorem ZO:bm Tryz.prog 137 Tryz.f137 UG:=af Tryz.func137 rfl rfl
theorem ZN:bm Tryz.prog 138 Tryz.f138 UF:=af Tryz.func138 rfl rfl
theorem ZM:bm Tryz.prog 139 Tryz.f139 UE:=af Tryz.func139 rfl rfl
theorem ZL:bm Tryz.prog 140 Tryz.f140 UD:=af Tryz.func140 rfl rfl
theorem ZK:bm Tryz.prog 141 Tryz.f141 UC:=af Tryz.func141 rfl rfl
theorem ZJ:bm Tryz.prog 142 Tryz.f142 UB:=af Tryz.func142 rfl rfl
theorem ZI:bm Tryz.prog 143 Tryz.f143 UA:=af Tryz.func143 rfl rfl
theorem ZH:bm Tryz.prog 144 Tryz.f144 Uz:=af Tryz.func144 rfl rfl
theorem ZG:bm Tryz.prog 145 Tryz.f145 Uy:=af Tryz.func145 rfl rfl
theorem ZF:bm Tryz.prog 146 Tryz.f146 Ux:=af Tryz.func146 rfl rfl
theorem ZE:bm Tryz.prog 147 Tryz.f147 Uw:=af Tryz.func147 rfl rfl
theorem ZD:bm Tryz.prog 148 Tryz.f148 Uv:=af Tryz.func148 rfl rfl
theorem ZC:bm Tryz.prog 149 Tryz.f149 Uu:=af Tryz.func149 rfl rfl
theorem ZB:bm Tryz.prog 150 Tryz.f150 Ut:=af Tryz.func150 rfl rfl
theorem ZA:bm Tryz.prog 151 Tryz.f151 Us:=af Tryz.func151 rfl rfl
theorem Zz:bm Tryz.prog 152 Tryz.f152 Ur:=af Tryz.func152 rfl rfl
theorem Zy:bm Tryz.prog 153 Tryz.f153 Uq:=af Tryz.func153 rfl rfl
theorem Zx:bm Tryz.prog 154 Tryz.f154 Uo:=af Tryz.func154 rfl rfl
theorem Zw:bm Tryz.prog 155 Tryz.f155 Un:=af Tryz.func155 rfl rfl
theorem Zv:bm Tryz.prog 156 Tryz.f156 Um:=af Tryz.func156 rfl rfl
theorem Zu:bm Tryz.prog 157 Tryz.f157 Ul:=af Tryz.func157 rfl rfl
theorem Zt:bm Tryz.prog 158 Tryz.f158 Uk:=af Tryz.func158 rfl rfl
theorem Zr:bm Tryz.prog 159 Tryz.f159 Uj:=af Tryz.func159 rfl rfl
theorem Zq:bm Tryz.prog 160 Tryz.f160 Ui:=af Tryz.func160 rfl rfl
theorem Zp:bm Tryz.prog 161 Tryz.f161 Uh:=af Tryz.func161 rfl rfl
theorem Zo:bm Tryz.prog 162 Tryz.f162 Ug:=af Tryz.func162 rfl rfl
theorem Zn:bm Tryz.prog 163 Tryz.f163 Uf:=af Tryz.func163 rfl rfl
theorem Zm:bm Tryz.prog 164 Tryz.f164 Ue:=af Tryz.func164 rfl rfl
theorem Zl:bm Tryz.prog 165 Tryz.f165 Ud:=af Tryz.func165 rfl rfl
theorem Zk:bm Tryz.prog 166 Tryz.f166 Uc:=af Tryz.func166 rfl rfl
theorem Nj:Ea Tryz.prog fns:=RX (.no (.no (.no (.no (.yes ags (.yes age (.yes afJ (.yes ZY (.nil _ _) (.nil _ _)) (.nil _ _)) (.yes afe (.yes Zr (.nil _ _) (.nil _ _)) (.nil _ _))) (.yes afZ (.yes afu (.yes ZI (.nil _ _) (.nil _ _)) (.nil _ _)) (.yes aad (.nil _ _) (.nil _ _)))) (.yes agl (.yes af7 (.yes afC (.yes ZQ (.nil _ _) (.nil _ _)) (.nil _ _)) (.yes aal (.nil _ _) (.nil _ _))) (.yes afR (.yes afm (.yes ZA (.nil _ _) (.nil _ _)) (.nil _ _)) (.yes Z6 (.nil _ _) (.nil _ _))))) (.yes agw (.yes agp (.yes aga (.yes afF (.yes ZU (.nil _ _) (.nil _ _)) (.nil _ _)) (.yes afa (.yes Zn (.nil _ _) (.nil _ _)) (.nil _ _))) (.yes afV (.yes afq (.yes ZE (.nil _ _) (.nil _ _)) (.nil _ _)) (.yes Z_ (.nil _ _) (.nil _ _)))) (.yes agj (.yes af3 (.yes afy (.yes ZM (.nil _ _) (.nil _ _)) (.nil _ _)) (.yes aah (.nil _ _) (.nil _ _))) (.yes afN (.yes afi (.yes Zw (.nil _ _) (.nil _ _)) (.nil _ _)) (.yes Z2 (.nil _ _) (.nil _ _)))))) (.no (.no (.yes agq (.yes agc (.yes afH (.yes ZW (.nil _ _) (.nil _ _)) (.nil _ _)) (.yes afc (.yes Zp (.nil _ _) (.nil _ _)) (.nil _ _))) (.yes afX (.yes afs (.yes ZG (.nil _ _) (.nil _ _)) (.nil _ _)) (.yes aab (.nil _ _) (.nil _ _)))) (.no (.yes af5 (.yes afA (.yes ZO (.nil _ _) (.nil _ _)) (.nil _ _)) (.yes aaj (.nil _ _) (.nil _ _))) (.yes afP (.yes afk (.yes Zy (.nil _ _) (.nil _ _)) (.nil _ _)) (.yes Z4 (.nil _ _) (.nil _ _))))) (.yes agu (.yes agn (.yes af9 (.yes afE (.yes ZS (.nil _ _) (.nil _ _)) (.nil _ _)) (.yes aan (.yes Zl (.nil _ _) (.nil _ _)) (.nil _ _))) (.yes afT (.yes afo (.yes ZC (.nil _ _) (.nil _ _)) (.nil _ _)) (.yes Z8 (.nil _ _) (.nil _ _)))) (.yes agh (.yes af1 (.yes afw (.yes ZK (.nil _ _) (.nil _ _)) (.nil _ _)) (.yes aaf (.nil _ _) (.nil _ _))) (.yes afL (.yes afg (.yes Zu (.nil _ _) (.nil _ _)) (.nil _ _)) (.yes Z0 (.nil _ _) (.nil _ _))))))) (.no (.no (.no (.yes agr (.yes agd (.yes afI (.yes ZX (.nil _ _) (.nil _ _)) (.nil _ _)) (.yes afd (.yes Zq (.nil _ _) (.nil _ _)) (.nil _ _))) (.yes afY (.yes aft (.yes ZH (.nil _ _) (.nil _ _)) (.nil _ _)) (.yes aac (.nil _ _) (.nil _ _)))) (.no (.yes af6 (.yes afB (.yes ZP (.nil _ _) (.nil _ _)) (.nil _ _)) (.yes aak (.nil _ _) (.nil _ _))) (.yes afQ (.yes afl (.yes Zz (.nil _ _) (.nil _ _)) (.nil _ _)) (.yes Z5 (.nil _ _) (.nil _ _))))) (.yes agv (.yes ago (.yes af_ (.no (.yes ZT (.nil _ _) (.nil _ _)) (.nil _ _)) (.yes aao (.yes Zm (.nil _ _) (.nil _ _)) (.nil _ _))) (.yes afU (.yes afp (.yes ZD (.nil _ _) (.nil _ _)) (.nil _ _)) (.yes Z9 (.nil _ _) (.nil _ _)))) (.yes agi (.yes af2 (.yes afx (.yes ZL (.nil _ _) (.nil _ _)) (.nil _ _)) (.yes aag (.nil _ _) (.nil _ _))) (.yes afM (.yes afh (.yes Zv (.nil _ _) (.nil _ _)) (.nil _ _)) (.yes Z1 (.nil _ _) (.nil _ _)))))) (.no (.yes agx (.no (.yes agb (.yes afG (.yes ZV (.nil _ _) (.nil _ _)) (.nil _ _)) (.yes afb (.yes Zo (.nil _ _) (.nil _ _)) (.nil _ _))) (.yes afW (.yes afr (.yes ZF (.nil _ _) (.nil _ _)) (.nil _ _)) (.yes aaa (.nil _ _) (.nil _ _)))) (.yes agk (.yes af4 (.yes afz (.yes ZN (.nil _ _) (.nil _ _)) (.nil _ _)) (.yes aai (.nil _ _) (.nil _ _))) (.yes afO (.yes afj (.yes Zx (.nil _ _) (.nil _ _)) (.nil _ _)) (.yes Z3 (.nil _ _) (.nil _ _))))) (.yes agt (.yes agm (.yes af8 (.yes afD (.yes ZR (.nil _ _) (.nil _ _)) (.nil _ _)) (.yes aam (.yes Zk (.nil _ _) (.nil _ _)) (.nil _ _))) (.yes afS (.yes afn (.yes ZB (.nil _ _) (.nil _ _)) (.nil _ _)) (.yes Z7 (.nil _ _) (.nil _ _)))) (.yes agf (.yes af0 (.yes afv (.yes ZJ (.nil _ _) (.nil _ _)) (.nil _ _)) (.yes aae (.nil _ _) (.nil _ _))) (.yes afK (.yes aff (.yes Zt (.nil _ _) (.nil _ _)) (.nil _ _)) (.yes ZZ (.nil _ _) (.nil _ _))))))))
end Go.Proofs.YtihiooaimdoapaaGreat
namespace Go.Bm
section
theorem rX {g:G} {a:A} {u:Value} (h:V g a u):∀(i:Nat) (p:A) (v:Value),[a][i]?=some p→[u][i]?=some v→V g p v:=fun i p v e1 e2=>by
 cases i with
 | zero=>cases e1;cases e2;exact h
 | succ i=>cases e1
abbrev Lb (t:Ty) (r:Nat) (rs:List (Bool×Ty)):dR:=⟨[(false,.kz r t.size)],rs,[(r,.row t)],[]⟩
theorem Ss {P:Program} {cx:Cx} (hx:nM P cx) {f:FuncId} {t:Ty} {rs:List (Bool×Ty)} {r:Nat} {F:List t.T→Option (mv rs×Unit)} (h64:Nat.blt r 64=true) (h0t:0<t.size)
  (hn:∀c,AO cx f (Lb t r rs) [.v (.slice none 0 0)] c ()=F [])
  (h1:∀c,AO cx f (Lb t r rs) [.nn t []] c ()=F [])
  (h2:∀c j,AO cx f (Lb t r rs) [.tw (.cT r j) t.size] c ()=bd (aE (α:=t.T) c.1 j) (fun l=>gd (bl 0 (len l)) (bd (aE (α:=t.T) c.1 j) F))) :
  bV P f (Lb t r rs) (fun x c _=>opt x.1 (F []) (fun j=>bd (aE (α:=t.T) c.1 j) F)):=by
 have fnk:∀c y,F []=some y→D_ P f:=fun c y h=>(lr hx f (Lb t r rs) _ c () y.1 y.2 ((h1 c).trans h)).1
 have empty:∀c y d',F []=some (y,d')→∃n k,PC P f [.v (.slice none 0 0)] (hp (h0 [(r,.row t)] [] c ())) (hp ⟨.nil,n,eL [] d'++eL [(r,.row t)] c,k⟩) (wV rs y) ∧
   PC P f [.nn t []] (hp (h0 [(r,.row t)] [] c ())) (hp ⟨.nil,n,eL [] d'++eL [(r,.row t)] c,k⟩) (wV rs y):=fun c y d' h=>by
  obtain ⟨_,t1,n1,k1,p1⟩:=lr hx f (Lb t r rs) _ c () y d' ((h1 c).trans h)
  obtain ⟨_,t0,n0,k0,p0⟩:=lr hx f (Lb t r rs) _ c () y d' ((hn c).trans h)
  exact ⟨n1+n0,k1,p0.less (lU (Nat.le_add_left _ _)).1 (lU (Nat.le_add_left _ _)).2,p1.less (lU (Nat.le_add_right _ _)).1 (lU (Nat.le_add_right _ _)).2⟩
 have O0:∀c j l y,aE (α:=t.T) c.1 j=some l→0<l.length→F l=some y→AO cx f (Lb t r rs) [.tw (.cT r j) t.size] c ()=some y:=fun c j l y hl hlen h=>by
  rw [h2 c j,hl]
  have e:bl 0 (len l):=hlen
  exact (RV e).trans h
 refine ⟨fun x c d y h=>?_,fun x c d y d' h=>?_⟩
 ·obtain ⟨o,u⟩:=x
  cases o with
  | none=>exact fnk c y h
  | some j=>
   have h:bd (aE (α:=t.T) c.1 j) F=some y:=h
   obtain ⟨l,e1,e2⟩:=wF h
   cases l with
   | nil=>exact fnk c y e2
   | cons a l=>exact (lr hx f (Lb t r rs) _ c () y.1 y.2 (O0 c j _ y e1 (Nat.succ_pos _) e2)).1
 ·obtain ⟨o,u⟩:=x
  cases o with
  | none=>
   have h:F []=some (y,d'):=h
   obtain ⟨n,k,p0,p1⟩:=empty c y d' h
   refine ⟨.nil,n,k,fun g w vs hI hl hv=>?_⟩
   match vs,hl with
   | [v],_=>
    have hv:V g (.os r t.size none) v:=hv 0 _ _ rfl rfl
    cases hv with
    | os _ _ _ _ q0 _=>
     have q0:=q0 rfl
     cases q0 with
     | e0 ad=>
      cases ad with
      | none=>exact p0 g w _ hI rfl (rX (.v _))
      | some ad=>exact p1 g w _ hI rfl (rX (.nn t [] ad 0 0 (.wR _ _ _)))
  | some j=>
   have h:bd (aE (α:=t.T) c.1 j) F=some (y,d'):=h
   obtain ⟨l,e1,e2⟩:=wF h
   cases l with
   | cons a l=>
    obtain ⟨_,t1,n1,k1,p1⟩:=lr hx f (Lb t r rs) _ c () y d' (O0 c j _ _ e1 (Nat.succ_pos _) e2)
    refine ⟨t1,n1,k1,fun g w vs hI hl hv=>?_⟩
    match vs,hl with
    | [v],_=>
     have hv:V g (.os r t.size (some j)) v:=hv 0 _ _ rfl rfl
     cases hv with
     | os _ _ _ _ _ q1=>exact p1 g w _ hI rfl (rX (q1 j rfl))
   | nil=>
    obtain ⟨n,k,p0,p1⟩:=empty c y d' e2
    refine ⟨.nil,n,k,fun g w vs hI hl hv=>?_⟩
    match vs,hl with
    | [v],_=>
     have hv:V g (.os r t.size (some j)) v:=hv 0 _ _ rfl rfl
     have Dt:v = .slice none 0 0→_:=fun hq=>p0 g w [v] hI rfl (rX (by rw [hq];exact .v _))
     have JN:V g (.nn t []) v→_:=fun hq=>p1 g w [v] hI rfl (rX hq)
     cases hv with
     | os _ _ _ _ _ q1=>
      have q1:=q1 j rfl
      have uD:kY (h0 [(r,.row t)] [] c ()) (.cT r j) (fun t l=>some (⟨t,l⟩:(t:Ty)×List t.T))=some ⟨t,[]⟩:=by
       have hf:cj (h0 [(r,.row t)] [] c ()).rg r=some ⟨r,.row t,c.1⟩:=by
        show (bif Nat.beq r r then some (⟨r,.row t,c.1⟩:Rg) else _)=_
        rw [Nat.beq_refl];rfl
       unfold kY
       simp only [hf,h64,cond_true]
       rw [e1];rfl
      obtain ⟨t',l',k1,_,fQ⟩:=gq uD
      cases k1
      rcases q1.tX hI h0t fQ with ⟨ad,_,rfl,_⟩ | ⟨b,s,cap,d,_,rfl,_,_,aeR⟩
      ·cases ad with
       | none=>exact Dt rfl
       | some ad=>exact JN (.nn t [] ad 0 0 (.wR _ _ _))
      ·exact JN (.nn t [] _ _ _ (.sl _ false [] (some (b,d)) cap [] (fun e he=>by cases he) (Nat.zero_le _) (fun h=>by cases h) (fun h=>by cases h) (by omega) rfl (fun p j x _ h=>by simp at h) (fun j c x h=>by simp at h)))
end
end Go.Bm