/- Texts of one proof, put together: see each part. -/
import Derived.LoopNIn
import Derived.Test.YtfffmmahegdfiaaGreatRows
import Derived.Shelf.Spec.SlicesGrow
import Derived.Shelf.RegionOpenPlain
import Derived.WalkKit
import Derived.Lib.Walk
import Derived.Lib.SliceRun
import Derived.KernelRfl
import Derived.Test.YtfffmmahegdfiaaGreatKB
set_option maxHeartbeats 2000000
noncomputable section
set_option linter.unusedVariables false
set_option linter.unusedSimpArgs false
namespace Go.Bm
section
open Go.RowKit
def vO {α:Type} (p:α→Bool):Option α→Bool
 | some x=>p x
 | none=>true
def qH {α:Type} (p:α→Bool) (t:Tr α):Bool:=
 Tr.rec (motive:=fun _=>Bool) true (fun _ v _ a b=>vO p v && a && b) t
theorem lz {α:Type} {p:α→Bool}:∀{t:Tr α} (_:qH p t=true) (i:Nat) (x:α),t.get i=some x→p x=true
 | .nil,_,i,x,e=>by rw [Tr.get_nil] at e;cases e
 | .node l v r,h,i,x,e=>by
  have h:(vO p v && qH p l && qH p r)=true:=h
  simp only [zC] at h
  cases i with
  | zero=>rw [Tr.iY] at e;subst e;exact h.1.1
  | succ i=>
   rw [Tr.f_] at e
   cases hb:Nat.beq (i%2) 0 with
   | true=>rw [hb] at e;exact lz h.1.2 _ x e
   | false=>rw [hb] at e;exact lz h.2 _ x e
def GH (N:Nat):fu→Bool
 | .cells cs=>cs.all (rL N 6)
 | .one _ _=>true
 | .row _ _=>true
 | .cl (.map es)=>es.all fun e=>rL N 6 e.1 && rL N 6 e.2
 | .cl .w6=>true
 | .cl (.loop _ _)=>true
theorem zf {N:Nat} {F:Tr A} (h:qH (rL N 6) F=true) (i:Nat):VP N (aT F.get i):=by
 unfold aT
 split
 ·rename_i p hp;exact fg 6 p (lz h i p hp)
 ·exact fg 1 _ rfl
theorem DD {N:Nat} {x:fu} (h:GH N x=true):CA N x.low:=by
 cases x with
 | cells cs=>
  have h:cs.all (rL N 6)=true:=h
  rw [List.all_eq_true] at h
  exact fun c hc=>fg 6 c (h c hc)
 | one t x=>exact gZ t x
 | row t l=>exact fun c hc=>by obtain ⟨y,_,hy⟩:=List.mem_flatMap.1 hc;exact gZ t y c hy
 | cl x=>
  cases x with
  | map es=>
   have h:(es.all fun e=>rL N 6 e.1 && rL N 6 e.2)=true:=h
   rw [List.all_eq_true] at h
   exact fun e he=>by have:=h e he;rw [zC] at this;exact ⟨fg 6 _ this.1,fg 6 _ this.2⟩
  | w6=>trivial
  | loop=>trivial
def ckT (k:Bool×Ty):Bool×Ty:=(false,match k.1 with | true=>.aH k.2 | false=>k.2)
def Hf (l:List (Bool×Ty)):List (Bool×Ty):=l.map ckT
def CB:List ((Nat×Option Nat)×List (Bool×Ty))→Type
 | []=>Unit
 | p::l=>js (Hf p.2)×CB l
def mr:List (Bool×Ty)→Nat
 | []=>0
 | (true,_)::l=>mr l+1
 | (false,_)::l=>mr l
def oe:List ((Nat×Option Nat)×List (Bool×Ty))→Nat
 | []=>0
 | p::l=>mr p.2+oe l
def LH.S (H:LH):Type:=js (H.l_.map (·.2))×js (H.grow.map fun p=>(false,Ty.aH p.2))×js (H.boxes.map fun p=>(false,p.2))×CB H.uz×qg H.g4
def LH.m (H:LH):Nat:=H.grow.length+oe H.uz
section
variable {β:Type}
def AY:List Nat→Tr A→(Tr A→Option β)→Option β
 | [],F,k=>k F
 | i::l,F,k=>dK F i (some .b8) (fun F=>AY l F k)
def Rk:(l:List (Nat×Bool×Ty))→js (l.map (·.2))→Tr A→(Tr A→Option β)→Option β
 | [],_,F,k=>k F
 | p::l,x,F,k=>JU (bM p.2.1 p.2.2 x.1) (fun c=>dK F p.1 (some c) (fun F=>Rk l x.2 F k))
def Tq:List (Nat×Ty)→Nat→Tr A→(Tr A→Option β)→Option β
 | [],_,F,k=>k F
 | p::l,i,F,k=>dK F p.1 (some (.tw (.loc i) p.2.size)) (fun F=>Tq l (i+1) F k)
def BV:List Nat→Tr fu→(Tr fu→Option β)→Option β
 | [],t,k=>k t
 | i::l,t,k=>dK t i none (fun t=>BV l t k)
def Tv:(l:List ((Nat×Option Nat)×Ty))→List Nat→js (l.map fun p=>(false,p.2))→Tr fu→(Tr fu→Option β)→Option β
 | [],_,_,t,k=>k t
 | p::l,b::bs,x,t,k=>dK t b (some (.one p.2 x.1)) (fun t=>Tv l bs x.2 t k)
 | _::_,[],_,_,_=>none
def Tt:(l:List (Nat×Ty))→Nat→js (l.map fun p=>(false,Ty.aH p.2))→Tr fu→(Tr fu→Option β)→Option β
 | [],_,_,t,k=>k t
 | p::l,i,x,t,k=>dK t i (some (.row p.2 x.1)) (fun t=>Tt l (i+1) x.2 t k)
def Ji:(ks:List (Bool×Ty))→js (Hf ks)→Nat→List A
 | [],_,_=>[]
 | (true,t)::l,x,i=>.tw (.loc i) t.size::Ji l x.2 (i+1)
 | (false,t)::l,x,i=>bM false t x.1::Ji l x.2 i
def Rl:(ks:List (Bool×Ty))→js (Hf ks)→Nat→Tr fu→(Tr fu→Option β)→Option β
 | [],_,_,t,k=>k t
 | (true,u)::l,x,i,t,k=>dK t i (some (.row u x.1)) (fun t=>Rl l x.2 (i+1) t k)
 | (false,_)::l,x,i,t,k=>Rl l x.2 i t k
def Tu:(l:List ((Nat×Option Nat)×List (Bool×Ty)))→List Nat→Nat→CB l→Tr fu→(Tr fu→Option β)→Option β
 | [],_,_,_,t,k=>k t
 | p::l,b::bs,i,x,t,k=>dK t b (some (.cells (Ji p.2 x.1 i))) (fun t=>Rl p.2 x.1 i t (fun t=>Tu l bs (i+mr p.2) x.2 t k))
 | _::_,[],_,_,_,_=>none
def x_ (H:LH) (j_ bs cs cu:List Nat) (Fe:Tr A) (he:Go.Bm.H) (s:H.S) (k:Tr A→Go.Bm.H→Option β):Option β:=
 AY j_ Fe (fun F=>Rk H.l_ s.1 F (fun F=>Tq H.grow he.aQ F (fun F=>BV (cu++(bs++cs)) he.t (fun t=>Tv H.boxes bs s.2.2.1 t (fun t=>Tu H.uz cs (he.aQ+H.grow.length) s.2.2.2.1 t (fun t=>Tt H.grow he.aQ s.2.1 t (fun t=>k F ⟨t,he.aQ+H.m,jx H.g4 s.2.2.2.2 he.rg,he.lk⟩)))))))
def Q9 (n:Nat):(l:List (Nat×Bool×Ty))→Tr A→Option (js (l.map (·.2)))
 | [],_=>some ()
 | p::l,F=>bif Nat.blt p.1 n then (match jU p.2.1 p.2.2 (aT F.get p.1),Q9 n l F with
  | some x,some y=>some (x,y)
  | _,_=>none) else none
def C6 (t:Ty) (h:Tr fu):A→Option (List t.T×Option Nat)
 | .tw (.loc o) z=>match h.get o with
  | some (.row t' l)=>bif Nat.beq z t.size && Nat.blt o 16777216 then (match eG (.aH t') (.aH t) l with
   | some l=>some (l,some o)
   | none=>none) else none
  | _=>none
 | .e0=>some ([],none)
 | .v (.slice none 0 0)=>some ([],none)
 | _=>none
def GC (n:Nat):(l:List (Nat×Ty))→Tr A→Tr fu→Option (js (l.map fun p=>(false,Ty.aH p.2))×List (Option Nat))
 | [],_,_=>some ((),[])
 | p::l,F,t=>bif Nat.blt p.1 n then (match C6 p.2 t (aT F.get p.1),GC n l F t with
  | some x,some y=>some ((x.1,y.1),x.2::y.2)
  | _,_=>none) else none
def Q_:(l:List ((Nat×Option Nat)×Ty))→List Nat→Tr fu→Option (js (l.map fun p=>(false,p.2)))
 | [],_,_=>some ()
 | p::l,b::bs,t=>match t.get b with
  | some (.one t' x)=>match eG t' p.2 x,Q_ l bs t with
   | some x,some y=>some (x,y)
   | _,_=>none
  | _=>none
 | _::_,[],_=>none
def HL:(ks:List (Bool×Ty))→List A→Tr fu→Option (js (Hf ks)×List (Option Nat))
 | [],[],_=>some ((),[])
 | (true,u)::l,c::cs,t=>match C6 u t c,HL l cs t with
  | some x,some y=>some ((x.1,y.1),x.2::y.2)
  | _,_=>none
 | (false,u)::l,c::cs,t=>match jU false u c,HL l cs t with
  | some x,some y=>some ((x,y.1),y.2)
  | _,_=>none
 | _,_,_=>none
def Aj:(l:List ((Nat×Option Nat)×List (Bool×Ty)))→List Nat→Tr fu→Option (CB l×List (Option Nat))
 | [],_,_=>some ((),[])
 | p::l,b::bs,t=>match t.get b with
  | some (.cells cs)=>match HL p.2 cs t,Aj l bs t with
   | some x,some y=>some ((x.1,y.1),x.2++y.2)
   | _,_=>none
  | _=>none
 | _::_,[],_=>none
def z8 (t:Tr fu) (q:Nat):Bool:=match t.get q with
 | some (.cl (.loop .ready none))=>true
 | _=>false
def Jh (N:Nat) (bs cu:List Nat) (g4:List (Nat×RK)) (ws:List Nat):Bool:=
 ws.all fun q=>bif Nat.beq (q%2) 0 then Nat.ble N (q / 2) || bs.any (Nat.beq (q / 2)) || cu.any (Nat.beq (q / 2)) else g4.any fun p=>Nat.beq q (gB p.1)
def RI:List Nat→List Nat→Bool
 | [],[]=>true
 | a::l,b::k=>Nat.beq a b && RI l k
 | _,_=>false
theorem BP:∀{l k:List Nat},RI l k=true→l=k
 | [],[],_=>rfl
 | a::l,b::k,h=>by
  have h:(Nat.beq a b && RI l k)=true:=h
  rw [zC] at h
  rw [beq_eq h.1,BP h.2]
def AE (q:Nat):Option Nat→Bool
 | some o=>Nat.beq q o
 | none=>false
def xS (N:Nat) (cu:List Nat):List (Option Nat)→Bool
 | []=>true
 | none::l=>xS N cu l
 | some o::l=>(Nat.ble N o || cu.any (Nat.beq o)) && !(l.any (AE o)) && xS N cu l
def yL (H:LH) (n N:Nat) (bs cs qs cu JV:List Nat) (F:Tr A) (h:Go.Bm.H) (ds:List Nat) (T:Fp):Option H.S:=
 bif Jh N (bs++cs++qs) cu H.g4 T.ws && RI ds JV && qs.all (z8 h.t) then (match Q9 n H.l_ F,GC n H.grow F h.t,Q_ H.boxes bs h.t,Aj H.uz cs h.t,vC H.g4 h.rg with
 | some v,some g,some b,some e,some c=>bif xS N cu (g.2++e.2) then some (v,g.1,b,e.1,c) else none
 | _,_,_,_,_=>none) else none
def Hh:A→Option Nat
 | .tp (.loc b) []=>some b
 | .ptr b 0=>some b
 | _=>none
def RQ (F:Tr A) (p:Nat×Option Nat):Option Nat:=match p.2 with
 | none=>Hh (aT F.get p.1)
 | some j=>match aT F.get p.1 with
  | .qd _ _ F' _ _ _ _=>Hh (aT F'.get j)
  | _=>none
def IZ:List (Nat×Option Nat)→Tr A→Option (List Nat)
 | [],_=>some []
 | p::l,F=>match RQ F p,IZ l F with
  | some b,some bs=>some (b::bs)
  | _,_=>none
def P_:List Nat→Tr A→Option (List Nat)
 | [],_=>some []
 | p::l,F=>match aT F.get p,P_ l F with
  | .qd q _ _ _ _ _ _,some bs=>some (q::bs)
  | _,_=>none
def IX:List (Nat×Ty)→Tr A→List Nat
 | [],_=>[]
 | p::l,F=>match aT F.get p.1 with
  | .tw (.loc o) _=>o::IX l F
  | _=>IX l F
def IW:List A→List Nat
 | []=>[]
 | .tw (.loc o) _::l=>o::IW l
 | _::l=>IW l
def IY (t:Tr fu):List Nat→List Nat
 | []=>[]
 | b::l=>match t.get b with
  | some (.cells cs)=>IW cs++IY t l
  | _=>IY t l
structure CP where
 bs:List Nat
 cs:List Nat
 qs:List Nat
 cu:List Nat
def Et (H:LH) (F:Tr A) (h:Go.Bm.H):Option CP:=match IZ (H.boxes.map (·.1)) F,IZ (H.uz.map (·.1)) F,P_ H.loops F with
 | some bs,some cs,some qs=>some ⟨bs,cs,qs,IX H.grow F++IY h.t cs⟩
 | _,_,_=>none
def w5 (H:LH) (E:CP) (ds:List Nat) (F:Tr A) (h:Go.Bm.H):Bool:=
 qH (rL h.aQ 6) F && qH (GH h.aQ) h.t && Nat.ble (h.aQ+H.m) 16777216 && (E.bs++E.cs).all (fun b=>Nat.blt b h.aQ) && E.cu.all (fun b=>Nat.blt b h.aQ) && ds.all (fun b=>Nat.blt b h.aQ) && (E.bs++E.cs).all (fun b=>!(E.cu.any (Nat.beq b))) && E.qs.all (fun q=>z8 h.t q && !((E.cu++(E.bs++E.cs)).any (Nat.beq q))) && H.g4.all fun p=>Option.isSome (bl h.rg p.1)
def jT (H:LH) (N:Nat) (E:CP):Fp:=⟨true,[],true,((E.bs++E.cs).map cE++E.cu.map cE)++((List.range H.m).map (fun k=>cE (N+k))++H.g4.map fun p=>gB p.1)⟩
variable {r:β}
theorem mJ {F F':Tr A} {d:Nat} {p:A} (e:F'.get=fun m=>if m=d then some p else F.get m) (i:Nat):aT F'.get i=if i=d then p else aT F.get i:=by
 unfold aT
 rw [e]
 by_cases h:i=d
 ·simp [h]
 ·simp [h]
theorem qW:∀(l:List Nat) (F:Tr A) (k:Tr A→Option β),AY l F k=some r→∃F',k F'=some r∧∀aS:Nat→A→Prop,(∀i∈l,aS i .b8)→(∀i,i∉l→aS i (aT F.get i))→∀i,aS i (aT F'.get i)
 | [],F,k,h=>⟨F,h,fun aS _ h2 i=>h2 i (by simp)⟩
 | d::l,F,k,h=>by
  obtain ⟨_,F1,k1,k2⟩:=bh h
  obtain ⟨F',q1,q2⟩:=qW l F1 k k1
  refine ⟨F',q1,fun aS h1 h2=>q2 aS (fun i hi=>h1 i (.tail _ hi)) (fun i hi=>?_)⟩
  rw [mJ k2]
  by_cases hd:i=d
  ·rw [if_pos hd];exact h1 i (by rw [hd];exact .head _)
  ·rw [if_neg hd];exact h2 i (by simp [hd,hi])
def Cf (aS:Nat→A→Prop):(l:List (Nat×Bool×Ty))→js (l.map (·.2))→Prop
 | [],_=>True
 | p::l,x=>aS p.1 (bM p.2.1 p.2.2 x.1)∧Cf aS l x.2
def Ce (aS:Nat→A→Prop):List (Nat×Ty)→Nat→Prop
 | [],_=>True
 | p::l,i=>aS p.1 (.tw (.loc i) p.2.size)∧Ce aS l (i+1)
def Ci (aS:Nat→Option Ob→Prop):(l:List ((Nat×Option Nat)×Ty))→List Nat→js (l.map fun p=>(false,p.2))→Prop
 | [],_,_=>True
 | p::l,b::bs,x=>aS b (some (.cells (aA p.2 x.1)))∧Ci aS l bs x.2
 | _::_,[],_=>True
def Cg (aS:Nat→Option Ob→Prop):(l:List (Nat×Ty))→Nat→js (l.map fun p=>(false,Ty.aH p.2))→Prop
 | [],_,_=>True
 | p::l,i,x=>aS i (some (.cells (List.flatMap (α:=p.2.T) (aA p.2) x.1)))∧Cg aS l (i+1) x.2
def yB (aS:Nat→Option Ob→Prop):(ks:List (Bool×Ty))→js (Hf ks)→Nat→Prop
 | [],_,_=>True
 | (true,u)::l,x,i=>aS i (some (.cells (List.flatMap (α:=u.T) (aA u) x.1)))∧yB aS l x.2 (i+1)
 | (false,_)::l,x,i=>yB aS l x.2 i
def Ch (aS:Nat→Option Ob→Prop):(l:List ((Nat×Option Nat)×List (Bool×Ty)))→List Nat→Nat→CB l→Prop
 | [],_,_,_=>True
 | p::l,b::bs,i,x=>aS b (some (.cells (Ji p.2 x.1 i)))∧yB aS p.2 x.1 i∧Ch aS l bs (i+mr p.2) x.2
 | _::_,[],_,_=>True
theorem wL:∀(l:List (Nat×Bool×Ty)) (x:js (l.map (·.2))) (F:Tr A) (k:Tr A→Option β),Rk l x F k=some r→∃F',k F'=some r∧∀aS:Nat→A→Prop,Cf aS l x→(∀i,aS i (aT F.get i))→∀i,aS i (aT F'.get i)
 | [],_,F,k,h=>⟨F,h,fun aS _ h2=>h2⟩
 | p::l,x,F,k,h=>by
  unfold Rk at h
  rw [vH] at h
  obtain ⟨_,F1,k1,k2⟩:=bh h
  obtain ⟨F',q1,q2⟩:=wL l x.2 F1 k k1
  refine ⟨F',q1,fun aS h1 h2=>q2 aS h1.2 (fun i=>?_)⟩
  rw [mJ k2]
  by_cases hd:i=p.1
  ·rw [if_pos hd,hd];exact h1.1
  ·rw [if_neg hd];exact h2 i
theorem wK:∀(l:List (Nat×Ty)) (j:Nat) (F:Tr A) (k:Tr A→Option β),Tq l j F k=some r→∃F',k F'=some r∧∀aS:Nat→A→Prop,Ce aS l j→(∀i,aS i (aT F.get i))→∀i,aS i (aT F'.get i)
 | [],_,F,k,h=>⟨F,h,fun aS _ h2=>h2⟩
 | p::l,j,F,k,h=>by
  obtain ⟨_,F1,k1,k2⟩:=bh h
  obtain ⟨F',q1,q2⟩:=wK l (j+1) F1 k k1
  refine ⟨F',q1,fun aS h1 h2=>q2 aS h1.2 (fun i=>?_)⟩
  rw [mJ k2]
  by_cases hd:i=p.1
  ·rw [if_pos hd,hd];exact h1.1
  ·rw [if_neg hd];exact h2 i
theorem vY {t t':Tr fu} {d:Nat} {x:Option fu} (e:t'.get=fun m=>if m=d then x else t.get m) (i:Nat):et t' i=if i=d then x.map fu.low else et t i:=by
 unfold et
 rw [e]
 by_cases h:i=d
 ·simp only [if_pos h];cases x<;>rfl
 ·simp only [if_neg h]
theorem q8:∀(l:List Nat) (t:Tr fu) (k:Tr fu→Option β),BV l t k=some r→∃t',k t'=some r∧∀aS:Nat→Option Ob→Prop,(∀i∈l,aS i none)→(∀i,i∉l→aS i (et t i))→∀i,aS i (et t' i)
 | [],t,k,h=>⟨t,h,fun aS _ h2 i=>h2 i (by simp)⟩
 | d::l,t,k,h=>by
  obtain ⟨_,t1,k1,k2⟩:=bh h
  obtain ⟨t',q1,q2⟩:=q8 l t1 k k1
  refine ⟨t',q1,fun aS h1 h2=>q2 aS (fun i hi=>h1 i (.tail _ hi)) (fun i hi=>?_)⟩
  rw [vY k2]
  by_cases hd:i=d
  ·rw [if_pos hd];exact h1 i (by rw [hd];exact .head _)
  ·rw [if_neg hd];exact h2 i (by simp [hd,hi])
theorem Df {t t1:Tr fu} {d:Nat} {x:fu} {aS:Nat→Option Ob→Prop} (e:t1.get=fun m=>if m=d then some x else t.get m) (h1:aS d (some x.low)) (h2:∀i,aS i (et t i)) (i:Nat):aS i (et t1 i):=by
 rw [vY e]
 by_cases hd:i=d
 ·rw [if_pos hd,hd];exact h1
 ·rw [if_neg hd];exact h2 i
theorem wO:∀(l:List ((Nat×Option Nat)×Ty)) (bs:List Nat) (x:js (l.map fun p=>(false,p.2))) (t:Tr fu) (k:Tr fu→Option β),Tv l bs x t k=some r→∃t',k t'=some r∧∀aS:Nat→Option Ob→Prop,Ci aS l bs x→(∀i,aS i (et t i))→∀i,aS i (et t' i)
 | [],_,_,t,k,h=>⟨t,h,fun aS _ h2=>h2⟩
 | p::l,b::bs,x,t,k,h=>by
  obtain ⟨_,t1,k1,k2⟩:=bh h
  obtain ⟨t',q1,q2⟩:=wO l bs x.2 t1 k k1
  exact ⟨t',q1,fun aS h1 h2=>q2 aS h1.2 (Df k2 h1.1 h2)⟩
 | _::_,[],_,_,_,h=>by cases h
theorem wM:∀(l:List (Nat×Ty)) (j:Nat) (x:js (l.map fun p=>(false,Ty.aH p.2))) (t:Tr fu) (k:Tr fu→Option β),Tt l j x t k=some r→∃t',k t'=some r∧∀aS:Nat→Option Ob→Prop,Cg aS l j x→(∀i,aS i (et t i))→∀i,aS i (et t' i)
 | [],_,_,t,k,h=>⟨t,h,fun aS _ h2=>h2⟩
 | p::l,j,x,t,k,h=>by
  obtain ⟨_,t1,k1,k2⟩:=bh h
  obtain ⟨t',q1,q2⟩:=wM l (j+1) x.2 t1 k k1
  exact ⟨t',q1,fun aS h1 h2=>q2 aS h1.2 (Df k2 h1.1 h2)⟩
theorem r_:∀(ks:List (Bool×Ty)) (x:js (Hf ks)) (j:Nat) (t:Tr fu) (k:Tr fu→Option β),Rl ks x j t k=some r→∃t',k t'=some r∧∀aS:Nat→Option Ob→Prop,yB aS ks x j→(∀i,aS i (et t i))→∀i,aS i (et t' i)
 | [],_,_,t,k,h=>⟨t,h,fun aS _ h2=>h2⟩
 | (true,u)::l,x,j,t,k,h=>by
  obtain ⟨_,t1,k1,k2⟩:=bh h
  obtain ⟨t',q1,q2⟩:=r_ l x.2 (j+1) t1 k k1
  exact ⟨t',q1,fun aS h1 h2=>q2 aS h1.2 (Df k2 h1.1 h2)⟩
 | (false,_)::l,x,j,t,k,h=>r_ l x.2 j t k h
theorem wN:∀(l:List ((Nat×Option Nat)×List (Bool×Ty))) (bs:List Nat) (j:Nat) (x:CB l) (t:Tr fu) (k:Tr fu→Option β),Tu l bs j x t k=some r→∃t',k t'=some r∧∀aS:Nat→Option Ob→Prop,Ch aS l bs j x→(∀i,aS i (et t i))→∀i,aS i (et t' i)
 | [],_,_,_,t,k,h=>⟨t,h,fun aS _ h2=>h2⟩
 | p::l,b::bs,j,x,t,k,h=>by
  obtain ⟨_,t1,k1,k2⟩:=bh h
  obtain ⟨t2,k3,k4⟩:=r_ p.2 x.1 j t1 _ k1
  obtain ⟨t',q1,q2⟩:=wN l bs _ x.2 t2 k k3
  exact ⟨t',q1,fun aS h1 h2=>q2 aS h1.2.2 (k4 aS h1.2.1 (Df k2 h1.1 h2))⟩
 | _::_,[],_,_,_,_,h=>by cases h
structure nq (H:LH) (j_:List Nat) (E:CP) (Fe:Tr A) (he:Go.Bm.H) (s:H.S) (Fc:Tr A) (hc:Go.Bm.H):Prop where
 F:∀aS:Nat→A→Prop,(∀i∈j_,aS i .b8)→(∀i,i∉j_→aS i (aT Fe.get i))→Cf aS H.l_ s.1→Ce aS H.grow he.aQ→∀i,aS i (aT Fc.get i)
 t:∀aS:Nat→Option Ob→Prop,(∀i∈E.cu++(E.bs++E.cs),aS i none)→(∀i,i∉E.cu++(E.bs++E.cs)→aS i (et he.t i))→Ci aS H.boxes E.bs s.2.2.1→Ch aS H.uz E.cs (he.aQ+H.grow.length) s.2.2.2.1→Cg aS H.grow he.aQ s.2.1→∀i,aS i (et hc.t i)
 aQ:hc.aQ=he.aQ+H.m
 rg:hc.rg=jx H.g4 s.2.2.2.2 he.rg
theorem tW {H:LH} {j_:List Nat} {E:CP} {Fe:Tr A} {he:Go.Bm.H} {s:H.S} {k:Tr A→Go.Bm.H→Option β} (h:x_ H j_ E.bs E.cs E.cu Fe he s k=some r):∃Fc hc,k Fc hc=some r∧nq H j_ E Fe he s Fc hc:=by
 obtain ⟨F1,k1,f1⟩:=qW _ _ _ h
 obtain ⟨F2,k2,f2⟩:=wL _ _ _ _ k1
 obtain ⟨F3,k3,f3⟩:=wK _ _ _ _ k2
 obtain ⟨t1,k4,e1⟩:=q8 _ _ _ k3
 obtain ⟨t2,k5,e2⟩:=wO _ _ _ _ _ k4
 obtain ⟨t3,k6,e3⟩:=wN _ _ _ _ _ _ k5
 obtain ⟨t4,k7,e4⟩:=wM _ _ _ _ _ k6
 exact ⟨F3,_,k7,fun aS a b c d=>f3 aS d (f2 aS c (f1 aS a b)),fun aS a b c d e=>e4 aS e (e3 aS d (e2 aS c (e1 aS a b))),rfl,rfl⟩
end
end
section
open Go.RowKit
theorem any_beq {l:List Nat} {i:Nat}:l.any (Nat.beq i)=true↔i∈l:=by
 rw [List.any_eq_true]
 exact ⟨fun ⟨x,h1,h2⟩=>by rw [beq_eq h2];exact h1,fun h=>⟨i,h,Nat.beq_refl i⟩⟩
theorem uy {N:Nat} {bs cu:List Nat} {g4:List (Nat×RK)} {T:Fp} (h:Jh N bs cu g4 T.ws=true) {i:Nat} (hl:i<cb) (h1:i<N) (h2:i∉cu++bs):wt T i=false:=by
 cases hx:wt T i with
 | false=>rfl
 | true=>
  unfold wt at hx
  rw [zC] at hx
  obtain ⟨q,q1,q2⟩:=List.any_eq_true.1 hx.2
  obtain rfl:=beq_eq q2
  have:=List.all_eq_true.1 h _ q1
  rw [lB hl] at this
  unfold cE at this
  rw [show Nat.beq (2*i%2) 0=true by rw [show 2*i%2=0 by omega];rfl,show 2*i / 2=i by omega] at this
  simp only [cond_true,Bool.or_eq_true] at this
  rcases this with (this | this) | this
  ·have:=Nat.le_of_ble_eq_true this;omega
  ·exact absurd (zS _ (any_beq.1 this)) h2
  ·exact absurd (zQ _ (any_beq.1 this)) h2
theorem ux {N:Nat} {bs cu:List Nat} {g4:List (Nat×RK)} {T:Fp} (h:Jh N bs cu g4 T.ws=true) {i:Nat} (hl:¬i<cb) (h1:cA g4 (kN i)=false):wt T i=false:=by
 cases hx:wt T i with
 | false=>rfl
 | true=>
  unfold wt at hx
  rw [zC] at hx
  obtain ⟨q,q1,q2⟩:=List.any_eq_true.1 hx.2
  obtain rfl:=beq_eq q2
  have:=List.all_eq_true.1 h _ q1
  rw [nJ hl] at this
  unfold gB at this
  rw [show Nat.beq ((2*kN i+1)%2) 0=false by rw [show (2*kN i+1)%2=1 by omega];rfl] at this
  simp only [cond_false] at this
  obtain ⟨p,p1,p2⟩:=List.any_eq_true.1 this
  have e:p.1=kN i:=by have:=beq_eq p2;unfold gB at this;omega
  rw [show cA g4 (kN i)=true from List.any_eq_true.2 ⟨p,p1,by rw [e];exact Nat.beq_refl _⟩] at h1
  cases h1
theorem Ah {n:Nat} {F:Tr A} {aS:Nat→A→Prop} (hg:∀i a t x,i<n→jU a t (aT F.get i)=some x→aS i (bM a t x)):∀(l:List (Nat×Bool×Ty)) (x:js (l.map (·.2))),Q9 n l F=some x→Cf aS l x
 | [],_,_=>trivial
 | p::l,x,h=>by
  unfold Q9 at h
  obtain ⟨hn,h⟩:=af h
  split at h
  ·rename_i y z h1 h2
   cases h
   exact ⟨hg _ _ _ _ (aU hn) h1,Ah hg l z h2⟩
  ·cases h
def Ck (t:Ty) (tt:Tr fu) (l:List t.T):Option Nat→Prop
 | some o=>o<cb∧et tt o=some (.cells (l.flatMap (aA t)))
 | none=>l=[]
def uE (z:Nat) (a:A):Option Nat→Prop
 | some o=>a = .tw (.loc o) z
 | none=>∀g v,V g a v→∃ad,v = .slice ad 0 0
theorem rq {t:Ty} {tt:Tr fu} {a:A} {l:List t.T} {nm:Option Nat} (h:C6 t tt a=some (l,nm)):Ck t tt l nm∧uE t.size a nm:=by
 unfold C6 at h
 split at h
 ·rename_i o z
  split at h
  ·rename_i t' l' h1
   obtain ⟨h2,h⟩:=af h
   rw [zC] at h2
   split at h
   ·rename_i l1 hl1
    obtain ⟨e,e2⟩:=bY hl1
    cases e
    cases e2
    simp only [zI,zU] at h
    obtain ⟨rfl,rfl⟩:=h
    refine ⟨⟨aU h2.2,?_⟩,by rw [beq_eq h2.1];rfl⟩
    unfold et
    rw [h1];rfl
   ·cases h
  ·cases h
 ·simp only [zI,zU] at h
  obtain ⟨rfl,rfl⟩:=h
  exact ⟨rfl,fun g v hv=>by cases hv;exact ⟨_,rfl⟩⟩
 ·simp only [zI,zU] at h
  obtain ⟨rfl,rfl⟩:=h
  exact ⟨rfl,fun g v hv=>by cases hv;exact ⟨_,rfl⟩⟩
 ·cases h
theorem Ai {n:Nat} {F:Tr A} {tt:Tr fu}:∀(l:List (Nat×Ty)) (x:js (l.map fun p=>(false,Ty.aH p.2))) (names:List (Option Nat)),GC n l F tt=some (x,names)→names.length=l.length ∧
  ∀(aS:Nat→A→Prop) (m8:Nat→Option Ob→Prop) (j:Nat),
   (∀(k:Nat) (nm:Option Nat) (i z:Nat),names[k]?=some nm→i<n→uE z (aT F.get i) nm→aS i (.tw (.loc (j+k)) z)) →
   (∀(k:Nat) (nm:Option Nat) (t:Ty) (l:List t.T),names[k]?=some nm→Ck t tt l nm→m8 (j+k) (some (.cells (l.flatMap (aA t)))))→Ce aS l j∧Cg m8 l j x
 | [],x,names,h=>by
  simp only [GC,zI,zU] at h
  obtain ⟨_,rfl⟩:=h
  exact ⟨rfl,fun _ _ _ _ _=>⟨trivial,trivial⟩⟩
 | p::l,x,names,h=>by
  unfold GC at h
  obtain ⟨hn,h⟩:=af h
  split at h
  ·rename_i y z h1 h2
   simp only [zI,zU] at h
   obtain ⟨rfl,rfl⟩:=h
   obtain ⟨q1,q2⟩:=Ai l z.1 z.2 h2
   obtain ⟨r1,r2⟩:=rq (l:=y.1) (nm:=y.2) h1
   refine ⟨by simp [q1],fun aS m8 j k1 k2=>?_⟩
   obtain ⟨u1,u2⟩:=q2 aS m8 (j+1) (fun k nm i z e=>by have:=k1 (k+1) nm i z (by simpa using e);rwa [show j+(k+1)=j+1+k by omega] at this) (fun k nm t l e=>by have:=k2 (k+1) nm t l (by simpa using e);rwa [show j+(k+1)=j+1+k by omega] at this)
   exact ⟨⟨k1 0 y.2 p.1 p.2.size rfl (aU hn) r2,u1⟩,⟨k2 0 y.2 p.2 y.1 rfl r1,u2⟩⟩
  ·cases h
theorem zx {n:Nat} {F:Tr A} {tt:Tr fu}:∀{l:List (Nat×Ty)} {x:js (l.map fun p=>(false,Ty.aH p.2))} {names:List (Option Nat)},GC n l F tt=some (x,names)→∀(k o:Nat),names[k]?=some (some o)→o<cb
 | [],x,names,h,k,o,e=>by
  simp only [GC,zI,zU] at h
  obtain ⟨_,rfl⟩:=h
  simp at e
 | p::l,x,names,h,k,o,e=>by
  unfold GC at h
  obtain ⟨hn,h⟩:=af h
  split at h
  ·rename_i y z h1 h2
   simp only [zI,zU] at h
   obtain ⟨rfl,rfl⟩:=h
   cases k with
   | zero=>
    have e:y.2=some o:=by simpa using e
    have:=(rq (l:=y.1) (nm:=y.2) h1).1
    rw [e] at this
    exact this.1
   | succ k=>exact zx (x:=z.1) (names:=z.2) h2 k o (by simpa using e)
  ·cases h
theorem Ak {tt:Tr fu} {aS:Nat→Option Ob→Prop}:∀(l:List ((Nat×Option Nat)×Ty)) (bs:List Nat) (x:js (l.map fun p=>(false,p.2))),(∀b t (y:t.T),b∈bs→et tt b=some (.cells (aA t y))→aS b (some (.cells (aA t y))))→Q_ l bs tt=some x→Ci aS l bs x
 | [],_,_,_,_=>trivial
 | p::l,b::bs,x,hg,h=>by
  unfold Q_ at h
  split at h
  ·rename_i t' y h1
   split at h
   ·rename_i y' z h2 h3
    cases h
    obtain ⟨e,e2⟩:=bY h2
    obtain ⟨p1,p2⟩:=p
    simp only at e
    subst e
    cases e2
    exact ⟨hg b t' y (.head _) (by unfold et;rw [h1];rfl),Ak l bs z (fun b t y hb=>hg b t y (.tail _ hb)) h3⟩
   ·cases h
  ·cases h
 | _::_,[],_,_,h=>by cases h
theorem Vs.y6 {g:G} {c:A} {cs:List A} {vs:List Value} (h:Vs g (c::cs) vs):∃v us,vs=v::us∧V g c v∧v.oneCell'=true∧Vs g cs us:=by
 match vs,h with
 | [],h=>exact absurd h.1 (by simp)
 | v::us,h=>
  have h0:=h.2 0 c v rfl rfl
  exact ⟨v,us,rfl,h0.1,h0.2,by simpa using h.1,fun j c x e1 e2=>h.2 (j+1) c x (by simpa using e1) (by simpa using e2)⟩
theorem vc {tt:Tr fu}:∀(ks:List (Bool×Ty)) (cs:List A) (x:js (Hf ks)) (names:List (Option Nat)),HL ks cs tt=some (x,names)→names.length=mr ks∧(∀(k o:Nat),names[k]?=some (some o)→o<cb)∧∀j,(Ji ks x j).length=cs.length ∧
  (∀(m8:Nat→Option Ob→Prop),(∀(k:Nat) (nm:Option Nat) (t:Ty) (l:List t.T),names[k]?=some nm→Ck t tt l nm→m8 (j+k) (some (.cells (l.flatMap (aA t)))))→yB m8 ks x j) ∧
  ∀(N:Nat) (g g':G),vW N g g'→(∀(k:Nat) (nm:Option Nat) (z:Nat) (c:A),names[k]?=some nm→uE z c nm→∀v,V g c v→V g' (.tw (.loc (j+k)) z) v)→∀vs,Vs g cs vs→Vs g' (Ji ks x j) vs
 | [],[],x,names,h=>by
  simp only [HL,zI,zU] at h
  obtain ⟨_,rfl⟩:=h
  exact ⟨rfl,fun k o e=>by simp at e,fun j=>⟨rfl,fun _ _=>trivial,fun N g g' _ _ vs hv=>⟨hv.1,fun j c x e=>by simp [Ji] at e⟩⟩⟩
 | (true,u)::l,c::cs,x,names,h=>by
  unfold HL at h
  split at h
  ·rename_i y z h1 h2
   simp only [zI,zU] at h
   obtain ⟨rfl,rfl⟩:=h
   obtain ⟨q1,NK,q2⟩:=vc l cs z.1 z.2 h2
   obtain ⟨r1,r2⟩:=rq (l:=y.1) (nm:=y.2) h1
   refine ⟨by simp [q1,mr],fun k o e=>?_,fun j=>?_⟩
   ·cases k with
    | zero=>
     have e:y.2=some o:=by simpa using e
     rw [e] at r1
     exact r1.1
    | succ k=>exact NK k o (by simpa using e)
   ·obtain ⟨u1,u2,u3⟩:=q2 (j+1)
    refine ⟨congrArg Nat.succ u1,fun m8 k2=>⟨k2 0 y.2 u y.1 rfl r1,u2 m8 (fun k nm t l e=>by have:=k2 (k+1) nm t l (by simpa using e);rwa [show j+(k+1)=j+1+k by omega] at this)⟩,fun N g g' hs hk vs hv=>?_⟩
    obtain ⟨v,us,rfl,v1,v2,v3⟩:=hv.y6
    exact .cons (hk 0 y.2 u.size c rfl r2 v v1) v2 (u3 N g g' hs (fun k nm z c e=>by have:=hk (k+1) nm z c (by simpa using e);rwa [show j+(k+1)=j+1+k by omega] at this) us v3)
  ·cases h
 | (false,u)::l,c::cs,x,names,h=>by
  unfold HL at h
  split at h
  ·rename_i y z h1 h2
   simp only [zI,zU] at h
   obtain ⟨rfl,rfl⟩:=h
   obtain ⟨q1,NK,q2⟩:=vc l cs z.1 z.2 h2
   refine ⟨by simp [q1,mr],NK,fun j=>?_⟩
   obtain ⟨u1,u2,u3⟩:=q2 j
   refine ⟨congrArg Nat.succ u1,u2,fun N g g' hs hk vs hv=>?_⟩
   obtain ⟨v,us,rfl,v1,v2,v3⟩:=hv.y6
   exact .cons (mS false u y g g' v hs (iO h1 v1)) v2 (u3 N g g' hs hk us v3)
  ·cases h
 | [],_::_,_,_,h=>by cases h
 | (true,_)::_,[],_,_,h=>by cases h
 | (false,_)::_,[],_,_,h=>by cases h
theorem wj {tt:Tr fu}:∀(l:List ((Nat×Option Nat)×List (Bool×Ty))) (bs:List Nat) (x:CB l) (names:List (Option Nat)),Aj l bs tt=some (x,names)→names.length=oe l∧(∀(k o:Nat),names[k]?=some (some o)→o<cb) ∧
  ∀(N:Nat) (g g':G) (j:Nat) (aS:Nat→Option Ob→Prop),vW N g g' →
   (∀(k:Nat) (nm:Option Nat) (z:Nat) (c:A),names[k]?=some nm→uE z c nm→∀v,V g c v→V g' (.tw (.loc (j+k)) z) v) →
   (∀(k:Nat) (nm:Option Nat) (t:Ty) (l:List t.T),names[k]?=some nm→Ck t tt l nm→aS (j+k) (some (.cells (l.flatMap (aA t))))) →
   (∀b cs gz,b∈bs→et tt b=some (.cells cs)→gz.length=cs.length→(∀vs,Vs g cs vs→Vs g' gz vs)→aS b (some (.cells gz)))→Ch aS l bs j x
 | [],_,x,names,h=>by
  simp only [Aj,zI,zU] at h
  obtain ⟨_,rfl⟩:=h
  exact ⟨rfl,fun k o e=>by simp at e,fun _ _ _ _ _ _ _ _ _=>trivial⟩
 | p::l,b::bs,x,names,h=>by
  unfold Aj at h
  split at h
  ·rename_i cs hcs
   split at h
   ·rename_i y z h1 h2
    simp only [zI,zU] at h
    obtain ⟨rfl,rfl⟩:=h
    obtain ⟨q1,NK,q2⟩:=vc p.2 cs y.1 y.2 h1
    obtain ⟨r1,r1',r2⟩:=wj l bs z.1 z.2 h2
    have ap:∀(k:Nat) (nm:Option Nat),y.2[k]?=some nm→(y.2++z.2)[k]?=some nm:=fun k nm e=>by rw [zK (zB.1 e).1];exact e
    have aq:∀(k:Nat) (nm:Option Nat),z.2[k]?=some nm→(y.2++z.2)[mr p.2+k]?=some nm:=fun k nm e=>by rw [zJ (by omega),q1,Nat.add_sub_cancel_left];exact e
    refine ⟨by simp [q1,r1,oe],fun k o e=>?_,fun N g g' j aS hs hk hr hb=>?_⟩
    ·by_cases hk:k<y.2.length
     ·rw [zK hk] at e;exact NK k o e
     ·rw [zJ (by omega)] at e;exact r1' _ o e
    ·obtain ⟨u1,u2,u3⟩:=q2 j
     refine ⟨hb b cs _ (.head _) (by unfold et;rw [hcs];rfl) u1 (u3 N g g' hs (fun k nm zz c e=>hk k nm zz c (ap k nm e))),u2 aS (fun k nm t l e=>hr k nm t l (ap k nm e)),?_⟩
     exact r2 N g g' (j+mr p.2) aS hs (fun k nm zz c e=>by have:=hk (mr p.2+k) nm zz c (aq k nm e);rwa [←Nat.add_assoc] at this) (fun k nm t l e=>by have:=hr (mr p.2+k) nm t l (aq k nm e);rwa [←Nat.add_assoc] at this) (fun b cs gz hm=>hb b cs gz (.tail _ hm))
   ·cases h
  ·cases h
 | _::_,[],_,_,h=>by cases h
theorem rM {N:Nat} {cu:List Nat}:∀{names:List (Option Nat)},xS N cu names=true→(∀(k o:Nat),names[k]?=some (some o)→N≤o∨o∈cu)∧∀(k k' o:Nat),names[k]?=some (some o)→names[k']?=some (some o)→k=k'
 | [],_=>⟨fun k o h=>by simp at h,fun k k' o h=>by simp at h⟩
 | none::l,h=>by
  obtain ⟨h1,h2⟩:=rM (show xS N cu l=true from h)
  refine ⟨fun k o e=>?_,fun k k' o e e'=>?_⟩
  ·cases k with
   | zero=>cases e
   | succ k=>exact h1 k o (by simpa using e)
  ·cases k with
   | zero=>cases e
   | succ k=>
    cases k' with
    | zero=>cases e'
    | succ k'=>rw [h2 k k' o (by simpa using e) (by simpa using e')]
 | some q::l,h=>by
  have h:((Nat.ble N q || cu.any (Nat.beq q)) && !(l.any (AE q)) && xS N cu l)=true:=h
  simp only [zC,Bool.or_eq_true,Bool.not_eq_true'] at h
  obtain ⟨⟨ha,hb⟩,hc⟩:=h
  obtain ⟨h1,h2⟩:=rM hc
  have ZV:∀k,l[k]?=some (some q)→False:=fun k e=>by
   have:l.any (AE q)=true:=List.any_eq_true.2 ⟨some q,zG e,Nat.beq_refl q⟩
   rw [hb] at this;cases this
  refine ⟨fun k o e=>?_,fun k k' o e e'=>?_⟩
  ·cases k with
   | zero=>
    simp only [List.getElem?_cons_zero,zI] at e
    subst e
    exact ha.imp Nat.le_of_ble_eq_true any_beq.1
   | succ k=>exact h1 k o (by simpa using e)
  ·cases k with
   | zero=>
    simp only [List.getElem?_cons_zero,zI] at e
    subst e
    cases k' with
    | zero=>rfl
    | succ k'=>exact (ZV k' (by simpa using e')).elim
   | succ k=>
    cases k' with
    | zero=>
     simp only [List.getElem?_cons_zero,zI] at e'
     subst e'
     exact (ZV k (by simpa using e)).elim
    | succ k'=>rw [h2 k k' o (by simpa using e) (by simpa using e')]
structure qc (H:LH) (E:CP) (ds:List Nat) (F:Tr A) (h:Go.Bm.H):Prop where
 slot:∀i,VP h.aQ (aT F.get i)
 mem:∀i x,et h.t i=some x→CA h.aQ x
 top:h.aQ+H.m≤cb
 ZY:∀b∈E.bs++E.cs,b<h.aQ
 del:∀b∈E.cu,b<h.aQ
 dsl:∀b∈ds,b<h.aQ
 apart:∀b∈E.bs++E.cs,b∉E.cu
 loop:∀q∈E.qs,z8 h.t q=true∧q∉E.cu++(E.bs++E.cs)
 g4:∀r,cA H.g4 r=true→∃x,bl h.rg r=some x
theorem uq {H:LH} {E:CP} {ds:List Nat} {F:Tr A} {h:Go.Bm.H} (k:w5 H E ds F h=true):qc H E ds F h:=by
 unfold w5 at k
 rw [zC,zC,zC,zC,zC,zC,zC,zC] at k
 obtain ⟨⟨⟨⟨⟨⟨⟨⟨k1,k2⟩,k3⟩,k4⟩,k5⟩,k6⟩,k7⟩,k9⟩,k8⟩:=k
 rw [List.all_eq_true] at k4 k5 k6 k7 k8 k9
 refine ⟨zf k1,fun i x e=>?_,Nat.le_of_ble_eq_true k3,fun b hb=>aU (k4 b hb),fun b hb=>aU (k5 b hb),fun b hb=>aU (k6 b hb),fun b hb hd=>?_,fun q hq=>?_,fun r hr=>?_⟩
 ·unfold et at e
  split at e
  ·rename_i m hm
   cases e
   exact DD (lz k2 i m hm)
  ·cases e
 ·have:=k7 b hb
  rw [any_beq.2 hd] at this;cases this
 ·have:=k9 q hq
  rw [zC] at this
  refine ⟨this.1,fun hm=>?_⟩
  have h2:=this.2
  rw [any_beq.2 hm] at h2;cases h2
 ·obtain ⟨p,p1,p2⟩:=List.any_eq_true.1 hr
  have:=k8 p p1
  rw [beq_eq p2] at this
  exact Option.isSome_iff_exists.1 this
theorem wb {t:Tr fu} {q:Nat} (h:z8 t q=true):et t q=some (.cl (.loop .ready none)):=by
 unfold z8 at h
 split at h
 ·rename_i hq;unfold et;rw [hq];rfl
 ·cases h
section
variable {H:LH} {j_ JV:List Nat} {E:CP} {Fe:Tr A} {he:Go.Bm.H} {s:H.S} {Fc:Tr A} {hc:Go.Bm.H}
theorem sO {aS:Nat→Option Ob→Prop}:∀(l:List ((Nat×Option Nat)×Ty)) (bs:List Nat) (x:js (l.map fun p=>(false,p.2))),(∀b∈bs,∀ob,aS b ob)→Ci aS l bs x
 | [],_,_,_=>trivial
 | _::_,[],_,_=>trivial
 | p::l,b::bs,x,h=>⟨h b (.head _) _,sO l bs x.2 (fun b hb=>h b (.tail _ hb))⟩
theorem sM {aS:Nat→Option Ob→Prop} {m:Nat}:∀(l:List (Nat×Ty)) (j:Nat) (x:js (l.map fun p=>(false,Ty.aH p.2))),j+l.length≤m→(∀i,j≤i→i<m→∀ob,aS i ob)→Cg aS l j x
 | [],_,_,_,_=>trivial
 | p::l,j,x,hm,h=>by
  have hm:j+(l.length+1)≤m:=hm
  exact ⟨h j (Nat.le_refl _) (by omega) _,sM l (j+1) x.2 (by omega) (fun i h1 h2=>h i (by omega) h2)⟩
theorem sL {aS:Nat→Option Ob→Prop} {m:Nat}:∀(ks:List (Bool×Ty)) (x:js (Hf ks)) (j:Nat),j+mr ks≤m→(∀i,j≤i→i<m→∀ob,aS i ob)→yB aS ks x j
 | [],_,_,_,_=>trivial
 | (true,_)::l,x,j,hm,h=>by
  have hm:j+(mr l+1)≤m:=hm
  exact ⟨h j (Nat.le_refl _) (by omega) _,sL l x.2 (j+1) (by omega) (fun i h1 h2=>h i (by omega) h2)⟩
 | (false,_)::l,x,j,hm,h=>sL l x.2 j hm h
theorem sN {aS:Nat→Option Ob→Prop} {m:Nat}:∀(l:List ((Nat×Option Nat)×List (Bool×Ty))) (bs:List Nat) (j:Nat) (x:CB l),j+oe l≤m→(∀b∈bs,∀ob,aS b ob)→(∀i,j≤i→i<m→∀ob,aS i ob)→Ch aS l bs j x
 | [],_,_,_,_,_,_=>trivial
 | _::_,[],_,_,_,_,_=>trivial
 | p::l,b::bs,j,x,hm,hb,h=>by
  have hm:j+(mr p.2+oe l)≤m:=hm
  exact ⟨hb b (.head _) _,sL p.2 x.1 j (by omega) h,sN l bs _ x.2 (by omega) (fun b G4=>hb b (.tail _ G4)) (fun i h1 h2=>h i (by omega) h2)⟩
theorem pq (EO:qc H E JV Fe he) (J:nq H j_ E Fe he s Fc hc):(∀i,i<he.aQ→i∉E.cu++(E.bs++E.cs)→(hp hc).ob i=(hp he).ob i) ∧
  (∀i,¬i<cb→cA H.g4 (kN i)=false→(hp hc).ob i=(hp he).ob i∧((hp hc).fr i↔(hp he).fr i)) ∧
  ∀i,wt (jT H he.aQ E) i=false→(hp hc).ob i=(hp he).ob i∧((hp hc).fr i↔(hp he).fr i):=by
 have QW:=EO.top
 have hm:H.m=H.grow.length+oe H.uz:=rfl
 have GY:∀i,i∉E.cu++(E.bs++E.cs)→(∀k,k<H.m→i≠he.aQ+k)→et hc.t i=et he.t i:=fun i h1 h2=>by
  have QK:∀b∈E.bs++E.cs,∀ob,b∉E.cu++(E.bs++E.cs)→(∀k,k<H.m→b≠he.aQ+k)→ob=et he.t b:=fun b hb ob hn=>absurd (zS _ hb) hn
  have zw:∀i,he.aQ≤i→i<he.aQ+H.m→∀ob,i∉E.cu++(E.bs++E.cs)→(∀k,k<H.m→i≠he.aQ+k)→ob=et he.t i:=fun i q1 q2 ob _ hn=>absurd (show i=he.aQ+(i-he.aQ) by omega) (hn (i-he.aQ) (by omega))
  exact J.t (fun i ob=>i∉E.cu++(E.bs++E.cs)→(∀k,k<H.m→i≠he.aQ+k)→ob=et he.t i) (fun i hi hn=>absurd hi hn) (fun i _ _ _=>rfl)
   (sO _ _ _ (fun b hb=>QK b (zQ _ hb))) (sN (m:=he.aQ+H.m) _ _ _ _ (by omega) (fun b hb=>QK b (zS _ hb)) (fun i q1 q2=>zw i (by omega) q2)) (sM (m:=he.aQ+H.m) _ _ _ (by omega) zw) i h1 h2
 have dq:∀i,¬i<cb→cA H.g4 (kN i)=false→(hp hc).ob i=(hp he).ob i∧((hp hc).fr i↔(hp he).fr i):=fun i hl hk=>by
  rw [(dS hl).1,(dS hl).2,(dS hl).1,(dS hl).2]
  unfold cV eV
  rw [J.rg,ke _ _ _ EO.g4,hk,if_neg (by simp)]
  exact ⟨rfl,Iff.rfl⟩
 refine ⟨fun i h1 h2=>?_,dq,fun i hw=>?_⟩
 ·have hl:i<cb:=by omega
  show (if i<cb then et hc.t i else _)=(if i<cb then et he.t i else _)
  rw [if_pos hl,if_pos hl]
  exact GY i h2 (fun k _=>by omega)
 ·have hw:(((E.bs++E.cs).map cE++E.cu.map cE)++((List.range H.m).map (fun k=>cE (he.aQ+k))++H.g4.map fun p=>gB p.1)).any (Nat.beq (res i))=false:=hw
  rw [List.any_append,List.any_append,List.any_append] at hw
  simp only [Bool.or_eq_false_iff] at hw
  obtain ⟨⟨w1,w2⟩,w3,w4⟩:=hw
  by_cases hl:i<cb
  ·have Zr:∀l:List Nat,(l.map cE).any (Nat.beq (res i))=false→i∉l:=fun l h hm=>by
    rw [any_beq.2 (by rw [lB hl];exact List.mem_map.2 ⟨i,hm,rfl⟩)] at h;cases h
   have n3:∀k,k<H.m→i≠he.aQ+k:=fun k hk e=>by
    rw [any_beq.2 (by rw [lB hl,e];exact List.mem_map.2 ⟨k,List.mem_range.2 hk,rfl⟩)] at w3;cases w3
   refine ⟨?_,?_⟩
   ·show (if i<cb then et hc.t i else _)=(if i<cb then et he.t i else _)
    rw [if_pos hl,if_pos hl]
    exact GY i (fun h=>(zX.1 h).elim (Zr _ w2) (Zr _ w1)) n3
   ·show (if i<cb then hc.aQ≤i else _)↔(if i<cb then he.aQ≤i else _)
    rw [if_pos hl,if_pos hl,J.aQ]
    refine ⟨fun h=>by omega,fun h=>?_⟩
    rcases Nat.lt_or_ge i (he.aQ+H.m) with h1 | h1
    ·exact absurd (show i=he.aQ+(i-he.aQ) by omega) (n3 (i-he.aQ) (by omega))
    ·exact h1
  ·refine dq i hl ?_
   rw [nJ hl,sK] at w4
   exact w4
theorem GB {n:Nat} {F':Tr A} {h':Go.Bm.H} {g_:List Nat} {T:Fp} (EO:qc H E JV Fe he) (m6:∀i,he.aQ≤i→i<cb→et he.t i=none) (Bo:∀i,i∉j_→aT F'.get i=aT Fe.get i)
  (Oj:∀i,i<he.aQ→i∉E.cu++(E.bs++E.cs++E.qs)→(hp h').ob i=(hp he).ob i) (TM:∀i,¬i<cb→cA H.g4 (kN i)=false→(hp h').ob i=(hp he).ob i∧((hp h').fr i↔(hp he).fr i))
  (D6:yL H n he.aQ E.bs E.cs E.qs E.cu JV F' h' g_ T=some s) (J:nq H j_ E Fe he s Fc hc) {S0:Hp} {g0:G} {w0 w:World} {a:Act} (hf:∀o,he.aQ≤o→o<cb→S0.fr o∧g0.bg o=none)
  (hR:R S0 g0 w0 (dT n F' g_ (hp h')) a w):R S0 g0 w0 (dT n Fc JV (hp hc)) a w:=by
 have QW:=EO.top
 have hm:H.m=H.grow.length+oe H.uz:=rfl
 unfold yL at D6
 obtain ⟨yQ,D5⟩:=af D6
 clear D6
 rw [zC,zC] at yQ
 obtain ⟨⟨_,RA⟩,ZE⟩:=yQ
 rw [List.all_eq_true] at ZE
 obtain rfl:=BP RA
 split at D5
 ·rename_i v gg b ee c hv hg hb hee G3
  obtain ⟨JM,TQ⟩:=af D5
  clear D5
  cases TQ
  obtain ⟨gr,nG⟩:=gg
  obtain ⟨er,nC⟩:=ee
  obtain ⟨n1,n2⟩:=rM JM
  obtain ⟨p1,p2⟩:=Ai _ _ _ hg
  obtain ⟨c1,c2,c3⟩:=wj _ _ _ _ hee
  obtain ⟨g,hI,hE,hD,hs,hV⟩:=hR
  have hV:∀i,i<n→V g (aT F'.get i) (a.tmps.getD i undef):=hV
  have Iy:(nG++nC).length=H.m:=by rw [zY,p1,c1];exact hm.symm
  have GJ:∀(k o:Nat),(nG++nC)[k]?=some (some o)→o<cb:=fun k o e=>by
   by_cases hk:k<nG.length
   ·rw [zK hk] at e;exact zx hg k o e
   ·rw [zJ (by omega)] at e;exact c2 _ o e
  have Uz:∀(k:Nat) (nm:Option Nat),nG[k]?=some nm→(nG++nC)[k]?=some nm:=fun k nm e=>by rw [zK (zB.1 e).1];exact e
  have cap:∀(k:Nat) (nm:Option Nat),nC[k]?=some nm→(nG++nC)[H.grow.length+k]?=some nm:=fun k nm e=>by rw [zJ (by omega),p1,Nat.add_sub_cancel_left];exact e
  have Ot:∀(k o:Nat),(nG++nC)[k]?=some (some o)→he.aQ≤o∨o∈E.cu:=n1
  have Oq:∀(k k' o:Nat),(nG++nC)[k]?=some (some o)→(nG++nC)[k']?=some (some o)→k=k':=n2
  generalize se:nG++nC=names at Iy GJ Uz cap Ot Oq
  have TY:he.aQ+names.length≤cb:=by rw [Iy];exact QW
  have jG:=Bz he.aQ names g
  have NH:∀(k:Nat) (nm:Option Nat) (z:Nat) (cc:A),names[k]?=some nm→uE z cc nm→∀v,V g cc v→V (gj he.aQ names g) (.tw (.loc (he.aQ+k)) z) v:=fun k nm z cc e CG v TF=>by
   cases nm with
   | some o=>
    have CG:cc = .tw (.loc o) z:=CG
    rw [CG] at TF
    have bG:(gj he.aQ names g).bg (he.aQ+k)=g.bg o:=uc e TY
    cases TF with
    | qE _ _ ad h1=>exact .qE (.loc (he.aQ+k)) z ad (bG.trans h1)
    | tw _ _ m b cap t h1 hn hx hp d hd=>exact .tw (.loc (he.aQ+k)) z m b cap t (bG.trans h1) hn hx hp d hd
   | none=>
    obtain ⟨ad,h1⟩:=CG g _ TF
    rw [h1]
    exact .qE (.loc (he.aQ+k)) z ad (uc e TY)
  have NI:∀(k:Nat) (nm:Option Nat) (t:Ty) (l:List t.T),names[k]?=some nm→Ck t h'.t l nm→∀x,some (Ob.cells (l.flatMap (aA t)))=some x→(he.aQ+k<he.aQ→(((hp h').ob (he.aQ+k)=some x∧CA he.aQ x)∨∃cs gz,(hp h').ob (he.aQ+k)=some (.cells cs)∧x = .cells gz∧gz.length=cs.length∧∀vs,Vs g cs vs→Vs (gj he.aQ names g) gz vs)) ∧
    (he.aQ≤he.aQ+k→he.aQ+k<cb→∃k' nm,he.aQ+k=he.aQ+k'∧names[k']?=some nm∧(∀o,nm=some o→(hp h').ob o=some x∧CA he.aQ x)∧(nm=none→x = .cells [])):=fun k nm t l e Be x hx=>by
   cases hx
   refine ⟨fun fp=>by omega,fun _ fp=>⟨k,nm,rfl,e,fun o ho=>?_,fun ho=>?_⟩⟩
   ·subst ho
    have Be:o<cb∧et h'.t o=some (.cells (l.flatMap (aA t))):=Be
    refine ⟨?_,fun c hc=>by obtain ⟨y,_,hy⟩:=List.mem_flatMap.1 hc;exact gZ t y c hy⟩
    show (if o<cb then _ else _)=_
    rw [if_pos Be.1];exact Be.2
   ·subst ho
    have Be:l=[]:=Be
    subst Be;rfl
  have dI:∀i,i<cb→(hp h').ob i=et h'.t i:=fun i hi=>if_pos hi
  have iK:=p2 (fun i c=>i<n→V (gj he.aQ names g) c (a.tmps.getD i undef)) (fun i ob=>∀x,ob=some x→(i<he.aQ→(((hp h').ob i=some x∧CA he.aQ x)∨∃cs gz,(hp h').ob i=some (.cells cs)∧x = .cells gz∧gz.length=cs.length∧∀vs,Vs g cs vs→Vs (gj he.aQ names g) gz vs))∧(he.aQ≤i→i<cb→∃k nm,i=he.aQ+k∧names[k]?=some nm∧(∀o,nm=some o→(hp h').ob o=some x∧CA he.aQ x)∧(nm=none→x = .cells []))) he.aQ
   (fun k nm i z e hi CG _=>NH k nm z _ (Uz k nm e) CG _ (hV i hi)) (fun k nm t l e Be=>NI k nm t l (Uz k nm e) Be)
  have hF:=J.F (fun i c=>i<n→V (gj he.aQ names g) c (a.tmps.getD i undef)) (fun i _ _=>.b8 _)
   (fun i hi hn=>by
    have:=hV i hn
    rw [Bo i hi] at this
    exact EO.slot i g _ _ jG this)
   (Ah (fun i ag t x hi hx _=>mS ag t x g _ _ jG (iO hx (hV i hi))) _ _ hv) iK.1
  have hT:=J.t _ (fun i _ x hx=>by cases hx)
   (fun i hi x hx=>by
    refine ⟨fun fp=>.inl ?_,fun h1 h2=>by rw [m6 i h1 h2] at hx;cases hx⟩
    have he1:(hp h').ob i=et he.t i:=by
     by_cases hq:i∈E.qs
     ·rw [dI i (by omega),wb (ZE i hq),wb (EO.loop i hq).1]
     ·rw [Oj i fp (fun h=>by
       rcases zX.1 h with h | h
       ·exact hi (zQ _ h)
       ·rcases zX.1 h with h | h
        ·exact hi (zS _ h)
        ·exact hq h)]
      exact if_pos (by omega)
    exact ⟨he1.trans hx,EO.mem i x hx⟩)
   (Ak (tt:=h'.t) _ _ _ (fun b t y Us Ur x hx=>by
    cases hx
    have fp:=EO.ZY b (zQ _ Us)
    exact ⟨fun _=>.inl ⟨by rw [dI b (by omega)];exact Ur,gZ t y⟩,fun h=>by omega⟩) hb)
   (c3 he.aQ g (gj he.aQ names g) (he.aQ+H.grow.length) _ jG (fun k nm z cc e CG v hv=>by have:=NH (H.grow.length+k) nm z cc (cap k nm e) CG v hv;rwa [←Nat.add_assoc] at this) (fun k nm t l e Be=>by have:=NI (H.grow.length+k) nm t l (cap k nm e) Be;rwa [←Nat.add_assoc] at this)
    (fun b cs gz Us Ur hl hcv x hx=>by
     cases hx
     have fp:=EO.ZY b (zS _ Us)
     exact ⟨fun _=>.inr ⟨cs,gz,by rw [dI b (by omega)];exact Ur,rfl,hl,hcv⟩,fun h=>by omega⟩)) iK.2
  have hDl:∀i,i∈E.cu→et hc.t i=none:=fun i hi=>by
   have zw:∀i,he.aQ≤i→i<he.aQ+H.m→∀ob:Option Ob,i∈E.cu→ob=none:=fun i q1 _ ob hn=>by have:=EO.del _ hn;omega
   have QK:∀b∈E.bs++E.cs,∀ob:Option Ob,b∈E.cu→ob=none:=fun b hb ob hn=>absurd hn (EO.apart b hb)
   exact J.t (fun i ob=>i∈E.cu→ob=none) (fun _ _ _=>rfl) (fun i hn hd=>absurd (zQ _ hd) hn) (sO _ _ _ (fun b hb=>QK b (zQ _ hb))) (sN (m:=he.aQ+H.m) _ _ _ _ (by omega) (fun b hb=>QK b (zS _ hb)) (fun i q1 q2=>zw i (by omega) q2)) (sM (m:=he.aQ+H.m) _ _ _ (by omega) zw) i hi
  have OC:=jZ _ _ _ G3
  have ZU:∀i,¬i<cb→(hp hc).ob i=(hp h').ob i∧((hp hc).fr i↔(hp h').fr i):=fun i hl=>by
   cases hk:cA H.g4 (kN i) with
   | true=>
    obtain ⟨q1,_⟩:=OC _ hk
    rw [(dS hl).1,(dS hl).2,(dS hl).1,(dS hl).2]
    unfold cV eV
    rw [J.rg,ke _ _ _ EO.g4,hk,if_pos rfl,q1]
    exact ⟨rfl,Iff.rfl⟩
   | false=>
    have e1:=(pq EO J).2.1 i hl hk
    have e2:=TM i hl hk
    exact ⟨e1.1.trans e2.1.symm,e1.2.trans e2.2.symm⟩
  have IE:∀i,i<cb→(hp hc).ob i=et hc.t i:=fun i hi=>if_pos hi
  have wQ:∀{i},¬stay he.aQ i→he.aQ≤i∧i<cb:=fun {i} h=>by unfold stay at h;omega
  have ZD:=HE (S':=hp hc) TY (fun i x hi e=>?_) (fun i x hi e=>?_) Oq (fun k o e hi=>?_) (fun i e=>⟨fun hi=>?_,fun hi=>?_⟩) hf hI hE
  ·refine ⟨_,ZD.1,ZD.2,⟨hD.1,fun i d e e1 e2=>?_⟩,hs,fun i hi=>hF i hi⟩
   have Uk:=EO.dsl d (zG e1)
   refine ⟨fun hd=>?_,fun hd=>absurd hd (by have:cb=16777216:=rfl;omega)⟩
   obtain ⟨b',s',q1,q2⟩:=(hD.2 i d e e1 e2).1 hd
   exact ⟨b',s',(jG.bg d (.inl Uk)).trans q1,q2⟩
  ·rcases hi with hi | hi
   ·rw [IE i (by omega)] at e
    exact (hT i x e).1 hi
   ·refine .inl ⟨(ZU i hi).1.symm.trans e,?_⟩
    rw [(dS hi).1] at e
    unfold cV at e
    split at e
    ·exact z7 e
    ·cases e
  ·obtain ⟨h1,h2⟩:=wQ hi
   rw [IE i h2] at e
   exact (hT i x e).2 h1 h2
  ·have ZG:=GJ k o e
   rcases Ot k o e with h1 | h1
   ·rcases hi with hi | hi
    ·omega
    ·exact absurd ZG hi
   ·rw [IE o ZG];exact hDl o h1
  ·obtain ⟨h1,h2⟩:=wQ hi
   have e:(if i<cb then hc.aQ≤i else _):=e
   rw [if_pos h2,J.aQ] at e
   rw [Iy];exact e
  ·rcases hi with hi | hi
   ·have e:(if i<cb then hc.aQ≤i else _):=e
    rw [if_pos (show i<cb by omega),J.aQ] at e
    omega
   ·exact (ZU i hi).2.1 e
 ·cases D5
end
end
section
open Go.RowKit
theorem Inv.zl {g:G} {S:Hp} {w:World} (h:Inv g S w) {q b:Nat} {s:Nat×Nat} {st CZ:LoopState} {pe HM:Option Code} {rr:Loop} (ho:S.ob q=some (.cl (.loop st pe))) (hg:g.bg q=some (some b,s)) (hr:w.heap[b]?=some (.loop rr)) :
  Inv g (S.set q (.cl (.loop CZ HM))) (w.putObj b (.loop { rr with state:=CZ,pending:=HM }))∧Ext S g w (S.set q (.cl (.loop CZ HM))) g (w.putObj b (.loop { rr with state:=CZ,pending:=HM })):=by
 have hb:b<w.heap.size:=(Array.getElem?_eq_some_iff.1 hr).1
 refine h.y0 ho hg (by simp) (fun k hk=>World.putObj_heap_other hk) rfl rfl rfl ⟨_,World.putObj_heap_same hb,_,rfl,rfl,rfl⟩ (fun l e=>⟨_,World.putObj_heap_same hb,?_⟩)
 obtain ⟨r,k1,k2⟩:=h.lp b l e
 rw [hr] at k1
 cases k1
 exact k2
theorem Inv.N3 {g:G} {S:Hp} {w:World} (h:Inv g S w) {q:Nat} (hf:S.fr q) (rr:Loop) :
  ∃g',Inv g' (S.new q (.cl (.loop rr.state rr.pending))) (w.alloc (.loop rr))∧Ext S g w (S.new q (.cl (.loop rr.state rr.pending))) g' (w.alloc (.loop rr))∧g'.bg q=some (some w.heap.size,(0,0))∧g'.lp w.heap.size=some (rR rr):=by
 obtain ⟨i1,x1⟩:=h.alloc (s:=(0,0)) hf (x:=.cl (.loop rr.state rr.pending)) (ob:=.loop rr) ⟨_,heap_alloc_new w _,rr,rfl,rfl,rfl⟩
 have GW:(iu g q (some w.heap.size,(0,0))).lp w.heap.size=none:=by
  cases hl:(iu g q (some w.heap.size,(0,0))).lp w.heap.size with
  | none=>rfl
  | some l=>
   obtain ⟨r,k1,_⟩:=h.lp _ l hl
   have:=(Array.getElem?_eq_some_iff.1 k1).1
   omega
 have bG:=bU (g:=g) (o:=q) (p:=(some w.heap.size,(0,0)))
 generalize iu g q (some w.heap.size,(0,0))=g1 at i1 x1 GW bG
 have hle:Le g1 ⟨g1.bg,g1.mem,fun k=>if k=w.heap.size then some (rR rr) else g1.lp k⟩:=⟨fun _ _ e=>e,fun _ _ _ e=>e,fun b l e=>by
  show (if b=w.heap.size then _ else g1.lp b)=some l
  split
  ·rename_i hb;rw [hb,GW] at e;cases e
  ·exact e⟩
 refine ⟨⟨g1.bg,g1.mem,fun k=>if k=w.heap.size then some (rR rr) else g1.lp k⟩,⟨fun o cs e=>(i1.cells o cs e).imp id fun ⟨b,t,k1,cur,ty,k2,k3,k4⟩=>⟨b,t,k1,cur,ty,k2,k3,k4.mono hle⟩,fun o x e=>?_,i1.fresh,i1.lt,i1.inj,i1.mem,i1.kh,fun b l e=>?_⟩,⟨x1.le.trans hle,x1.os,x1.tape,x1.output,x1.size,x1.frame,fun k ⟨o,s,x,e1,e2⟩=>x1.own k ⟨o,s,x,e1,e2⟩,x1.G6,x1.fr,x1.rP,fun b l e=>?_⟩,bG,if_pos rfl⟩
 ·obtain ⟨b,s,ob,k1,k2,k3⟩:=i1.cl o x e
  exact ⟨b,s,ob,k1,k2,k3.mono hle⟩
 ·have e:(if b=w.heap.size then some (rR rr) else g1.lp b)=some l:=e
  split at e
  ·rename_i hb;cases e;exact ⟨rr,by rw [hb];exact heap_alloc_new w _,rfl⟩
  ·exact i1.lp b l e
 ·have e:(if b=w.heap.size then some (rR rr) else g1.lp b)=some l:=e
  split at e
  ·rename_i hb;exact .inr (by omega)
  ·exact x1.lpo b l e
section
variable {β:Type}
theorem v7 {h:H} {q:Nat} {x:fu} {t':Tr fu} (hq:q<16777216) (ht:t'.get=fun m=>if m=q then some x else h.t.get m):lV h { h with t:=t' } (.wr [cE q])∧∀S,Agree (.wr [cE q]) (hp h) S→gL (.wr [cE q]) (hp { h with t:=t' }) S=S.set q x.low:=by
 have e:=nS (h:=h) (x:=x) hq ht
 have hT:∀u∈[Up.set q x.low],aF (.wr [cE q]) u.id=true:=fun u hu=>by rcases zF.1 hu with rfl;exact aB (o:=q) hq (.head _)
 have out:∀i,aF (.wr [cE q]) i=false→(hp { h with t:=t' }).ob i=(hp h).ob i∧((hp { h with t:=t' }).fr i↔(hp h).fr i):=fun i hi=>by
  rw [e];exact ct _ _ i (fun u hu hh=>by rw [hh,hT u hu] at hi;cases hi)
 exact ⟨⟨out,fun i hi=>out i (qD hi)⟩,fun S hA=>by rw [e,fS hT hA];rfl⟩
theorem w7 {h:H} {q:Nat} {t':Tr fu} (hq:q<16777216) (ht:t'.get=fun m=>if m=q then none else h.t.get m):lV h { h with t:=t' } (.wr [cE q])∧∀S,Agree (.wr [cE q]) (hp h) S→gL (.wr [cE q]) (hp { h with t:=t' }) S=S.del q:=by
 have e:hp { h with t:=t' }=app [.del q] (hp h):=Hp.ext' (fun i=>by
  show (if i<cb then et t' i else _)=if i=q then none else (if i<cb then et h.t i else _)
  unfold et
  rw [ht]
  by_cases hi:i=q
  ·subst hi;rw [if_pos (show i<cb from hq),if_pos rfl];simp
  ·simp only [if_neg hi]) (fun i=>Iff.rfl)
 have hT:∀u∈[Up.del q],aF (.wr [cE q]) u.id=true:=fun u hu=>by rcases zF.1 hu with rfl;exact aB (o:=q) hq (.head _)
 have out:∀i,aF (.wr [cE q]) i=false→(hp { h with t:=t' }).ob i=(hp h).ob i∧((hp { h with t:=t' }).fr i↔(hp h).fr i):=fun i hi=>by
  rw [e];exact ct _ _ i (fun u hu hh=>by rw [hh,hT u hu] at hi;cases hi)
 exact ⟨⟨out,fun i hi=>out i (qD hi)⟩,fun S hA=>by rw [e,fS hT hA];rfl⟩
theorem wz {h:H} {x:fu} {t':Tr fu} (hq:h.aQ<16777216) (ht:t'.get=fun m=>if m=h.aQ then some x else h.t.get m):lV h { h with t:=t',aQ:=h.aQ+1 } (.wr [cE h.aQ])∧∀S,Agree (.wr [cE h.aQ]) (hp h) S→gL (.wr [cE h.aQ]) (hp { h with t:=t',aQ:=h.aQ+1 }) S=S.new h.aQ x.low:=by
 have e:=Bg (h:=h) (x:=x) hq ht
 have hT:∀u∈[Up.new h.aQ x.low],aF (.wr [cE h.aQ]) u.id=true:=fun u hu=>by rcases zF.1 hu with rfl;exact aB (o:=h.aQ) hq (.head _)
 have out:∀i,aF (.wr [cE h.aQ]) i=false→(hp { h with t:=t',aQ:=h.aQ+1 }).ob i=(hp h).ob i∧((hp { h with t:=t',aQ:=h.aQ+1 }).fr i↔(hp h).fr i):=fun i hi=>by
  rw [e];exact ct _ _ i (fun u hu hh=>by rw [hh,hT u hu] at hi;cases hi)
 exact ⟨⟨out,fun i hi=>out i (qD hi)⟩,fun S hA=>by rw [e,fS hT hA];rfl⟩
theorem Ic {h:H} {q:Nat} {x:fu} (hq:q<16777216) (hx:h.t.get q=some x):(hp h).ob q=some x.low:=by
 show (if q<cb then _ else _)=_
 rw [if_pos (show q<cb from hq)];unfold et;rw [hx]
theorem xf {h:H} {q:Nat} {S:Hp} {x:fu} {l:List Nat} {w:Bool} {s:List Nat} (hq:q<16777216) (hx:h.t.get q=some x) (hA:Agree ⟨false,l,w,s⟩ (hp h) S) (hm:cE q∈l):S.ob q=some x.low:=(hA q (aB hq hm)).1.trans (Ic hq hx)
def A0:Option Code→Option Exit
 | none=>some .normal
 | some .ret=>some .ret
 | some (.exit id)=>some (.exit id)
 | _=>none
def Im:LoopState→Bool
 | .busy=>true
 | _=>false
def NJ:Exit→Option (Option Code)
 | .normal=>some none
 | .ret=>some (some .ret)
 | .exit id=>some (some (.exit id))
 | _=>none
def zy:Option Code→LoopState
 | none=>.ready
 | some _=>.done
theorem AZ {pe:Option Code} {e:Exit} (h:A0 pe=some e):(pe=none∧e = .normal)∨(pe=some .ret∧e = .ret)∨∃id,pe=some (.exit id)∧e = .exit id:=by
 unfold A0 at h
 split at h
 ·cases h;exact .inl ⟨rfl,rfl⟩
 ·cases h;exact .inr (.inl ⟨rfl,rfl⟩)
 ·cases h;exact .inr (.inr ⟨_,rfl,rfl⟩)
 ·cases h
def uY:Tr A→List Tmp→List A→(Tr A→Option β)→Option β
 | F,[],[],k=>k F
 | F,t::ts,a::aa,k=>dK F t (some a) (fun F=>uY F ts aa k)
 | _,_,_,_=>none
theorem qL {r:β}:∀(ps:List Tmp) (aa:List A) (F:Tr A) (k:Tr A→Option β),uY F ps aa k=some r→∃F1,k F1=some r∧aa.length=ps.length∧∀(g:G) (n:Nat) (vs:List Value) (tmps:Array Value),aa.length=vs.length→(∀(i:Nat) (p:A) (v:Value),aa[i]?=some p→vs[i]?=some v→V g p v)→tmps.size=n→(∀i,i<n→V g (aT F.get i) (tmps.getD i undef)) →
  ((ps.zip vs).foldl (fun tmps x=>tmps.setIfInBounds x.1 x.2) tmps).size=n∧∀i,i<n→V g (aT F1.get i) (((ps.zip vs).foldl (fun tmps x=>tmps.setIfInBounds x.1 x.2) tmps).getD i undef)
 | [],[],F,k,h=>⟨F,h,rfl,fun g n vs tmps hl hv hs hF=>⟨by simpa using hs,by simpa using hF⟩⟩
 | t::ts,a::aa,F,k,h=>by
  obtain ⟨_,F',k1,k2⟩:=bh h
  obtain ⟨F1,q1,q2,q3⟩:=qL ts aa F' k k1
  refine ⟨F1,q1,by simp [q2],fun g n vs tmps hl hv hs hF=>?_⟩
  cases vs with
  | nil=>simp at hl
  | cons v vs=>
   refine q3 g n vs (tmps.setIfInBounds t v) (by simpa using hl) (fun i p v k1 k2=>hv (i+1) p v (by simpa using k1) (by simpa using k2)) (by simpa using hs) (fun i hi=>?_)
   rw [mJ k2]
   by_cases Ud:i=t
   ·subst Ud
    rw [if_pos rfl,show (tmps.setIfInBounds i v).getD i undef=v by simp [Array.getD,show i<tmps.size by omega]]
    exact hv 0 a v rfl rfl
   ·rw [if_neg Ud,show (tmps.setIfInBounds t v).getD i undef=tmps.getD i undef by
     simp only [Array.getD_eq_getD_getElem?]
     rw [Array.getElem?_setIfInBounds_ne (fun h=>Ud h.symm)]]
    exact hF i hi
 | [],_::_,_,_,h=>by cases h
 | _::_,[],_,_,h=>by cases h
theorem N8 {g:G} {fi ca:List A} {x:A} {fv cv:List Value} {v:Value} (hf:fi.length=fv.length) (h1:∀(i:Nat) (c:A) (x:Value),fi[i]?=some c→fv[i]?=some x→V g c x) (hx:V g x v) (h2:∀(i:Nat) (c:A) (x:Value),ca[i]?=some c→cv[i]?=some x→V g c x) :
  ∀(i:Nat) (p:A) (u:Value),(fi++x::ca)[i]?=some p→(fv++v::cv)[i]?=some u→V g p u:=by
 intro i p u k1 k2
 rcases Nat.lt_trichotomy i fi.length with c1 | c1 | c1
 ·rw [zK c1] at k1
  rw [zK (by omega)] at k2
  exact h1 i p u k1 k2
 ·rw [zJ (by omega)] at k1 k2
  rw [c1,Nat.sub_self] at k1
  rw [c1,hf,Nat.sub_self] at k2
  simp at k1 k2;subst k1 k2;exact hx
 ·rw [zJ (by omega)] at k1 k2
  rw [←hf] at k2
  obtain ⟨d,hd⟩:∃d,i-fi.length=d+1:=⟨i-fi.length-1,by omega⟩
  rw [hd] at k1 k2
  exact h2 d p u (by simpa using k1) (by simpa using k2)
end
end
section
open Go.RowKit
section
variable {P:Program} {E:Env} {cx:Cx} {n:Nat} {β:Type} {r:β}
abbrev KC (β:Type):=Exit→Tr A→H→List Nat→Fp→Option β
def Hz (K1:Tr A→H→List Nat→Fp→Option β) (K:KC β):KC β:=fun e F h ds U=>match e with
 | .normal=>K1 F h ds U
 | e=>K e F h ds U
def W4 (id:Nat) (K:KC β):KC β:=fun e F h ds U=>match e with
 | .exit i=>bif Nat.beq i id then K .normal F h ds U else K (.exit i) F h ds U
 | e=>K e F h ds U
def scC (K:KC β):KC β:=fun e F h ds U=>match e with
 | .goto _=>none
 | e=>K e F h ds U
def Je (n:Nat) (F:Tr A) (c:Operand) (k:Tr A→Bool→Option β):Option β:=match c with
 | .tmp d=>match wv n F (.tmp d) with
  | .v (.bool b)=>br b (dK F d (some (.v (.bool true))) (fun F'=>k F' true)) (dK F d (some (.v (.bool false))) (fun F'=>k F' false))
  | _=>none
 | .const (.bool b)=>k F b
 | _=>none
theorem Ez {F:Tr A} {c:Operand} {k:Tr A→Bool→Option β} (h:Je n F c k=some r):∃F' b,k F' b=some r∧(∀ds S,dT n F' ds S=dT n F ds S)∧wv n F c = .v (.bool b):=by
 unfold Je at h
 split at h
 ·rename_i d
  split at h
  ·rename_i b hb
   have same:∀(F':Tr A) (c:Bool),b=c→F'.get=(fun m=>if m=d then some (.v (.bool c)) else F.get m)→∀ds S,dT n F' ds S=dT n F ds S:=fun F' c hc e ds S=>by
    have:aT F'.get=aT F.get:=by
     funext i
     by_cases hi:i=d
     ·subst hi
      rw [wu hb (by intro h;cases h),hc]
      unfold aT
      rw [e];simp
     ·unfold aT
      rw [e];simp [hi]
    unfold dT
    rw [this]
   rcases nZ h with ⟨rfl,h1⟩ | ⟨rfl,h1⟩
   ·obtain ⟨_,F',k1,k2⟩:=bh h1
    exact ⟨F',true,k1,same F' true rfl k2,hb⟩
   ·obtain ⟨_,F',k1,k2⟩:=bh h1
    exact ⟨F',false,k1,same F' false rfl k2,hb⟩
  ·cases h
 ·rename_i b
  exact ⟨F,b,h,fun ds S=>rfl,rfl⟩
 ·cases h
def kB:av→List Nat
 | .region _ ops _=>oD ops
 | .seq x y=>kB x++kB y
 | .cut H x y=>(kB x++(H.l_.map (·.1)++H.grow.map (·.1)))++kB y
 | .cond _ x y=>kB x++kB y
 | .block _ x=>kB x
 | .scope x=>kB x
 | .loop H x=>kB x++(H.l_.map (·.1)++H.grow.map (·.1))
 | .IL l x=>l.map (·.1)++kB x
 | _=>[]
def vh {σ:Type} (pj:Tr A→H→List Nat→Fp→Option σ) (k:σ→Option β) (K:KC β):KC β:=fun e F h ds T=>match e with
 | .normal=>(match pj F h ds T with
  | some s=>k s
  | none=>none)
 | e=>K e F h ds T
def yz (U:Fp) (K:KC β):KC β:=fun e F h ds T=>K e F h ds (U.cat T)
abbrev J1 (β:Type):=Nat→List Oper→Tr A→H→Fp→(Tr A→H→Fp→Option β)→Option β
def vX (J:LH):Option Nat:=match J.loops with
 | [k]=>bif Nat.ble 1000000 k then some (k-1000000) else none
 | _=>none
def JW:List Oper→Option (Nat×Nat×Nat)
 | [o1,o2]=>match o1.op,o1.dst,o1.guard,o2.op,o2.guard,o2.dst with
  | .move (.tmp s),some a,none,.defer c,none,none=>match c.callee,c.args.toList with
   | .value (.func f),[.tmp b]=>bif Nat.beq a b then some (s,a,f) else none
   | _,_=>none
  | _,_,_,_,_,_=>none
 | _=>none
def RJ {β:Type} (n:Nat) (x:Nat×Nat×Nat) (F:Tr A) (h:H) (ds:List Nat) (U:Fp) (K:Tr A→H→List Nat→Fp→Option β):Option β:=match aT F.get x.1 with
 | .ptr q off=>bif Nat.beq off 0 && Nat.blt q 16777216 && Nat.blt x.1 n && Nat.blt x.2.1 n then dK F x.2.1 (some (.ptr q 0)) (fun F1=>K F1 h ((q+16777216*(x.2.2+1))::ds) U) else none
 | _=>none
def RG {β:Type} (n:Nat):List (Nat×Ty)→Tr A→H→List Nat→(Tr A→H→List Nat→Option β)→Option β
 | [],F,h,T,k=>k F h T
 | p::l,F,h,T,k=>bif Nat.blt p.1 n then (match BI false p.2 (aT F.get p.1) h with
  | some (v,h',T')=>dK F p.1 (some v) (fun F'=>RG n l F' h' (T++T') k)
  | none=>none) else none
theorem BC {β:Type} {n:Nat} {r:β} {k:Tr A→H→List Nat→Option β}:∀(l:List (Nat×Ty)) (F:Tr A) (h:H) (T:List Nat),RG n l F h T k=some r →
  ∃F' h' T',k F' h' (T++T')=some r∧Kp (l.map (·.1)) F F'∧lV h h' (Fp.wr T')∧∀S0 g0 w0 ds S2 a w,Agree (Fp.wr T') (hp h) S2→R S0 g0 w0 (dT n F ds S2) a w→R S0 g0 w0 (dT n F' ds (gL (Fp.wr T') (hp h') S2)) a w
 | [],F,h,T,hr=>⟨F,h,[],by rw [List.append_nil];exact hr,.refl _ F,⟨fun _ _=>⟨rfl,Iff.rfl⟩,fun _ _=>⟨rfl,Iff.rfl⟩⟩,fun S0 g0 w0 ds S2 a w hA hR=>by
  have:gL (Fp.wr []) (hp h) S2=S2:=fS (us:=[]) (fun u hu=>by cases hu) hA
  rw [this];exact hR⟩
 | p::l,F,h,T,hr=>by
  obtain ⟨Oo,hr⟩:=af (show (bif Nat.blt p.1 n then _ else none)=some r from hr)
  have Oo:=aU Oo
  split at hr
  ·rename_i v h1 T1 hf
   obtain ⟨_,F1,hr,sd⟩:=bh hr
   obtain ⟨us,c1,c2,c3⟩:=sy hf
   obtain ⟨F',h',T2,q1,q2,q3,q4⟩:=BC l F1 h1 (T++T1) hr
   have f1:lV h h1 (Fp.wr T1):=⟨fun i hi=>by rw [c1];exact ct us _ i (fun u hu e=>by rw [e,c2 u hu] at hi;cases hi),fun i hi=>by
    rw [c1];exact ct us _ i (fun u hu e=>by
     have:=c2 u hu
     rw [←e] at this
     exact absurd hi (by
      unfold aF at this
      unfold wt
      simpa [Fp.wr] using this))⟩
   refine ⟨F',h',T1++T2,by rw [←List.append_assoc];exact q1,?_,f1.trans q3,fun S0 g0 w0 ds S2 a w hA hR=>?_⟩
   ·intro i hi
    have h1:i≠p.1:=fun e=>hi (by rw [e];exact .head _)
    have h2:i∉l.map (·.1):=fun e=>hi (.tail _ e)
    rw [q2 i h2];unfold aT;rw [sd];simp [h1]
   ·have ON:Agree ((Fp.wr T1).cat (Fp.wr T2)) (hp h) S2:=hA
    have e1:gL (Fp.wr T1) (hp h1) S2=app us S2:=by rw [c1];exact fS c2 (by exact ON.left)
    have TR:=eL (T:=Fp.wr T1) (S2:=S2) q3
    have yd:=Agree.right f1 ON
    have OL:R S0 g0 w0 (dT n F1 ds (gL (Fp.wr T1) (hp h1) S2)) a w:=by
     obtain ⟨g,hI,hx,hd,hs,hv⟩:=hR
     rw [e1]
     obtain ⟨g',k1,k2,k3⟩:=c3 g S2 w _ hI ON.left (hv p.1 Oo)
     refine ⟨g',k1,hx.trans k2,hd.mono k2.le,hs,fun i hi=>?_⟩
     show V g' (aT F1.get i) _
     by_cases ZM:i=p.1
     ·subst ZM
      unfold aT;rw [sd];simpa using k3
     ·have:aT F1.get i=aT F.get i:=by unfold aT;rw [sd];simp [ZM]
      rw [this];exact (hv i hi).mono k2.le
    have:=q4 S0 g0 w0 ds _ a w yd OL
    rw [TR] at this
    exact this
  ·cases hr
def pO (E:Env) (cx:Cx) (inr:Bool) (n:Nat) (dr:J1 β):av→Tr A→H→List Nat→Fp→KC β→Option β
 | .skip,F,h,ds,U,K=>K .normal F h ds U
 | .ret,F,h,ds,U,K=>K .ret F h ds U
 | .exit id,F,h,ds,U,K=>K (.exit id) F h ds U
 | .bad _,_,_,_,_,_=>none
 | .region id ops d,F,h,ds,U,K=>bif d then dr id ops F h U (fun F h U=>K .normal F h ds U) else match JW ops with
  | some x=>bif inr then none else RJ n x F h ds U (fun F h ds U=>K .normal F h ds U)
  | none=>tC E cx n ops ops F h U (fun F h U=>K .normal F h ds U)
 | .seq x y,F,h,ds,U,K=>pO E cx inr n dr x F h ds U (Hz (fun F h ds U=>pO E cx inr n dr y F h ds U K) K)
 | .cut J x y,F,h,ds,U,K=>match Et J F h with
  | some e=>bif w5 J e ds F h then
    jn (fun k=>pO E cx inr n dr x F h ds .no (vh (yL J n h.aQ e.bs e.cs e.qs e.cu ds) k (yz U K)))
     (fun s=>x_ J (kB x++(J.l_.map (·.1)++J.grow.map (·.1))) e.bs e.cs e.cu F h s (fun Fc hc=>pO E cx inr n dr y Fc hc ds .no (yz (U.cat (jT J h.aQ e)) K)))
   else none
  | none=>none
 | .cond c x y,F,h,ds,U,K=>Je n F c (fun F b=>bif b then pO E cx inr n dr x F h ds U K else pO E cx inr n dr y F h ds U K)
 | .block id x,F,h,ds,U,K=>pO E cx inr n dr x F h ds U (W4 id K)
 | .scope x,F,h,ds,U,K=>pO E cx inr n dr x F h ds U (scC K)
 | .label _,F,h,ds,U,K=>K .normal F h ds U
 | .IL l x,F,h,ds,U,K=>RG n l F h [] (fun F h T=>pO E cx inr n dr x F h ds (U.cat (Fp.wr T)) K)
 | .loop J x,F,h,ds,U,K=>match vX J with
  | some m=>Nat.rec (motive:=fun _=>Tr A→H→List Nat→Fp→Option β) (fun _ _ _ _=>none) (fun _ ih F h ds U=>pO E cx inr n dr x F h ds U (Hz ih K)) m F h ds U
  | none=>match Et J F h with
  | some e=>bif w5 J e ds F h then (match yL J n h.aQ e.bs e.cs e.qs e.cu ds F h ds .no with
   | some s0=>loop (fun k s=>x_ J (kB x++(J.l_.map (·.1)++J.grow.map (·.1))) e.bs e.cs e.cu F h s (fun Fc hc=>pO E cx inr n dr x Fc hc ds .no (vh (yL J n h.aQ e.bs e.cs e.qs e.cu ds) k (yz (U.cat (jT J h.aQ e)) K)))) s0
   | none=>none) else none
  | none=>none
 | .range g ps J aa bd,F,h,ds,U,K=>bif inr then none else match wv n F g with
  | .fn f fi ca=>bif Nat.blt h.aQ 16777214 then dK h.t h.aQ (some (.cl .w6)) (fun t1=>dK t1 (h.aQ+1) (some (.cl (.loop .ready none))) (fun t2=>cx.call β f (fi ++ .qd (h.aQ+1) n F ps J aa bd::ca) { h with t:=t2,aQ:=h.aQ+1+1 } (fun _ h3 T3=>match h3.t.get (h.aQ+1) with
   | some (.cl (.loop st pe))=>bif Im st then none else dK h3.t (h.aQ+1) none (fun t4=>match A0 pe with
    | some e=>K e F { h3 with t:=t4 } (h.aQ::ds) (U.cat (((Fp.wr [cE h.aQ]).cat (.wr [cE (h.aQ+1)])).cat (T3.cat (.wr [cE (h.aQ+1)]))))
    | none=>none)
   | _=>none))) else none
  | _=>none
def EY (P:Program) (inr:Bool) (n:Nat) (c:Code) (F:Tr A) (h:H) (ds:List Nat) (e:Exit) (F':Tr A) (h':H) (g_:List Nat) (T:Fp):Prop:=
 lV h h' T∧∀ro,(inr=false→ro=none)→∀S0 g0 w0,Cq F h F' h' n T (fun Q st=>pw P ro S0 g0 w0 c Q st) e ds g_
def yI (P:Program) (n:Nat) (dr:J1 β):Prop:=
 ∀id ops F h U K (r:β),dr id ops F h U K=some r→∃F' h' T,K F' h' (U.cat T)=some r∧Kp (oD ops) F F'∧∀inr ds,EY P inr n (.region id ops.toArray true) F h ds .normal F' h' ds T
theorem all_eq {S S2:Hp} {l m:List Nat} {w:Bool} (h:Agree ⟨true,l,w,m⟩ S S2):S2=S:=Hp.ext' (fun i=>(h i rfl).1) (fun i=>(h i rfl).2)
theorem wm {S S2:Hp} {l m:List Nat} {w:Bool}:gL ⟨true,l,w,m⟩ S S2=S:=Hp.ext' (fun i=>by
 show (if aF ⟨true,l,w,m⟩ i=true then S.ob i else S2.ob i)=S.ob i
 rw [if_pos (show aF ⟨true,l,w,m⟩ i=true from rfl)]) (fun i=>by
 show (if aF ⟨true,l,w,m⟩ i=true then S.fr i else S2.fr i)↔S.fr i
 rw [if_pos (show aF ⟨true,l,w,m⟩ i=true from rfl)])
theorem A6 (J:LH) (N:Nat) (e:CP) (T:Fp):∃l m w,(jT J N e).cat T=⟨true,l,w,m⟩:=⟨_,_,_,rfl⟩
theorem R.entry {n:Nat} {F:Tr A} {h:H} {ds:List Nat} {S0:Hp} {g0:G} {w0 w:World} {a:Act} (hR:R S0 g0 w0 (dT n F ds (hp h)) a w):(∀i,h.aQ≤i→i<cb→et h.t i=none)∧∀o,h.aQ≤o→o<cb→S0.fr o∧g0.bg o=none:=by
 obtain ⟨g,hI,hE,_⟩:=hR
 have hI:Inv g (hp h) w:=hI
 have hE:Ext S0 g0 w0 (hp h) g w:=hE
 have fr:∀o,h.aQ≤o→o<cb→(hp h).fr o:=fun o h1 h2=>by show (if o<cb then _ else _);rw [if_pos h2];exact h1
 refine ⟨fun i h1 h2=>?_,fun o h1 h2=>⟨hE.fr o (fr o h1 h2),?_⟩⟩
 ·cases hx:et h.t i with
  | none=>rfl
  | some x=>
   have dI:(hp h).ob i=some x:=by show (if i<cb then _ else _)=_;rw [if_pos h2];exact hx
   have bG:=hI.fresh i (fr i h1 h2)
   cases x with
   | cells cs=>
    rcases hI.cells i cs dI with ⟨k,_⟩ | ⟨b,t,k,_⟩
    ·rw [bG] at k;cases k
    ·rw [bG] at k;cases k
   | cl x=>
    obtain ⟨b,s,ob,k,_⟩:=hI.cl i x dI
    rw [bG] at k;cases k
 ·have bG:=hI.fresh o (fr o h1 h2)
  cases hx:g0.bg o with
  | none=>rfl
  | some p=>rw [hE.le.bg o p hx] at bG;cases bG
section
variable {J:LH} {j_ ds:List Nat} {En:CP} {F:Tr A} {h:H}
theorem vp {s:J.S} {Fc:Tr A} {hc:H} (k:nq J j_ En F h s Fc hc) (hv:∀i,i∈J.l_.map (·.1)++J.grow.map (·.1)→i∈j_):Kp j_ F Fc:=by
 have aV:∀(l:List (Nat×Bool×Ty)) (x:js (l.map (·.2))),(∀i∈l.map (·.1),i∈j_)→Cf (fun i c=>i∉j_→c=aT F.get i) l x:=fun l=>by
  induction l with
  | nil=>exact fun _ _=>trivial
  | cons p l ih=>exact fun x hh=>⟨fun hn=>absurd (hh p.1 (.head _)) hn,ih x.2 (fun i hi=>hh i (.tail _ hi))⟩
 have aW:∀(l:List (Nat×Ty)) (j:Nat),(∀i∈l.map (·.1),i∈j_)→Ce (fun i c=>i∉j_→c=aT F.get i) l j:=fun l=>by
  induction l with
  | nil=>exact fun _ _=>trivial
  | cons p l ih=>exact fun j hh=>⟨fun hn=>absurd (hh p.1 (.head _)) hn,ih (j+1) (fun i hi=>hh i (.tail _ hi))⟩
 exact k.F (fun i c=>i∉j_→c=aT F.get i) (fun i h1 h2=>absurd h1 h2) (fun i _ _=>rfl) (aV _ _ (fun i hi=>hv i (zQ _ hi))) (aW _ _ (fun i hi=>hv i (zS _ hi)))
theorem N7 {n:Nat} {s s':J.S} {Fc J0 F1:Tr A} {hc G3 h1:H} {kT:List Nat} {T1:Fp} (E:qc J En ds F h) (k:nq J j_ En F h s Fc hc) (k':nq J j_ En F h s' J0 G3) (hv:∀i,i∈J.l_.map (·.1)++J.grow.map (·.1)→i∈j_)
  (T8:Kp j_ Fc F1) (mB:lV hc h1 T1) (D6:yL J n h.aQ En.bs En.cs En.qs En.cu ds F1 h1 kT T1=some s') {S0:Hp} {g0:G} {w0 w:World} {a:Act} (m6:∀i,h.aQ≤i→i<cb→et h.t i=none) (hf:∀o,h.aQ≤o→o<cb→S0.fr o∧g0.bg o=none)
  (hR:R S0 g0 w0 (dT n F1 kT (hp h1)) a w):R S0 g0 w0 (dT n J0 ds (hp G3)) a w:=by
 obtain ⟨j1,j2,_⟩:=pq E k
 have hw:=D6
 unfold yL at hw
 obtain ⟨yQ,_⟩:=af hw
 rw [zC,zC] at yQ
 have TG:=E.top
 exact GB E m6 (fun i hi=>(T8 i hi).trans (vp k hv i hi)) (fun i hi hn=>(mB.rd i (uy yQ.1.1 (by omega) hi hn)).1.trans (j1 i hi (fun h=>hn (by
   rcases zX.1 h with h | h
   ·exact zQ _ h
   ·exact zS _ (zQ _ h)))))
  (fun i hl hk=>by
   have e1:=mB.rd i (ux yQ.1.1 hl hk)
   have e2:=j2 i hl hk
   exact ⟨e1.1.trans e2.1,e1.2.trans e2.2⟩) D6 k' hf hR
theorem G5 {n:Nat} {s':J.S} {J0 F1:Tr A} {G3 h1:H} {kT:List Nat} {T1:Fp} (E:qc J En ds F h) (k':nq J j_ En F h s' J0 G3)
  (T8:Kp j_ F F1) (mB:lV h h1 T1) (D6:yL J n h.aQ En.bs En.cs En.qs En.cu ds F1 h1 kT T1=some s') {S0:Hp} {g0:G} {w0 w:World} {a:Act} (m6:∀i,h.aQ≤i→i<cb→et h.t i=none) (hf:∀o,h.aQ≤o→o<cb→S0.fr o∧g0.bg o=none)
  (hR:R S0 g0 w0 (dT n F1 kT (hp h1)) a w):R S0 g0 w0 (dT n J0 ds (hp G3)) a w:=by
 have hw:=D6
 unfold yL at hw
 obtain ⟨yQ,_⟩:=af hw
 rw [zC,zC] at yQ
 have TG:=E.top
 exact GB E m6 (fun i hi=>T8 i hi) (fun i hi hn=>(mB.rd i (uy yQ.1.1 (by omega) hi hn)).1) (fun i hl hk=>mB.rd i (ux yQ.1.1 hl hk)) D6 k' hf hR
theorem A_ {s:J.S} {Fc:Tr A} {hc:H} (E:qc J En ds F h) (k:nq J j_ En F h s Fc hc):lV h hc (jT J h.aQ En):=⟨fun i hi=>(by cases hi),(pq E k).2.2⟩
theorem tU {σ:Type} {pj:Tr A→H→List Nat→Fp→Option σ} {k:σ→Option β} {K:KC β} {e:Exit} {T:Fp} (hr:vh pj k K e F h ds T=some r):(e = .normal∧∃s,pj F h ds T=some s∧k s=some r)∨(e≠.normal∧K e F h ds T=some r):=by
 unfold vh at hr
 split at hr
 ·split at hr
  ·rename_i s hs;exact .inl ⟨rfl,s,hs,hr⟩
  ·cases hr
 ·rename_i l6;exact .inr ⟨l6,hr⟩
theorem wB {inr:Bool} {n:Nat} {x:av} {dr:J1 β} {E:Env} {cx:Cx} {K:KC β} {U:Fp} (hx:∀(F:Tr A) (h:H) (ds:List Nat) (U:Fp) (K:KC β),pO E cx inr n dr x F h ds U K=some r→∃e F' h' g_ T,K e F' h' g_ (U.cat T)=some r∧Kp (kB x) F F'∧EY P inr n x.code F h ds e F' h' g_ T)
  (EO:qc J En ds F h) (hv:∀i,i∈J.l_.map (·.1)++J.grow.map (·.1)→i∈j_) (ha:∀i,i∈kB x→i∈j_):∀(m:Nat) (s:J.S),iter (fun k s=>x_ J j_ En.bs En.cs En.cu F h s (fun Fc hc=>pO E cx inr n dr x Fc hc ds .no (vh (yL J n h.aQ En.bs En.cs En.qs En.cu ds) k (yz (U.cat (jT J h.aQ En)) K)))) m s=some r →
  ∃Fc hc,nq J j_ En F h s Fc hc∧∃e F' h' g_ T,K e F' h' g_ (U.cat ((jT J h.aQ En).cat T))=some r∧Kp j_ F F'∧lV h h' ((jT J h.aQ En).cat T) ∧
   ∀ro,(inr=false→ro=none)→∀S0 g0 w0,(∀i,h.aQ≤i→i<cb→et h.t i=none)→(∀o,h.aQ≤o→o<cb→S0.fr o∧g0.bg o=none)→∀Q:Exit→St→Prop,Q e (dT n F' g_ (hp h'))→∀a w,R S0 g0 w0 (dT n Fc ds (hp hc)) a w→Code.roundsIn (FR ro) 0 P x.code (lift S0 g0 w0 Q) m a w
 | 0,s,hr=>by cases hr
 | m+1,s,hr=>by
  obtain ⟨Fc,hc,k1,k2⟩:=tW (show x_ J j_ En.bs En.cs En.cu F h s (fun Fc hc=>pO E cx inr n dr x Fc hc ds .no (vh (yL J n h.aQ En.bs En.cs En.qs En.cu ds) (iter (fun k s=>x_ J j_ En.bs En.cs En.cu F h s (fun Fc hc=>pO E cx inr n dr x Fc hc ds .no (vh (yL J n h.aQ En.bs En.cs En.qs En.cu ds) k (yz (U.cat (jT J h.aQ En)) K)))) m) (yz (U.cat (jT J h.aQ En)) K)))=some r from hr)
  obtain ⟨e1,F1,h1,kT,T1,k3,k4,k5,k6⟩:=hx Fc hc ds .no _ k1
  rw [Fp.nO] at k3
  refine ⟨Fc,hc,k2,?_⟩
  rcases tU k3 with ⟨rfl,s',q1,q2⟩ | ⟨l6,q1⟩
  ·obtain ⟨J0,G3,u1,e,F',h',g_,T,u2,u3,u4,u5⟩:=wB hx EO hv ha m s' q2
   refine ⟨e,F',h',g_,T,u2,u3,u4,fun ro iB S0 g0 w0 m6 hf Q hq a w hR=>?_⟩
   rw [roundsIn_succ]
   refine wpIn_mono (k6 ro iB S0 g0 w0 (hp hc) Agree.self (fun e st=>e = .normal∧st=dT n F1 kT (hp h1)) ⟨rfl,by rw [oH k5]⟩ a w hR) ?_
   rintro e2 a2 w2 ⟨st,IH,rfl,rfl⟩
   exact u5 ro iB S0 g0 w0 m6 hf Q hq a2 w2 (N7 EO k2 u1 hv (k4.mono ha) k5 q1 m6 hf IH)
  ·refine ⟨e1,F1,h1,kT,T1,by rw [←Fp.gW];exact q1,(vp k2 hv).trans k4 (fun i hi=>hi) ha,(A_ EO k2).trans k5,fun ro iB S0 g0 w0 m6 hf Q hq a w hR=>?_⟩
   rw [roundsIn_succ]
   refine wpIn_mono (k6 ro iB S0 g0 w0 (hp hc) Agree.self (fun e st=>e=e1∧st=dT n F1 kT (hp h1)) ⟨rfl,by rw [oH k5]⟩ a w hR) ?_
   rintro e2 a2 w2 ⟨st,IH,rfl,rfl⟩
   have hl:lift S0 g0 w0 Q e2 a2 w2:=⟨_,IH,hq⟩
   cases e2 with
   | normal=>exact absurd rfl l6
   | _=>exact hl
end
theorem y5 {inr:Bool} {n:Nat} {x:av} {dr:J1 β} {E:Env} {cx:Cx} {K:KC β} {r:β} (hx:∀(F:Tr A) (h:H) (ds:List Nat) (U:Fp) (K:KC β),pO E cx inr n dr x F h ds U K=some r→∃e F' h' g_ T,K e F' h' g_ (U.cat T)=some r∧Kp (kB x) F F'∧EY P inr n x.code F h ds e F' h' g_ T) :
  ∀(m:Nat) (F:Tr A) (h:H) (ds:List Nat) (U:Fp),Nat.rec (motive:=fun _=>Tr A→H→List Nat→Fp→Option β) (fun _ _ _ _=>none) (fun _ ih F h ds U=>pO E cx inr n dr x F h ds U (Hz ih K)) m F h ds U=some r →
  ∃e F' h' g_ T,K e F' h' g_ (U.cat T)=some r∧Kp (kB x) F F'∧lV h h' T∧∀ro,(inr=false→ro=none)→∀S0 g0 w0 S2,Agree T (hp h) S2→∀Q:Exit→St→Prop,Q e (dT n F' g_ (gL T (hp h') S2))→∀a w,R S0 g0 w0 (dT n F ds S2) a w→Code.roundsIn (FR ro) 0 P x.code (lift S0 g0 w0 Q) m a w
 | 0,F,h,ds,U,hr=>by cases hr
 | m+1,F,h,ds,U,hr=>by
  obtain ⟨e1,F1,h1,kT,T1,k1,kp,k2,k3⟩:=hx F h ds U _ hr
  by_cases l6:e1 = .normal
  ·subst l6
   obtain ⟨e,F2,h2,uN,T2,q1,qp,q2,q3⟩:=y5 hx m F1 h1 kT _ k1
   refine ⟨e,F2,h2,uN,T1.cat T2,by rw [←Fp.gW];exact q1,kp.trans qp (fun i hi=>hi) (fun i hi=>hi),k2.trans q2,fun ro iB S0 g0 w0 S2 hA Q hq a w hR=>?_⟩
   rw [roundsIn_succ]
   refine wpIn_mono (k3 ro iB S0 g0 w0 S2 hA.left (fun e st=>e = .normal∧st=dT n F1 kT (gL T1 (hp h1) S2)) ⟨rfl,rfl⟩ a w hR) ?_
   rintro e2 a2 w2 ⟨st,IH,rfl,rfl⟩
   exact q3 ro iB S0 g0 w0 _ (Agree.right k2 hA) Q (by rw [eL q2];exact hq) a2 w2 IH
  ·have k4:K e1 F1 h1 kT (U.cat T1)=some r:=by
    cases e1 with
    | normal=>exact absurd rfl l6
    | _=>exact k1
   refine ⟨e1,F1,h1,kT,T1,k4,kp,k2,fun ro iB S0 g0 w0 S2 hA Q hq a w hR=>?_⟩
   rw [roundsIn_succ]
   refine wpIn_mono (k3 ro iB S0 g0 w0 S2 hA (fun e st=>e=e1∧st=dT n F1 kT (gL T1 (hp h1) S2)) ⟨rfl,rfl⟩ a w hR) ?_
   rintro e2 a2 w2 ⟨st,IH,rfl,rfl⟩
   have hl:lift S0 g0 w0 Q e2 a2 w2:=⟨_,IH,hq⟩
   cases e2 with
   | normal=>exact absurd rfl l6
   | _=>exact hl
theorem I2 {l:List Oper} {x:Nat×Nat×Nat} (h:JW l=some x):∃o1 o2 c,l=[o1,o2]∧o1.op = .move (.tmp x.1)∧o1.dst=some x.2.1∧o1.guard=none∧o2.op = .defer c∧o2.guard=none∧o2.dst=none∧c.callee = .value (.func x.2.2)∧c.args.toList=[.tmp x.2.1]:=by
 unfold JW at h
 split at h
 ·rename_i o1 o2
  split at h
  ·rename_i s a c e1 e2 e3 e4 e5 e6
   split at h
   ·rename_i f b e7 e8
    obtain ⟨e9,h⟩:=af h
    have e9:=beq_eq e9
    cases h
    exact ⟨o1,o2,c,rfl,e1,e2,e3,e4,e5,e6,e7,by rw [e8,e9]⟩
   ·cases h
  ·cases h
 ·cases h
theorem I3 {P:Program} {n:Nat} (id:Nat) {ops:List Oper} {x:Nat×Nat×Nat} {F:Tr A} {h:H} {ds:List Nat} {U:Fp} {K:Tr A→H→List Nat→Fp→Option β} {r:β} (hd:JW ops=some x) (hr:RJ n x F h ds U K=some r) :
  ∃F' g_,K F' h g_ U=some r∧Kp (oD ops) F F'∧∀S0 g0 w0 Q S2,Q .normal (dT n F' g_ S2)→pw P none S0 g0 w0 (.region id ops.toArray false) Q (dT n F ds S2):=by
 obtain ⟨s,a,f⟩:=x
 obtain ⟨o1,o2,c,rfl,e1,e2,e3,e4,e5,e6,e7,e8⟩:=I2 hd
 simp only at e1 e2 e7 e8
 unfold RJ at hr
 simp only at hr
 split at hr
 ·rename_i q off hs
  obtain ⟨hq,Ol⟩:=af hr
  clear hr
  simp only [zC] at hq
  have h0:=beq_eq hq.1.1.1
  have hq0:=aU hq.1.1.2
  have CG:=aU hq.1.2
  have han:=aU hq.2
  subst h0
  obtain ⟨_,F1,hr,sd⟩:=bh Ol
  have sY:∀S2:Hp,(dT n F ds S2).put (some a) (.ptr q 0)=dT n F1 ds S2:=fun S2=>by
   simp only [St.put,dT]
   congr 1
   funext i
   simp only [aT,sd]
   by_cases hi:i=a
   ·rw [if_pos hi,if_pos hi]
   ·rw [if_neg hi,if_neg hi]
  refine ⟨F1,_,hr,?_,fun S0 g0 w0 Q S2 hQ=>qN (tE (pv:=.ptr q 0) (S':=S2) 0 e3 ?_ ?_)⟩
  ·intro i hi
   have hi:i≠a:=fun hh=>hi (by subst hh;simp [oD,e2,e6])
   simp only [aT,sd,if_neg hi]
  ·have e:(dT n F ds S2).sW 0 (.tmp s) = .ptr q 0:=(show (if s<n then aT F.get s else A.b8)=_ from (if_pos CG).trans hs)
   have:=tM (P:=P) (S:=S2) (ρ:=(dT n F ds S2).sW 0) e1
   rw [e] at this
   exact this.GG (by rw [e1];intro c e;cases e)
  ·intro act w hR
   rw [e2,sY] at hR
   have hR:R S0 g0 w0 (dT n F1 ds S2) act w:=hR
   obtain ⟨g,h0,h1,h2,h3,h4⟩:=hR
   refine wpListIn_plain e5 (fun K hK=>⟨fun _ _=>trivial,?_⟩)
   have hv:=h4 a (show a<n from han)
   have hv:V g (aT F1.get a) (act.tmps.getD a undef):=hv
   rw [show aT F1.get a = .ptr q 0 by simp only [aT,sd,if_pos]] at hv
   have dA:(Oper.semAt (FR none).round act.eval o2).run P w = .ok (.defer (vM (q+16777216*(f+1)) (act.tmps.getD a undef))) w:=by
    show (execOp act.eval o2).run P w=_
    have ed:(q+16777216*(f+1)) / 16777216-1=f:=by omega
    obtain ⟨cal,args,tys⟩:=c
    simp only at e7 e8
    subst e7
    have ea:args = #[.tmp a]:=by apply Array.ext';simpa using e8
    subst ea
    simp [execOp,e4,resolve,vM,ed,Act.eval,Deferred.ofValue]
   rw [dA]
   refine hK _ _ ?_
   rw [e6]
   refine ⟨dT n F1 ((q+16777216*(f+1))::ds) S2,⟨g,h0,h1,⟨?_,fun i d e k1 k2=>?_⟩,h3,h4⟩,hQ⟩
   ·have:=h2.1;simp only [dT,Act.put,zR] at this ⊢;omega
   ·cases i with
    | zero=>
     simp [dT,Act.put] at k1 k2
     subst k1 k2
     refine ⟨fun hd=>absurd hd (by omega),fun _=>⟨_,?_,rfl⟩⟩
     rw [show (q+16777216*(f+1))%16777216=q by omega]
     simpa using hv
    | succ i=>exact h2.2 i d e (by simpa [dT] using k1) (by simpa [Act.put] using k2)
 ·cases hr
theorem gq {inr:Bool} {dr:J1 β} (hE:bL P E) (hx:j9 P cx) (pH:yI P n dr):∀(c:av) (F:Tr A) (h:H) (ds:List Nat) (U:Fp) (K:KC β),pO E cx inr n dr c F h ds U K=some r →
  ∃e F' h' g_ T,K e F' h' g_ (U.cat T)=some r∧Kp (kB c) F F'∧EY P inr n c.code F h ds e F' h' g_ T
 | .skip,F,h,ds,U,K,hr=>⟨.normal,F,h,ds,.no,by rw [Fp.nY];exact hr,.refl _ F,.refl h,fun ro iB S0 g0 w0 S2 hA Q hq=>by rw [nL] at hq;exact Dc hq⟩
 | .ret,F,h,ds,U,K,hr=>⟨.ret,F,h,ds,.no,by rw [Fp.nY];exact hr,.refl _ F,.refl h,fun ro iB S0 g0 w0 S2 hA Q hq=>by rw [nL] at hq;exact HK hq⟩
 | .exit id,F,h,ds,U,K,hr=>⟨.exit id,F,h,ds,.no,by rw [Fp.nY];exact hr,.refl _ F,.refl h,fun ro iB S0 g0 w0 S2 hA Q hq=>by rw [nL] at hq;exact Dd hq⟩
 | .bad _,F,h,ds,U,K,hr=>by cases hr
 | .region id ops d,F,h,ds,U,K,hr=>by
  cases d with
  | true=>
   obtain ⟨F',h',T,k1,kp,k2⟩:=pH id ops F h U _ r hr
   exact ⟨.normal,F',h',ds,T,k1,kp,k2 inr ds⟩
  | false=>
   have hr:(match JW ops with
    | some x=>bif inr then none else RJ n x F h ds U (fun F h ds U=>K .normal F h ds U)
    | none=>tC E cx n ops ops F h U (fun F h U=>K .normal F h ds U))=some r:=hr
   cases Ul:JW ops with
   | some x=>
    rw [Ul] at hr
    cases inr with
    | true=>cases hr
    | false=>
     obtain ⟨F',g_,k1,kp,k3⟩:=I3 (P:=P) id Ul hr
     exact ⟨.normal,F',h,g_,.no,by rw [Fp.nY];exact k1,kp,.refl h,fun ro iB S0 g0 w0 S2 hA Q hq=>by
      rw [nL] at hq
      obtain rfl:=iB rfl
      exact k3 S0 g0 w0 Q S2 hq⟩
   | none=>
   rw [Ul] at hr
   obtain ⟨F',h',T,k1,kp,k2,k3⟩:=ru hE hx ops F h U _ hr
   exact ⟨.normal,F',h',ds,T,k1,kp,k2,fun ro iB S0 g0 w0 S2 hA Q hq=>qN (k3 ro S0 g0 w0 ds S2 hA Q hq)⟩
 | .seq x y,F,h,ds,U,K,hr=>by
  obtain ⟨e,F1,h1,kT,T1,k1,kp,k2,k3⟩:=gq hE hx pH x F h ds U _ hr
  cases e with
  | normal=>
   obtain ⟨e,F2,h2,uN,T2,q1,qp,q2,q3⟩:=gq hE hx pH y F1 h1 kT _ K k1
   refine ⟨e,F2,h2,uN,T1.cat T2,by rw [←Fp.gW];exact q1,kp.trans qp (fun i hi=>zQ _ hi) (fun i hi=>zS _ hi),k2.trans q2,fun ro iB S0 g0 w0 S2 hA Q hq=>?_⟩
   refine rA (k3 ro iB S0 g0 w0 S2 hA.left _ ?_)
   refine q3 ro iB S0 g0 w0 _ (Agree.right k2 hA) Q ?_
   rw [eL q2];exact hq
  | _=>exact ⟨_,F1,h1,kT,T1,k1,kp.mono (fun i hi=>zQ _ hi),k2,fun ro iB S0 g0 w0 S2 hA Q hq=>rA (k3 ro iB S0 g0 w0 S2 hA _ hq)⟩
 | .cut J x y,F,h,ds,U,K,hr=>by
  have hr:(match Et J F h with | some e=>_ | none=>none)=some r:=hr
  split at hr
  ·rename_i En OH
   obtain ⟨ho,hr⟩:=af hr
   have EO:=uq ho
   have hv:∀i,i∈J.l_.map (·.1)++J.grow.map (·.1)→i∈kB x++(J.l_.map (·.1)++J.grow.map (·.1)):=fun i hi=>zS _ hi
   obtain ⟨e1,F1,h1,kT,T1,k1,kp,k2,k3⟩:=gq hE hx pH x F h ds .no _ (show pO E cx inr n dr x F h ds .no _=some r from (g8 _ _).symm.trans hr)
   rw [Fp.nO] at k1
   rcases tU k1 with ⟨rfl,s,q1,q2⟩ | ⟨l6,q1⟩
   ·obtain ⟨Fc,hc,u1,u2⟩:=tW q2
    obtain ⟨e,F2,h2,uN,T2,u3,u4,u5,u6⟩:=gq hE hx pH y Fc hc ds .no _ u1
    rw [Fp.nO] at u3
    have u3:K e F2 h2 uN ((U.cat (jT J h.aQ En)).cat T2)=some r:=u3
    refine ⟨e,F2,h2,uN,(jT J h.aQ En).cat T2,by rw [←Fp.gW];exact u3,(vp u2 hv).trans u4 (fun i hi=>zQ _ hi) (fun i hi=>zS _ hi),(A_ EO u2).trans u5,fun ro iB S0 g0 w0 S2 hA Q hq=>?_⟩
    obtain ⟨l,m,w,ej⟩:=A6 J h.aQ En T2
    rw [ej] at hA hq
    rw [wm] at hq
    rw [all_eq hA]
    intro a w hR
    obtain ⟨m6,hf⟩:=hR.entry
    refine rA (k3 ro iB S0 g0 w0 (hp h) Agree.self _ ?_) a w hR
    rw [oH k2]
    intro a1 w1 OL
    refine u6 ro iB S0 g0 w0 (hp hc) Agree.self Q ?_ a1 w1 (G5 EO u2 (kp.mono (fun i hi=>zQ _ hi)) k2 q1 m6 hf OL)
    rw [oH u5];exact hq
   ·refine ⟨e1,F1,h1,kT,T1,q1,kp.mono (fun i hi=>zQ _ (zQ _ hi)),k2,fun ro iB S0 g0 w0 S2 hA Q hq=>rA (k3 ro iB S0 g0 w0 S2 hA _ ?_)⟩
    cases e1 with
    | normal=>exact absurd rfl l6
    | _=>exact hq
  ·cases hr
 | .cond c x y,F,h,ds,U,K,hr=>by
  obtain ⟨F1,b,k1,k2,k3⟩:=Ez hr
  cases b with
  | true=>
   obtain ⟨e,F2,h2,uN,T2,q1,qp,q2,q3⟩:=gq hE hx pH x F1 h ds U K k1
   refine ⟨e,F2,h2,uN,T2,q1,(Kp.of (l:=[]) k2).trans qp (fun i hi=>by cases hi) (fun i hi=>zQ _ hi),q2,fun ro iB S0 g0 w0 S2 hA Q hq=>?_⟩
   refine wh (b:=true) (by rw [←nM];exact k3) (fun _=>?_) (fun h=>by cases h)
   rw [←k2]
   exact q3 ro iB S0 g0 w0 S2 hA Q hq
  | false=>
   obtain ⟨e,F2,h2,uN,T2,q1,qp,q2,q3⟩:=gq hE hx pH y F1 h ds U K k1
   refine ⟨e,F2,h2,uN,T2,q1,(Kp.of (l:=[]) k2).trans qp (fun i hi=>by cases hi) (fun i hi=>zS _ hi),q2,fun ro iB S0 g0 w0 S2 hA Q hq=>?_⟩
   refine wh (b:=false) (by rw [←nM];exact k3) (fun h=>by cases h) (fun _=>?_)
   rw [←k2]
   exact q3 ro iB S0 g0 w0 S2 hA Q hq
 | .block id x,F,h,ds,U,K,hr=>by
  obtain ⟨e,F1,h1,kT,T1,k1,kp,k2,k3⟩:=gq hE hx pH x F h ds U _ hr
  cases e with
  | exit i=>
   have kk:(bif Nat.beq i id then K .normal F1 h1 kT (U.cat T1) else K (.exit i) F1 h1 kT (U.cat T1))=some r:=k1
   cases hb:Nat.beq i id with
   | true=>
    rw [hb] at kk
    obtain rfl:=beq_eq hb
    refine ⟨.normal,F1,h1,kT,T1,kk,kp,k2,fun ro iB S0 g0 w0 S2 hA Q hq=>pa (k3 ro iB S0 g0 w0 S2 hA _ ?_)⟩
    show (if i=i then Q .normal _ else _)
    rw [if_pos rfl];exact hq
   | false=>
    rw [hb] at kk
    refine ⟨.exit i,F1,h1,kT,T1,kk,kp,k2,fun ro iB S0 g0 w0 S2 hA Q hq=>pa (k3 ro iB S0 g0 w0 S2 hA _ ?_)⟩
    show (if i=id then _ else Q (.exit i) _)
    rw [if_neg (fun e=>by rw [e,Nat.beq_refl] at hb;cases hb)];exact hq
  | _=>exact ⟨_,F1,h1,kT,T1,k1,kp,k2,fun ro iB S0 g0 w0 S2 hA Q hq=>pa (k3 ro iB S0 g0 w0 S2 hA _ hq)⟩
 | .scope x,F,h,ds,U,K,hr=>by
  obtain ⟨e,F1,h1,kT,T1,k1,kp,k2,k3⟩:=gq hE hx pH x F h ds U _ hr
  cases e with
  | goto l=>cases k1
  | _=>exact ⟨_,F1,h1,kT,T1,k1,kp,k2,fun ro iB S0 g0 w0 S2 hA Q hq=>Aa (k3 ro iB S0 g0 w0 S2 hA _ hq)⟩
 | .label l,F,h,ds,U,K,hr=>⟨.normal,F,h,ds,.no,by rw [Fp.nY];exact hr,.refl _ F,.refl h,fun ro iB S0 g0 w0 S2 hA Q hq=>by rw [nL] at hq;exact Ab hq⟩
 | .IL l x,F,h,ds,U,K,hr=>by
  obtain ⟨F1,h1,T1,k1,k2,k3,k4⟩:=BC l F h [] (show RG n l F h [] _=some r from hr)
  obtain ⟨e,F2,h2,uN,T2,q1,qp,q2,q3⟩:=gq hE hx pH x F1 h1 ds _ K k1
  refine ⟨e,F2,h2,uN,(Fp.wr T1).cat T2,by rw [←Fp.gW];exact q1,k2.trans qp (fun i hi=>zQ _ hi) (fun i hi=>zS _ hi),k3.trans q2,fun ro iB S0 g0 w0 S2 hA Q hq a w hR=>?_⟩
  refine q3 ro iB S0 g0 w0 _ (Agree.right k3 hA) Q (by rw [eL q2];exact hq) a w (k4 S0 g0 w0 ds S2 a w hA.left hR)
 | .loop J x,F,h,ds,U,K,hr=>by
  have hr:(match vX J with | some m=>_ | none=>(match Et J F h with | some e=>_ | none=>none))=some r:=hr
  split at hr
  ·rename_i m _
   obtain ⟨e,F',h',g_,T,u2,u3,u4,u5⟩:=y5 (P:=P) (fun F h ds U K hr=>gq hE hx pH x F h ds U K hr) m F h ds U hr
   exact ⟨e,F',h',g_,T,u2,u3.mono (fun i hi=>zQ _ hi),u4,fun ro iB S0 g0 w0 S2 hA Q hq a w hR=>wpIn_loop_rounds m (u5 ro iB S0 g0 w0 S2 hA Q hq a w hR)⟩
  split at hr
  ·rename_i En OH
   obtain ⟨ho,hr⟩:=af hr
   split at hr
   ·rename_i s0 hs0
    have EO:=uq ho
    have hv:∀i,i∈J.l_.map (·.1)++J.grow.map (·.1)→i∈kB x++(J.l_.map (·.1)++J.grow.map (·.1)):=fun i hi=>zS _ hi
    obtain ⟨Fc,hc,u1,e,F',h',g_,T,u2,u3,u4,u5⟩:=wB (P:=P) (fun F h ds U K hr=>gq hE hx pH x F h ds U K hr) EO hv (fun i hi=>zQ _ hi) nh s0 ((rT _ _).symm.trans hr)
    refine ⟨e,F',h',g_,_,u2,u3,u4,fun ro iB S0 g0 w0 S2 hA Q hq=>?_⟩
    obtain ⟨l,m,w,ej⟩:=A6 J h.aQ En T
    rw [ej] at hA hq
    rw [wm] at hq
    rw [all_eq hA]
    intro a w hR
    obtain ⟨m6,hf⟩:=hR.entry
    exact wpIn_loop_rounds nh (u5 ro iB S0 g0 w0 m6 hf Q hq a w (G5 (T1:=.no) EO u1 (.refl _ F) (.refl h) hs0 m6 hf hR))
   ·cases hr
  ·cases hr
 | .range g ps J aa bd,F,h,ds,U,K,hr=>by
  have hr:(bif inr then none else _)=some r:=hr
  obtain ⟨Ue,hr⟩:=hC hr
  split at hr
  ·rename_i f fi ca hf
   obtain ⟨hn,hr⟩:=af hr
   have hn:=aU hn
   obtain ⟨_,t1,hr,TJ⟩:=bh hr
   obtain ⟨_,t2,hr,TH⟩:=bh hr
   obtain ⟨pv,h3,T3,hr,k2⟩:=hx.call β f _ _ _ r hr
   split at hr
   ·rename_i st pe h3q
    obtain ⟨hb,hr⟩:=hC hr
    obtain ⟨_,t4,hr,ht4⟩:=bh hr
    split at hr
    ·rename_i e hj
     obtain ⟨f1,v1⟩:=wz (h:=h) (x:=.cl .w6) (by omega) TJ
     obtain ⟨f2,v2⟩:=wz (h:={ h with t:=t1,aQ:=h.aQ+1 }) (x:=.cl (.loop .ready none)) (show h.aQ+1<16777216 by omega) TH
     have f3:lV { h with t:=t2,aQ:=h.aQ+1+1 } h3 T3:=⟨k2.out,k2.rd⟩
     obtain ⟨f4,v4⟩:=w7 (h:=h3) (q:=h.aQ+1) (by omega) ht4
     have f12:=f1.trans f2
     have f34:=f3.trans f4
     refine ⟨e,F,{ h3 with t:=t4 },h.aQ::ds,_,hr,.refl _ F,f12.trans f34,fun ro iB S0 g0 w0 S2 hA Q hq=>?_⟩
     obtain rfl:=iB Ue
     have Bw:=hA.left
     have vA:=Agree.right f12 hA
     rw [←eL f34,←eL f4] at hq
     rw [←eL f2] at vA hq
     have A1:=Bw.left
     have A2:=Agree.right f1 Bw
     have A3:=vA.left
     have A4:=Agree.right f3 vA
     have Ea:S2.fr h.aQ:=(A1 h.aQ (aB (o:=h.aQ) (by omega) (.head _))).2.2 (by show (if h.aQ<cb then h.aQ≤h.aQ else _);rw [if_pos (show h.aQ<cb by unfold cb;omega)];exact Nat.le_refl _)
     have OB:(gL (.wr [cE h.aQ]) (hp { h with t:=t1,aQ:=h.aQ+1 }) S2).fr (h.aQ+1):=(A2 (h.aQ+1) (aB (o:=h.aQ+1) (by omega) (.head _))).2.2 (by show (if h.aQ+1<cb then h.aQ+1≤h.aQ+1 else _);rw [if_pos (show h.aQ+1<cb by unfold cb;omega)];exact Nat.le_refl _)
     have t_:=xf (x:=.cl (.loop st pe)) (by omega) h3q A4 (.head _)
     rw [v2 _ A2] at A3 A4 t_ hq
     rw [v4 _ A4] at hq
     rw [v1 _ A1] at OB A3 A4 t_ hq
     rintro a w ⟨gg,hI,hxx,hd,hs,hv⟩
     have hI:Inv gg S2 w:=hI
     have hs:a.tmps.size=n:=hs
     refine wpIn_rangeFunc (fun fn _=>?_)
     obtain ⟨i1,x1⟩:=hI.alloc (s:=(0,0)) Ea (x:=.cl .w6) (ob:=.deferred (some [])) ⟨_,heap_alloc_new w _,rfl⟩
     have q1:=bU (g:=gg) (o:=h.aQ) (p:=(some w.heap.size,(0,0)))
     generalize iu gg h.aQ (some w.heap.size,(0,0))=g1 at i1 x1 q1
     obtain ⟨rr,GS⟩:∃rr:Loop,rr={ state:=.ready,pending:=none,fn,tmps:=a.tmps,params:=ps.toArray,assign:=aa.code,body:=bd.code,defers:=w.heap.size }:=⟨_,rfl⟩
     obtain ⟨g2,i2,x2,q2,l2⟩:=i1.N3 OB rr
     have nx:(w.alloc (.deferred (some []))).heap.size=w.heap.size+1:=Array.size_push _
     rw [nx] at q2 l2
     have hu:=uD (st:=dT n F ds S2) hs hv 0 g
     rw [←nM,hf] at hu
     generalize hev:a.eval g=u at hu
     cases hu with
     | fn _ _ _ fv cv GZ RB h1 h2=>
     obtain ⟨w1,Tz⟩:∃w1,w1=(w.alloc (.deferred (some []))).alloc (.loop rr):=⟨_,rfl⟩
     rw [←Tz] at i2 x2
     rw [show rr.state = .ready by rw [GS],show rr.pending=none by rw [GS]] at i2 x2
     refine ⟨w.heap.size+1,[{ target:=.collected w.heap.size,args:=#[] }],w1,{ target:=.fn (.func f) cv,args:=fv ++ #[.func (.yield (w.heap.size+1)) #[] #[]] },w1,f,(fv.toList ++ .func (.yield (w.heap.size+1)) #[] #[]::cv.toList).toArray,w1,?_,?_,fun f' _=>trivial,?_,fun h=>by simp [FR,Fence.wide] at h,pY ?_⟩
     ·rw [Tz,GS];exact run_enterLoop_outer fn a.tmps ps.toArray aa.code bd.code
     ·simp only [resolve,hev,Deferred.ofValue,Sem.run_pure]
      congr 3
      simp [Act.eval]
     ·have h2:=k2.fn.run ((fv.toList ++ .func (.yield (w.heap.size+1)) #[] #[]::cv.toList).toArray) w1
      simp only [invoke]
      rw [show fv ++ #[.func (.yield (w.heap.size+1)) #[] #[]]++cv=(fv.toList ++ .func (.yield (w.heap.size+1)) #[] #[]::cv.toList).toArray by apply Array.ext';simp]
      exact h2
     ·have hle:=x1.le.trans x2.le
      refine (k2.ok _ A3 g2 w1 (fv.toList ++ .func (.yield (w.heap.size+1)) #[] #[]::cv.toList) i2 (by simp [GZ,RB]) (N8 (by simp [GZ]) (fun i c x e1 e2=>(h1 i c x e1 (by simpa using e2)).mono hle)
       (.qd _ n F ps J aa bd _ _ _ q2 l2 (by rw [GS];rfl) (by rw [GS];rfl) (by rw [GS];rfl) (by rw [GS];exact hs) (fun i hi=>by rw [GS];exact (hv i hi).mono hle)) (fun i c x e1 e2=>(h2 i c x e1 (by simpa using e2)).mono hle))).mono ?_
      rintro e1 w3 ⟨v,g3,rfl,_,i3,x3⟩
      obtain ⟨b3,s3,ob3,k1,nw,k3⟩:=i3.cl (h.aQ+1) _ t_
      have ZQ:=x3.le.bg _ _ q2
      rw [k1] at ZQ
      obtain ⟨rfl,rfl⟩:b3=w.heap.size+1∧s3=(0,0):=by simpa using ZQ
      obtain ⟨r3,rfl,r1,r2⟩:=k3
      have sk:=run_endLoop (P:=P) nw (by rw [r1];intro hh;rw [hh] at hb;cases hb)
      obtain ⟨i4,x4⟩:=i3.zl (CZ:=.exhausted) (HM:=r3.pending) t_ k1 nw
      have ua:∀(S:Hp) o ob,(S.del (h.aQ+1)).ob o=some ob→(S.set (h.aQ+1) (.cl (.loop .exhausted r3.pending))).ob o=some ob:=fun S o ob e=>by
       have e:(if o=h.aQ+1 then none else S.ob o)=some ob:=e
       show (if o=h.aQ+1 then _ else S.ob o)=some ob
       by_cases ho:o=h.aQ+1
       ·rw [if_pos ho] at e;cases e
       ·rw [if_neg ho] at e;rw [if_neg ho];exact e
      have i4:=i4.less (ua _) (fun _ e=>e)
      have x4:=x4.trans (Ext.less (ua _) (fun _ e=>e))
      have ya:=((x1.trans (Tz▸x2)).trans x3).trans x4
      have hR:∀S5,Inv g3 S5 (w3.putObj (w.heap.size+1) (.loop { r3 with state:=.exhausted,pending:=r3.pending }))→Ext S2 gg w S5 g3 (w3.putObj (w.heap.size+1) (.loop { r3 with state:=.exhausted,pending:=r3.pending }))→R S0 g0 w0 (dT n F (h.aQ::ds) S5) { a with defers:=[{ target:=.collected w.heap.size,args:=#[] }]++a.defers } (w3.putObj (w.heap.size+1) (.loop { r3 with state:=.exhausted,pending:=r3.pending })):=by
       intro S5 i4 ya
       refine ⟨g3,i4,hxx.trans ya,⟨by have:=hd.1;simp [dT] at this ⊢;exact this,fun i d el e1 e2=>?_⟩,hs,fun i hi=>(hv i hi).mono ya.le⟩
       cases i with
       | zero=>
        simp [dT] at e1 e2;subst e1 e2
        exact ⟨fun _=>⟨w.heap.size,(0,0),(x2.le.trans x3.le).bg _ _ q1,rfl⟩,fun hd=>absurd hd (by omega)⟩
       | succ i=>exact (hd.mono ya.le).2 i d el (by simpa [dT] using e1) (by simpa using e2)
      have hR:=hR _ i4 ya
      have sk:(Instr.endLoop (w.heap.size+1)).run P w3 = .ok r3.pending (w3.putObj (w.heap.size+1) (.loop { r3 with state:=.exhausted,pending:=r3.pending })):=sk
      generalize w3.putObj (w.heap.size+1) (.loop { r3 with state:=.exhausted,pending:=r3.pending })=w4 at hR sk
      refine ⟨r3.pending,_,sk,?_⟩
      rw [r2]
      rcases AZ hj with ⟨h5,h6⟩ | ⟨h5,h6⟩ | ⟨id,h5,h6⟩
      ·rw [h6] at hq;rw [h5];exact ⟨_,hR,hq⟩
      ·rw [h6] at hq;rw [h5];exact wpIn_ret ⟨_,hR,hq⟩
      ·rw [h6] at hq;rw [h5];exact wpIn_exit ⟨_,hR,hq⟩
    ·cases hr
   ·cases hr
  ·cases hr
end
end
section
open Go.RowKit
abbrev Hn:=(β:Type)→J1 β
def q_:Nat→List A→Option (Tr A)
 | _,[]=>some .nil
 | i,p::ps=>match q_ (i+1) ps with
  | some F=>JU p (fun p=>dK F i (some p) some)
  | none=>none
def qk {β:Type} (E:Env) (n:Nat) (F:Tr A) (h:H):List ResultVar→(List A→List Nat→Option β)→Option β
 | [],k=>k [] []
 | .tmp i::r,k=>bif Nat.blt i n then qk E n F h r (fun ps l=>k (aT F.get i::ps) l) else none
 | .cell a T::r,k=>bif Nat.blt a n then Ii E T (aT F.get a) h (fun v _ T1=>qk E n F h r (fun ps l=>k (v::ps) (T1.rs++l))) else none
def uv {β:Type}:Tr fu→List Nat→(Tr fu→Option β)→Option β
 | t,[],k=>k t
 | t,d::ds,k=>match t.get d with
  | some (.cl .w6)=>bif Nat.blt d 16777216 then dK t d none (fun t=>uv t ds k) else none
  | _=>none
def wH:Exit→Bool
 | .normal=>true
 | .ret=>true
 | _=>false
abbrev FT:=Nat→Option (Func×av)
structure aM (P:Program) (f:Nat) (fn:Func) (x:av):Prop where
 bg:P.funcs[f]?=some fn
 body:fn.body=some x.code
 name : (fn.name == "runtime.NumGoroutine") = false
def uG (P:Program) (fns:FT):Prop:=∀f fn x,fns f=some (fn,x)→aM P f fn x
def I1 (E:Env) (fns:FT) (dr:Cx→Nat→Hn) (cx:Cx) {β:Type} (fn:Func) (F:Tr A) (h:H) (ds:List Nat) (U:Fp) (K:A→H→Fp→Option β):Option β:=match ds with
 | []=>qk E fn.ntmps F h fn.results.toList (fun ps l=>K (u_ ps) h (U.cat (.rd l)))
 | [d]=>bif Nat.ble 16777216 d then (match fns (d / 16777216-1) with
  | some (gn,x)=>match q_ 0 [.ptr (d%16777216) 0],fn.results.toList,gn.results.toList with
   | some G,[],[]=>bif Nat.ble 1 gn.ntmps then pO E cx false gn.ntmps (dr cx gn.ntmps β) x G h [] U (fun e _ h' g_ U'=>bif wH e && g_.isEmpty then K (u_ []) h' U' else none) else none
   | _,_,_=>none
  | none=>none) else uv h.t [d] (fun t'=>qk E fn.ntmps F { h with t:=t' } fn.results.toList (fun ps l=>K (u_ ps) { h with t:=t' } ((U.cat (.wr ([d].map cE))).cat (.rd l))))
 | ds=>uv h.t ds (fun t'=>qk E fn.ntmps F { h with t:=t' } fn.results.toList (fun ps l=>K (u_ ps) { h with t:=t' } ((U.cat (.wr (ds.map cE))).cat (.rd l))))
def UB (E:Env) (fns:FT) (dr:Cx→Nat→Hn) (cx:Cx) (β:Type) (f:FuncId) (aa:List A) (h:H) (K:A→H→Fp→Option β):Option β:=match fns f with
 | some (fn,x)=>match q_ 0 aa with
  | some F=>bif Nat.ble aa.length fn.ntmps then pO E cx false fn.ntmps (dr cx fn.ntmps β) x F h [] .no (fun e F' h' ds U=>bif wH e then I1 E fns dr cx fn F' h' ds U K else none) else none
  | none=>none
 | none=>none
def HD (E:Env) (dr:Cx→Nat→Hn) (cx:Cx) (β:Type) (y:A) (aa:List A) (h:H) (K:A→H→Fp→Option β):Option β:=match y with
 | .qd q n F ps _ j_ bd=>match h.t.get q with
  | some (.cl (.loop .ready _))=>bif Nat.blt q 16777216 then uY F ps aa (fun F1=>pO E cx true n (dr cx n β) j_ F1 h [] .no (fun e1 Fa ha kT T1=>match e1 with
   | .normal=>match ha.t.get q with
    | some (.cl (.loop .ready pe))=>dK ha.t q (some (.cl (.loop .busy pe))) (fun t2=>pO E cx true n (dr cx n β) bd Fa { ha with t:=t2 } kT .no (fun e2 _ hb _ T2=>match hb.t.get q,NJ e2 with
     | some (.cl (.loop _ _)),some jump=>dK hb.t q (some (.cl (.loop (zy jump) jump))) (fun t3=>K (.v (.bool jump.isNone)) { hb with t:=t3 } ((T1.cat (.wr [cE q])).cat (T2.cat (.wr [cE q]))))
     | _,_=>none))
    | _=>none
   | _=>none)) else none
  | _=>none
 | _=>none
def uT (E:Env) (fns:FT) (dr:Cx→Nat→Hn) (hm:List (Nat×Nat)) (cx:Cx):Cx:=⟨UB E fns dr cx,hm,HD E dr cx⟩
def yX (hm:List (Nat×Nat)):Cx:=⟨fun _ _ _ _ _=>none,hm,fun _ _ _ _ _=>none⟩
section
variable {P:Program} {E:Env} {n:Nat}
theorem uB:∀(aa:List A) (i:Nat) (F:Tr A),q_ i aa=some F→∀j,aT F.get j=if i≤j then aa.getD (j-i) .un else .un
 | [],i,F,h,j=>by
  cases h
  simp [aT,Tr.get_nil]
 | p::ps,i,F,h,j=>by
  simp only [q_] at h
  split at h
  ·rename_i F1 h1
   have ih:=uB ps (i+1) F1 h1 j
   rw [vH] at h
   obtain ⟨_,F2,hF,hg⟩:=bh h
   cases hF
   have e:aT F.get j=if j=i then p else aT F1.get j:=by
    simp only [aT,hg]
    by_cases hj:j=i
    ·rw [if_pos hj,if_pos hj]
    ·rw [if_neg hj,if_neg hj]
   rw [e,ih]
   by_cases hj:j=i
   ·subst hj;simp
   ·rw [if_neg hj]
    by_cases hk:i≤j
    ·rw [if_pos hk,if_pos (by omega),show j-i=(j-(i+1))+1 by omega,List.getD_cons_succ]
    ·rw [if_neg hk,if_neg (by omega)]
  ·cases h
theorem AP {P:Program} {T:Nat} {u v:Value} {ad:Addr} {w w':World} {a:Act} {o:Oper} (ho:o.op = .load T (.const u)) (hu:u = .pointer (some ad)) (h:(execOp a.eval o).run P w = .ok (.value v) w'):(loadVar T ad).run P w = .ok v w':=by
 simp only [execOp,ho,Act.eval,hu,Instr.loadAt,Instr.sureAddr,pure_bind] at h
 simp only [Sem.run_bind] at h
 generalize (loadVar T ad).run P w=res at h
 cases res with
 | ok x w1=>
  simp only [Result.andThen_ok,Sem.run_pure,Result.ok.injEq,Next.value.injEq] at h
  obtain ⟨rfl,rfl⟩:=h
  rfl
 | halt x w1=>cases h
theorem DT {β:Type} {E:Env} {T:Nat} {px:A} {h:H} {K:A→H→Fp→Option β} {r:β} (hr:Ii E T px h K=some r) {g:G} {u:Value} (hv:V g px u):∃ad,u = .pointer (some ad):=by
 unfold Ii at hr
 split at hr
 ·split at hr
  ·cases hv;exact ⟨_,rfl⟩
  ·cases hv;exact ⟨_,rfl⟩
  ·cases hv;exact ⟨_,rfl⟩
  ·cases hr
 ·cases hr
theorem oF {β:Type} {r:β} (hE:bL P E) {F:Tr A} {h:H}:∀(JE:List ResultVar) (k:List A→List Nat→Option β),qk E n F h JE k=some r →
  ∃ps l,k ps l=some r∧∀S2,Agree (.rd l) (hp h) S2→∀(g:G) (w:World) (tmps:Array Value),Inv g S2 w→(∀i,i<n→V g (aT F.get i) (tmps.getD i undef)) →
   ∃vs:List Value,(JE.mapM (fun rv=>tx rv tmps)).run P w = .ok vs w∧ps.length=vs.length∧∀(i:Nat) (p:A) (v:Value),ps[i]?=some p→vs[i]?=some v→V g p v
 | [],k,hk=>⟨[],[],hk,fun S2 _ g w tmps _ _=>⟨[],rfl,rfl,by simp⟩⟩
 | .tmp i::JE,k,hk=>by
  simp only [qk] at hk
  obtain ⟨hi,hk⟩:=af hk
  obtain ⟨ps,l,k1,k2⟩:=oF hE JE _ hk
  refine ⟨_,l,k1,fun S2 hA g w tmps hI hv=>?_⟩
  obtain ⟨vs,q1,q2,q3⟩:=k2 S2 hA g w tmps hI hv
  refine ⟨tmps.getD i undef::vs,?_,by simp [q2],fun k q x e1 e2=>?_⟩
  ·have:(tx (.tmp i) tmps).run P w = .ok (tmps.getD i undef) w:=rfl
   rw [List.mapM_cons]
   simp only [Sem.run_bind,this,Result.andThen_ok]
   rw [q1]
   simp only [Result.andThen_ok,Sem.run_pure]
  ·cases k with
   | zero=>
    simp only [List.getElem?_cons_zero,zI] at e1 e2
    subst e1 e2
    exact hv i (aU hi)
   | succ k=>exact q3 k q x (by simpa using e1) (by simpa using e2)
 | .cell a T::JE,k,hk=>by
  simp only [qk] at hk
  obtain ⟨hi,hk⟩:=af hk
  obtain ⟨v,l1,k0,kv⟩:=AQ hE hk
  obtain ⟨ps,l,k1,k2⟩:=oF hE JE _ k0
  refine ⟨_,_,k1,fun S2 hA g w tmps hI hv=>?_⟩
  have hA:Agree (.rd (l1++l)) (hp h) S2:=hA
  obtain ⟨vs,q1,q2,q3⟩:=k2 S2 (hA.mono fun i hi=>zS _ hi) g w tmps hI hv
  have ZB:=hv a (aU hi)
  obtain ⟨ad,ZR⟩:=DT hk ZB
  obtain ⟨x, u1, u2⟩ := kv S2 (hA.mono fun i hi => zQ _ hi) { dst := none, op := .load T (.const (tmps.getD a undef)), type := 0, pos := "", after := #[], guard := none } (fun _ => aT F.get a) (.const (tmps.getD a undef)) rfl rfl g w { tmps := #[], defers := [] } hI (fun y hy => by
   simp only [Op.operands,Array.mem_singleton] at hy
   subst hy;exact ZB)
  have dA:(tx (.cell a T) tmps).run P w = .ok x w:=by
   have:=AP rfl ZR u1
   show (do loadVar T (←asAddr (tmps.getD a undef)):Sem Value).run P w=_
   rw [ZR]
   exact this
  refine ⟨x::vs,?_,by simp [q2],fun k q y e1 e2=>?_⟩
  ·rw [List.mapM_cons]
   simp only [Sem.run_bind,dA,Result.andThen_ok]
   rw [q1]
   simp only [Result.andThen_ok,Sem.run_pure]
  ·cases k with
   | zero=>
    simp only [List.getElem?_cons_zero,zI] at e1 e2
    subst e1 e2
    exact u2
   | succ k=>exact q3 k q y (by simpa using e1) (by simpa using e2)
theorem Inv.drop {g:G} {S:Hp} {w:World} (h:Inv g S w) {d b:Nat} {s:Nat×Nat} (ho:S.ob d=some (.cl .w6)) (hg:g.bg d=some (some b,s)) :
  w.heap[b]?=some (.deferred (some []))∧Inv g (S.del d) (w.putObj b (.deferred none))∧Ext S g w (S.del d) g (w.putObj b (.deferred none)):=by
 obtain ⟨b1,s1,ob,k1,k2,k3⟩:=h.cl d _ ho
 rw [hg] at k1
 obtain ⟨rfl,rfl⟩:b=b1∧s=s1:=by simpa using k1
 have k3:ob = .deferred (some []):=k3
 subst k3
 have jG:∀{i x},(S.del d).ob i=some x→i≠d∧S.ob i=some x:=fun {i x} e=>by
  have e:(if i=d then none else S.ob i)=some x:=e
  split at e
  ·cases e
  ·exact ⟨by assumption,e⟩
 have Bi:∀k,k≠b→(w.putObj b (.deferred none)).heap[k]?=w.heap[k]?:=fun k l6=>World.putObj_heap_other l6
 refine ⟨k2,⟨fun i cs e=>?_,fun i x e=>?_,fun i e=>h.fresh i e,fun i b' s' e=>by rw [World.putObj_size];exact h.lt i b' s' e,fun i j x y b1 s1 s2 e1 e2=>h.inj i j _ _ b1 s1 s2 (jG e1).2 (jG e2).2,fun b' i x e=>?_,fun i b' s' j x e k=>h.kh i b' s' j _ (jG e).2 k,fun b' l e=>?_⟩,
  ⟨.refl g,rfl,rfl,rfl,by rw [World.putObj_size];exact Nat.le_refl _,fun k _ hn=>Bi k (fun hh=>hn ⟨d,s,_,ho,by rw [hh];exact hg⟩),fun k ⟨i,s',x,e1,e2⟩=>.inl ⟨i,s',x,(jG e1).2,e2⟩,fun _ _ e=>.inl e,fun _ e=>e,fun _ _ _ e=>.inl e,fun _ _ e=>.inl e⟩⟩
 ·obtain ⟨l6,e⟩:=jG e
  refine (h.cells i cs e).imp id fun ⟨b1,t,q1,cur,ty,q2,q3⟩=>⟨b1,t,q1,cur,ty,?_,q3⟩
  rw [Bi b1 (fun hb=>by subst hb;rw [k2] at q2;cases q2)];exact q2
 ·obtain ⟨l6,e⟩:=jG e
  obtain ⟨b1,s1,o1,q1,q2,q3⟩:=h.cl i x e
  exact ⟨b1,s1,o1,q1,by rw [Bi b1 (fun hb=>by subst hb;exact l6 (h.inj i d _ _ b1 s1 s e ho q1 hg))];exact q2,q3⟩
 ·obtain ⟨cur,ty,fz,q1,q2⟩:=h.mem b' i x e
  exact ⟨cur,ty,fz,by rw [Bi b' (fun hb=>by subst hb;rw [k2] at q1;cases q1)];exact q1,q2⟩
 ·obtain ⟨r,q1,q2⟩:=h.lp b' l e
  exact ⟨r,by rw [Bi b' (fun hb=>by subst hb;rw [k2] at q1;cases q1)];exact q1,q2⟩
theorem uu {β:Type} {r:β} {h:H}:∀(ds:List Nat) (t:Tr fu) (k:Tr fu→Option β),uv t ds k=some r→∃t',k t'=some r∧lV { h with t:=t } { h with t:=t' } (.wr (ds.map cE)) ∧
  ∀(fn:Func) (tmps:Array Value) (Rr:Ending→World→Prop) S2,Agree (.wr (ds.map cE)) (hp { h with t:=t }) S2→∀(g:G) (w:World) (l:List Deferred),Inv g S2 w→l9 g ds l →
   (∀w',Inv g (gL (.wr (ds.map cE)) (hp { h with t:=t' }) S2) w'→Ext S2 g w (gL (.wr (ds.map cE)) (hp { h with t:=t' }) S2) g w'→∃v,(results fn tmps).run P w' = .ok v w'∧Rr (.returned v) w')→LeavesInM (FR none) 0 P fn tmps Rr l .returning w
 | [],t,k,hk=>⟨t,hk,⟨fun _ _=>⟨rfl,Iff.rfl⟩,fun _ _=>⟨rfl,Iff.rfl⟩⟩,fun fn tmps Rr S2 hA g w l hI hd K=>by
  obtain rfl:l=[]:=List.length_eq_zero_iff.1 (by have:=hd.1;simpa using this.symm)
  have e:gL (.wr (List.map cE [])) (hp { h with t:=t }) S2=S2:=kY hA
  rw [e] at K
  exact K w hI (.refl _ g w)⟩
 | d::ds,t,k,hk=>by
  have hk:(match t.get d with | some (.cl .w6)=>_ | _=>none)=some r:=hk
  split at hk
  ·rename_i dI
   obtain ⟨OG,hk⟩:=af hk
   have OG:=aU OG
   obtain ⟨_,t1,k1,TJ⟩:=bh hk
   obtain ⟨t',q1,q2,q3⟩:=uu (h:=h) ds t1 k k1
   obtain ⟨f1,v1⟩:=w7 (h:={ h with t:=t }) OG TJ
   have ec:(Fp.wr [cE d]).cat (.wr (ds.map cE)) = .wr ((d::ds).map cE):=rfl
   have f1:lV { h with t:=t } { h with t:=t1 } (.wr [cE d]):=f1
   refine ⟨t',q1,ec▸f1.trans q2,fun fn tmps Rr S2 hA g w l hI hd K=>?_⟩
   rw [←ec] at hA K
   rw [←eL q2] at K
   have A1:=hA.left
   have A2:=Agree.right f1 hA
   have v1:=v1 S2 A1
   have v1:gL (.wr [cE d]) (hp { h with t:=t1 }) S2=S2.del d:=v1
   rw [v1] at A2 K
   cases l with
   | nil=>have:=hd.1;simp at this
   | cons el l=>
    obtain ⟨b,s,hg,rfl⟩:=(hd.2 0 d el rfl rfl).1 OG
    obtain ⟨u1,u2,u3⟩:=hI.drop (xf (x:=.cl .w6) OG dI A1 (.head _)) hg
    refine ⟨by simp,.inl ⟨b,_,rfl,run_takeDeferred u1,?_⟩⟩
    exact q3 fn tmps Rr _ A2 g _ l u2 ⟨by have:=hd.1;simpa using this,fun i d el e1 e2=>hd.2 (i+1) d el (by simpa using e1) (by simpa using e2)⟩ (fun w' z1 z2=>K w' z1 (u3.trans z2))
  ·cases hk
theorem QO {g:G} {aa:List A} {vs:List Value} {F:Tr A} {N:Nat} (Uw:q_ 0 aa=some F) (hl:aa.length=vs.length) (hn:aa.length≤N) (hv:∀(i:Nat) (p:A) (v:Value),aa[i]?=some p→vs[i]?=some v→V g p v) {S2:Hp} {w:World} (hI:Inv g S2 w) :
  R S2 g w (dT N F [] S2) { tmps:=vs.toArray++Array.replicate (N-vs.toArray.size) undef,defers:=[] } w:=by
 have nx:(vs.toArray++Array.replicate (N-vs.toArray.size) undef).size=N:=by simp;omega
 refine ⟨g,hI,.refl _ g w,⟨rfl,fun i d el e1=>by simp [dT] at e1⟩,nx,fun i hi=>?_⟩
 show V g (aT F.get i) ((vs.toArray++Array.replicate (N-vs.toArray.size) undef).getD i undef)
 rw [uB aa 0 F Uw i,if_pos (Nat.zero_le i),Nat.sub_zero,Array.getD_eq_getD_getElem?]
 by_cases hia:i<aa.length
 ·rw [Array.getElem?_append_left (by simp;omega)]
  have h1:aa[i]?=some aa[i]:=zD hia
  have h2 : vs[i]? = some (vs[i]'(by omega)) := zD (by omega)
  have:=hv i _ _ h1 h2
  simpa [List.getD,h1,h2] using this
 ·rw [Array.getElem?_append_right (by simp;omega)]
  have h1:aa[i]?=none:=zb (by omega)
  have h2:(Array.replicate (N-vs.toArray.size) undef)[i-vs.toArray.size]?.getD undef=undef:=by
   cases hx:(Array.replicate (N-vs.toArray.size) undef)[i-vs.toArray.size]? with
   | none=>rfl
   | some x=>
    obtain ⟨fp,og⟩:=Array.getElem?_eq_some_iff.1 hx
    rw [←og];simp
  rw [h2]
  simp only [List.getD,h1,Option.getD_none]
  exact .un
structure Cs (P:Program) (fn:Func) (F:Tr A) (h:H) (ds:List Nat) (h':H) (T:Fp) (pv:A):Prop where
 fr:lV h h' T
 ok:∀S2,Agree T (hp h) S2→∀(g:G) (w:World) (a:Act),Inv g S2 w→l9 g ds a.defers→(∀i,i<fn.ntmps→V g (aT F.get i) (a.tmps.getD i undef)) →
  LeavesInM (FR none) 0 P fn a.tmps (fun e w2=>∃v g',e = .returned v∧V g' pv v∧Inv g' (gL T (hp h') S2) w2∧Ext S2 g w (gL T (hp h') S2) g' w2) a.defers .returning w
theorem BR (hE:bL P E) {β:Type} {fn:Func} {F':Tr A} {h':H} {g_:List Nat} {U:Fp} {K:A→H→Fp→Option β} {r:β}
  (k1:uv h'.t g_ (fun t'=>qk E fn.ntmps F' { h' with t:=t' } fn.results.toList (fun ps l=>K (u_ ps) { h' with t:=t' } ((U.cat (.wr (g_.map cE))).cat (.rd l))))=some r) :
  ∃pv h2 T,K pv h2 (U.cat T)=some r∧Cs P fn F' h' g_ h2 T pv:=by
 obtain ⟨t',k5,k6,k7⟩:=uu (P:=P) (h:=h') g_ h'.t _ k1
 obtain ⟨ps,l,k8,k9⟩:=oF (P:=P) hE _ _ k5
 have f3:lV { h' with t:=t' } { h' with t:=t' } (.rd l):=⟨fun _ _=>⟨rfl,Iff.rfl⟩,fun _ _=>⟨rfl,Iff.rfl⟩⟩
 have k6:lV h' { h' with t:=t' } (.wr (g_.map cE)):=k6
 refine ⟨_,_,(Fp.wr (g_.map cE)).cat (.rd l),by rw [←Fp.gW];exact k8,k6.trans f3,fun S2 hA g w a hI hd hv=>?_⟩
 have A2:Agree (.wr (g_.map cE)) (hp h') S2:=hA.left
 have A3:=Agree.right k6 hA
 rw [←eL f3,kY A3]
 refine k7 fn a.tmps _ _ A2 g w a.defers hI hd (fun w2 i2 x2=>?_)
 obtain ⟨us,u1,u2,u3⟩:=k9 _ A3 g w2 a.tmps i2 hv
 have dA:=jv (P:=P) (fn:=fn) u1
 refine ⟨_,dA,_,g,rfl,?_,i2,x2⟩
 match ps,us,u2,u3 with
 | [p],[u],_,u3=>exact u3 0 p u rfl rfl
 | [],[],_,_=>exact .il [] #[] rfl (by simp)
 | p::q::ps,u::v::us,u2,u3=>
  rw [dif_neg (by simp)]
  exact .il _ _ (by simpa using u2) (fun i c x e1 e2=>u3 i c x e1 (by simpa using e2))
theorem I0 (hE:bL P E) {β:Type} {fn:Func} {F':Tr A} {h':H} {U:Fp} {K:A→H→Fp→Option β} {r:β}
  (k1:qk E fn.ntmps F' h' fn.results.toList (fun ps l=>K (u_ ps) h' (U.cat (.rd l)))=some r) :
  ∃pv h2 T,K pv h2 (U.cat T)=some r∧Cs P fn F' h' [] h2 T pv:=by
 obtain ⟨ps,l,k8,k9⟩:=oF (P:=P) hE _ _ k1
 have f3:lV h' h' (.rd l):=⟨fun _ _=>⟨rfl,Iff.rfl⟩,fun _ _=>⟨rfl,Iff.rfl⟩⟩
 refine ⟨_,_,.rd l,k8,f3,fun S2 hA g w a hI hd hv=>?_⟩
 rw [kY hA]
 have qX:a.defers=[]:=List.length_eq_zero_iff.1 (by have:=hd.1;simpa using this.symm)
 rw [qX]
 obtain ⟨us,u1,u2,u3⟩:=k9 _ hA g w a.tmps hI hv
 have dA:=jv (P:=P) (fn:=fn) u1
 refine ⟨_,dA,_,g,rfl,?_,hI,.refl _ g w⟩
 match ps,us,u2,u3 with
 | [p],[u],_,u3=>exact u3 0 p u rfl rfl
 | [],[],_,_=>exact .il [] #[] rfl (by simp)
 | p::q::ps,u::v::us,u2,u3=>
  rw [dif_neg (by simp)]
  exact .il _ _ (by simpa using u2) (fun i c x e1 e2=>u3 i c x e1 (by simpa using e2))
theorem Ev (hE:bL P E) {fns:FT} (hF:uG P fns) {dr:Cx→Nat→Hn} {cx:Cx} (hx:j9 P cx) (pH:∀n β,yI P n (dr cx n β)) {β:Type} {fn:Func} {F':Tr A} {h':H} {g_:List Nat} {U:Fp} {K:A→H→Fp→Option β} {r:β}
  (k1:I1 E fns dr cx fn F' h' g_ U K=some r):∃pv h2 T,K pv h2 (U.cat T)=some r∧Cs P fn F' h' g_ h2 T pv:=by
 unfold I1 at k1
 split at k1
 ·exact I0 hE k1
 ·rename_i d
  cases hb:Nat.ble 16777216 d with
  | false=>rw [hb] at k1;exact BR hE k1
  | true=>
   rw [hb] at k1
   have hb:=Nat.le_of_ble_eq_true hb
   simp only [cond_true] at k1
   split at k1
   ·rename_i gn x hg
    have OA:=hF _ gn x hg
    split at k1
    ·rename_i Gt hGa Ol Rs
     obtain ⟨hn,k1⟩:=af k1
     have hn:=Nat.le_of_ble_eq_true hn
     obtain ⟨e,F2,h2,uN,T,k2,_,k3,k4⟩:=gq hE hx (pH gn.ntmps β) x Gt h' [] _ _ k1
     obtain ⟨k5,k6⟩:=af k2
     clear k2
     simp only [zC] at k5
     obtain rfl:uN=[]:=by simpa using k5.2
     refine ⟨_,_,T,k6,k3,fun S2 hA g w a hI hd hv=>?_⟩
     match abm:a.defers,hd with
     | [el],hd=>
      obtain ⟨v,v1,v2⟩:=(hd.2 0 d el rfl rfl).2 hb
      subst v2
      refine ⟨by simp,.inr ⟨fun h=>by simp [FR,Fence.wide] at h,.func (d / 16777216-1),#[],d / 16777216-1,#[v],rfl,?_,fun _ _=>trivial,?_⟩⟩
      ·have Uh:sS P (d / 16777216-1):=⟨gn,OA.bg,OA.name,by rw [OA.body];rfl⟩
       show (callFunc (d / 16777216-1) (#[v] ++ #[])).run P w=_
       exact Uh.run _ w
      ·refine CallsDIn.mono (callsDIn_of_wp (R:=fun e w2=>e = .returned (.tuple #[])∧∃g',Inv g' (gL T (hp h2) S2) w2∧Ext S2 g w (gL T (hp h2) S2) g' w2) OA.bg OA.body trivial ?_) ?_
       ·have d0:=k4 none (fun _=>rfl) S2 g w S2 hA (fun e1 st=>e1=e∧st=dT gn.ntmps F2 [] (gL T (hp h2) S2)) ⟨rfl,rfl⟩
        have Uu:=QO (g:=g) (vs:=[v]) hGa rfl (by simpa using hn) (fun i p u e1 e2=>by
         cases i with
         | zero=>cases e1;cases e2;exact v1
         | succ i=>cases e1) hI
        refine wpIn_mono (d0 _ w Uu) ?_
        rintro e1 a2 w2 ⟨st,hR,rfl,rfl⟩
        obtain ⟨g1,i1,x1,d1,s1,_⟩:=hR
        have qX:a2.defers=[]:=List.length_eq_zero_iff.1 (by have:=d1.1;simpa [dT] using this.symm)
        have D3:(results gn a2.tmps).run P w2 = .ok (.tuple #[]) w2:=by
         have:=jv (P:=P) (fn:=gn) (tmps:=a2.tmps) (vs:=[]) (w:=w2) (by rw [Rs];rfl)
         exact this
        cases e1 with
        | normal=>exact ⟨qX,_,D3,rfl,g1,i1,x1⟩
        | ret=>exact ⟨qX,_,D3,rfl,g1,i1,x1⟩
        | _=>exact absurd k5.1 (by simp [wH])
       ·rintro e1 u' w2 ⟨rfl,rfl,g',i1,x1⟩
        have D3:(results fn a.tmps).run P w2 = .ok (.tuple #[]) w2:=by
         have:=jv (P:=P) (fn:=fn) (tmps:=a.tmps) (vs:=[]) (w:=w2) (by rw [Ol];rfl)
         exact this
        exact ⟨_,D3,_,g',rfl,.il [] #[] rfl (by simp),i1,x1⟩
     | [],hd=>exact absurd hd.1 (by simp)
     | _::_::_,hd=>exact absurd hd.1 (by simp)
    ·cases k1
   ·cases k1
 ·exact BR hE k1
theorem gG {F:Fence} {n:Nat} {fn:Func} {tmps:Array Value} {R R':Ending→World→Prop} (hr:∀e w,R e w→R' e w):∀(ds:List Deferred) (u:FrameMode) (w:World),LeavesInM F n P fn tmps R ds u w→LeavesInM F n P fn tmps R' ds u w
 | [],u,w,h=>by
  cases u with
  | run=>exact h
  | returning=>obtain ⟨v,h1,h2⟩:=h;exact ⟨v,h1,hr _ _ h2⟩
  | panicking c=>exact hr _ _ h
 | d::ds,u,w,h=>by
  obtain ⟨h0,h⟩:=h
  refine ⟨h0,?_⟩
  rcases h with ⟨r,w',h1,h2,h3⟩ | ⟨h1,fv,cap,f,args,h2,h3,h4,h5⟩
  ·exact .inl ⟨r,w',h1,h2,gG hr ds u w' h3⟩
  ·refine .inr ⟨h1,fv,cap,f,args,h2,h3,h4,h5.mono ?_⟩
   intro e u' w' he
   cases e with
   | returned v=>exact gG hr ds _ _ he
   | panicked c=>exact gG hr ds _ _ he
   | outgrown=>exact hr _ _ he
theorem IM (hE:bL P E) {fns:FT} (hF:uG P fns) {dr:Cx→Nat→Hn} {cx:Cx} (hx:j9 P cx) (pH:∀n β,yI P n (dr cx n β)) {β:Type} {f:FuncId} {aa:List A} {h:H} {K:A→H→Fp→Option β} {r:β} (hr:UB E fns dr cx β f aa h K=some r) :
  ∃pv h' T,K pv h' T=some r∧ra P f aa h h' T pv:=by
 unfold UB at hr
 split at hr
 ·rename_i fn x hf
  have D_:=hF f fn x hf
  split at hr
  ·rename_i F Uw
   obtain ⟨hn,hr⟩:=af hr
   have hn:=Nat.le_of_ble_eq_true hn
   obtain ⟨e,F',h',g_,T0,k1,_,k2,k3⟩:=gq hE hx (pH fn.ntmps β) x F h [] .no _ hr
   rw [Fp.nO] at k1
   obtain ⟨k4,k1⟩:=af k1
   obtain ⟨pv,h2,T,k8,k6,k7⟩:=Ev (P:=P) hE hF hx pH k1
   have f12:lV h h2 (T0.cat T):=k2.trans k6
   refine ⟨_,_,_,k8,f12.out,f12.rd,⟨fn,D_.bg,D_.name,by rw [D_.body];rfl⟩,fun S2 hA g w vs hI hl hv=>?_⟩
   have A1:=hA.left
   have A2:Agree T (hp h') _:=Agree.right k2 hA
   rw [←eL k6]
   have d:=k3 none (fun _=>rfl) S2 g w S2 A1 (fun e1 st=>e1=e∧st=dT fn.ntmps F' g_ (gL T0 (hp h') S2)) ⟨rfl,rfl⟩
   refine (callsIn_wide (n:=0)).1 (callsIn_of_wp_marks (F:=FR none) D_.bg D_.body trivial ?_)
   refine wpIn_mono (d _ w (QO Uw hl hn hv hI)) ?_
   rintro e1 a w' ⟨st,hR,rfl,rfl⟩
   obtain ⟨g1,i1,x1,d1,s1,v1⟩:=hR
   have key:LeavesInM (FR none) 0 P fn a.tmps (fun e w2=>∃v g',e = .returned v∧V g' pv v∧Inv g' (gL T (hp h2) (gL T0 (hp h') S2)) w2∧Ext S2 g w (gL T (hp h2) (gL T0 (hp h') S2)) g' w2) a.defers .returning w':=by
    refine gG ?_ _ _ _ (k7 _ A2 g1 w' a i1 d1 v1)
    rintro e w2 ⟨v,g',q1,q2,q3,q4⟩
    exact ⟨v,g',q1,q2,q3,x1.trans q4⟩
   cases e1 with
   | normal=>exact key
   | ret=>exact key
   | _=>exact absurd k4 (by simp [wH])
  ·cases hr
 ·cases hr
theorem C7 (hE:bL P E) {dr:Cx→Nat→Hn} {cx:Cx} (hx:j9 P cx) (pH:∀n β,yI P n (dr cx n β)) {β:Type} {y:A} {aa:List A} {h:H} {K:A→H→Fp→Option β} {r:β} (hr:HD E dr cx β y aa h K=some r) :
  ∃pv h' T,K pv h' T=some r∧Hk P y aa h h' T pv:=by
 unfold HD at hr
 split at hr
 ·rename_i q n F ps j j_ bd
  split at hr
  ·rename_i pe0 hq0
   obtain ⟨hq,hr⟩:=af hr
   have hq:=aU hq
   obtain ⟨F1,hr,hlen,sd⟩:=qL _ _ _ _ hr
   obtain ⟨e1,Fa,ha,kT,T1,hr,_,f1,d1⟩:=gq hE hx (pH n β) j_ F1 h [] .no _ hr
   rw [Fp.nO] at hr
   split at hr
   ·split at hr
    ·rename_i pe hqa
     obtain ⟨_,t2,hr,TH⟩:=bh hr
     obtain ⟨e2,Fb,hb,uN,T2,hr,_,f3,d2⟩:=gq hE hx (pH n β) bd Fa _ kT .no _ hr
     rw [Fp.nO] at hr
     split at hr
     ·rename_i st3 pe3 jump hqb hj
      obtain ⟨_,t3,hr,ht3⟩:=bh hr
      obtain ⟨f2,v2⟩:=v7 (h:=ha) hq TH
      obtain ⟨f4,v4⟩:=v7 (h:=hb) hq ht3
      have f12:=f1.trans f2
      have f34:=f3.trans f4
      have ft:=f12.trans f34
      refine ⟨_,_,_,hr,ft.out,ft.rd,fun S2 hA g w u vs hI hu hl hv=>?_⟩
      have Bw:=hA.left
      have vA:=Agree.right f12 hA
      rw [←eL f34,←eL f4]
      rw [←eL f2] at vA ⊢
      have A1:=Bw.left
      have A2:=Agree.right f1 Bw
      have A3:=vA.left
      have A4:=Agree.right f3 vA
      have dc:=xf (x:=.cl (.loop .ready pe)) hq hqa A2 (.head _)
      have t_:=xf (x:=.cl (.loop st3 pe3)) hq hqb A4 (.head _)
      have D7:S2.ob q=some (.cl (.loop .ready pe0))∨True:=.inr trivial
      rw [v4 _ A4]
      rw [v2 _ A2] at A3 A4 t_ ⊢
      cases hu with
      | qd _ _ _ _ _ _ _ b s lp h0 TW h1 h2 h3 h4 h5=>
      obtain ⟨rr,r1,r2⟩:=hI.lp b lp TW
      subst r2
      refine ⟨b,rr,rfl,r1,?_,?_⟩
      ·rw [←hl,hlen,←h1];simp [rR]
      have Qa:(rr.params.zip vs.toArray).foldl (fun tmps (t,a)=>tmps.setIfInBounds t a) rr.tmps=(ps.zip vs).foldl (fun tmps x=>tmps.setIfInBounds x.1 x.2) rr.tmps:=by
       rw [←Array.foldl_toList,Array.toList_zip,←h1];rfl
      rw [Qa]
      obtain ⟨z1,z2⟩:=sd g n vs rr.tmps hl hv h4 h5
      generalize (ps.zip vs).foldl (fun tmps x=>tmps.setIfInBounds x.1 x.2) rr.tmps=T at z1 z2
      have h2:rr.assign=j_.code:=h2
      have h3:rr.body=bd.code:=h3
      rw [h2,h3]
      refine roundIn_of_wpIn trivial ?_
      show j_.code.wpIn (FR (some b)) 0 P _ _ _
      have Uu:R S2 g w (dT n F1 [] S2) { tmps:=T,defers:=[] } w:=⟨g,hI,.refl _ g w,⟨rfl,fun i d el e1=>by simp [dT] at e1⟩,z1,z2⟩
      refine wpIn_mono (d1 (some b) (fun h=>by cases h) S2 g w S2 A1 (fun e st=>e = .normal∧st=dT n Fa kT (gL T1 (hp ha) S2)) ⟨rfl,rfl⟩ _ w Uu) ?_
      rintro e1 a1 w1 ⟨st,OL,rfl,rfl⟩
      obtain ⟨g1,i1,x1,Um,JL,CF⟩:=OL
      have i1:Inv g1 (gL T1 (hp ha) S2) w1:=i1
      obtain ⟨b1,s1,ob1,q1,q2,q3⟩:=i1.cl q _ dc
      have OK:=x1.le.bg _ _ h0
      rw [q1] at OK
      obtain ⟨rfl,rfl⟩:b1=b∧s1=s:=by simpa using OK
      obtain ⟨SV,rfl,u1,u2⟩:=q3
      obtain ⟨i2,x2⟩:=i1.zl (CZ:=.busy) (HM:=SV.pending) dc q1 q2
      rw [u2] at i2 x2
      refine ⟨_,run_beginRound q2 u1,?_⟩
      show bd.code.wpIn (FR (some b1)) 0 P _ _ _
      have eb:({ SV with state:=.busy }:Loop)={ SV with state:=.busy,pending:=pe }:=by rw [←u2]
      rw [eb]
      refine wpIn_mono (d2 (some b1) (fun h=>by cases h) S2 g w _ A3 (fun e st=>e=e2∧st=dT n Fb uN (gL T2 (hp hb) ((gL T1 (hp ha) S2).set q (.cl (.loop .busy pe))))) ⟨rfl,rfl⟩ a1 _ ⟨g1,i2,x1.trans x2,Um,JL,CF⟩) ?_
      rintro Qb a2 w3 ⟨st,hR3,rfl,rfl⟩
      obtain ⟨g3,i3,x3,_,_,_⟩:=hR3
      obtain ⟨b3,s3,ob3,p1,p2,p3⟩:=i3.cl q _ t_
      have OJ:=x3.le.bg _ _ h0
      rw [p1] at OJ
      obtain ⟨rfl,rfl⟩:b3=b1∧s3=s1:=by simpa using OJ
      obtain ⟨rr3,rfl,w1',w2'⟩:=p3
      have fin:∀jc:Option Code,NJ Qb=some jc→∃v w4,(Instr.endRound b3 jc).run P w3 = .ok v w4∧∃v' g',Ending.returned v = .returned v'∧V g' (.v (.bool jump.isNone)) v'∧Inv g' ((gL T2 (hp hb) ((gL T1 (hp ha) S2).set q (.cl (.loop .busy pe)))).set q (fu.cl (.loop (zy jump) jump)).low) w4∧Ext S2 g w ((gL T2 (hp hb) ((gL T1 (hp ha) S2).set q (.cl (.loop .busy pe)))).set q (fu.cl (.loop (zy jump) jump)).low) g' w4:=by
       intro jc ZL
       rw [hj] at ZL
       obtain rfl:=Option.some.inj ZL
       have sk:=run_endRound (P:=P) jump p2
       have est:(if jump.isNone=true then LoopState.ready else LoopState.done)=zy jump:=by cases jump<;>rfl
       rw [est] at sk
       obtain ⟨i4,x4⟩:=i3.zl (CZ:=zy jump) (HM:=jump) t_ p1 p2
       exact ⟨_,_,sk,_,g3,rfl,.v _,i4,x3.trans x4⟩
      cases Qb with
      | normal=>exact fin none rfl
      | ret=>exact fin _ rfl
      | exit id=>exact fin _ rfl
      | goto l=>cases hj
      | panic c=>cases hj
      | outgrown=>cases hj
     ·cases hr
    ·cases hr
   ·cases hr
  ·cases hr
 ·cases hr
theorem qK (hE:bL P E) {fns:FT} (hF:uG P fns) {dr:Cx→Nat→Hn} {hm:List (Nat×Nat)} {cx:Cx} (hx:j9 P cx) (pH:∀n β,yI P n (dr cx n β)):j9 P (uT E fns dr hm cx):=
 ⟨fun _ _ _ _ _ _ h=>IM hE hF hx pH h,fun _ _ _ _ _ _ h=>C7 hE hx pH h⟩
theorem xi (hm:List (Nat×Nat)):j9 P (yX hm):=⟨fun _ _ _ _ _ r h=>(by have h:(none:Option _)=some r:=h;cases h),fun _ _ _ _ _ r h=>(by have h:(none:Option _)=some r:=h;cases h)⟩
end
end
section
open Go.RowKit
def cf (T U:Fp):Bool:=(T.w || U.w) && (T.all || U.all || T.rs.any fun a=>U.rs.any (Nat.beq a))
def HG (ops:Array Oper):Nat→Nat→Nat→Bool
 | 0,_,_=>false
 | f+1,i,j=>dep ops i j || (List.range i).any fun m=>dep ops i m && HG ops f m j
theorem o9 {ops:Array Oper} {L:Nat→Bool} (hd:∀k j,L k=true→dep ops k j=true→L j=true):∀(f k j:Nat),L k=true→HG ops f k j=true→L j=true
 | 0,_,_,_,h=>by cases h
 | f+1,k,j,hk,h=>by
  simp only [HG,Bool.or_eq_true,List.any_eq_true,zC] at h
  rcases h with h | ⟨m,_,h1,h2⟩
  ·exact hd k j hk h
  ·exact o9 hd f m j (hd k m hk h1) h2
theorem C_ {ops:Array Oper} {L:Nat→Bool} {i:Nat} (h:CQ ops i L):∀(f j:Nat),HG ops f i j=true→L j=true
 | 0,_,h=>by cases h
 | f+1,j,hr=>by
  simp only [HG,Bool.or_eq_true,List.any_eq_true,zC] at hr
  rcases hr with hr | ⟨m,_,h1,h2⟩
  ·exact h.Ew j hr
  ·exact o9 h.down f m j (h.Ew m h1) h2
def indep (ops:Array Oper) (m:Nat) (Ts:List Fp):Bool:=(List.range m).all fun i=>(List.range i).all fun j=>!(cf (Ts.getD j .no) (Ts.getD i .no)) || HG ops m i j
theorem He {T U:Fp} {x:Nat} (h1:aF T x=true) (h2:aF U x=true) (hw:T.w=true∨U.w=true):cf T U=true:=by
 unfold cf
 rw [zC]
 refine ⟨by rcases hw with h | h<;>simp [h],?_⟩
 unfold aF at h1 h2
 simp only [Bool.or_eq_true,List.any_eq_true] at h1 h2 ⊢
 rcases h1 with h1 | ⟨a,ha,h1⟩
 ·exact .inl (.inl h1)
 ·rcases h2 with h2 | ⟨b,hb,h2⟩
  ·exact .inl (.inr h2)
  ·exact .inr ⟨a,ha,b,hb,by rw [←beq_eq h1,←beq_eq h2];exact Nat.beq_refl _⟩
def lT (S:Hp) (x:Nat):Option Ob×Prop:=(S.ob x,S.fr x)
theorem oM {S S':Hp} (h:∀x,lT S x=lT S' x):S=S':=Hp.ext' (fun i=>congrArg Prod.fst (h i)) (fun i=>by have:=congrArg Prod.snd (h i);exact Iff.of_eq this)
def uQ (T:Fp) (H S:Hp):Hp:=bif T.w then gL T H S else S
theorem xe (T:Fp) (H S:Hp) (x:Nat):lT (uQ T H S) x=if (T.w && aF T x)=true then lT H x else lT S x:=by
 unfold uQ
 cases hw:T.w with
 | false=>simp
 | true=>
  simp only [cond_true,Bool.true_and]
  show (if aF T x=true then H.ob x else S.ob x,if aF T x=true then H.fr x else S.fr x)=_
  cases aF T x<;>rfl
def kF (L:Nat→Bool):List (Fp×Hp)→Nat→Hp→Hp
 | [],_,S=>S
 | (T,H)::r,j,S=>kF L r (j+1) (bif L j then uQ T H S else S)
def fx (L:Nat→Bool) (x:Nat):List (Fp×Hp)→Nat→Option Ob×Prop→Option Ob×Prop
 | [],_,v=>v
 | (T,H)::r,j,v=>fx L x r (j+1) (if (L j && (T.w && aF T x))=true then lT H x else v)
theorem gX (L:Nat→Bool) (x:Nat):∀(r:List (Fp×Hp)) (j:Nat) (S:Hp),lT (kF L r j S) x=fx L x r j (lT S x)
 | [],_,_=>rfl
 | (T,H)::r,j,S=>by
  unfold kF fx
  rw [gX L x r]
  congr 1
  cases hl:L j with
  | true=>simp only [cond_true,Bool.true_and];exact xe T H S x
  | false=>simp
theorem lh {L L':Nat→Bool} {x:Nat}:∀(r:List (Fp×Hp)) (j:Nat) (v:Option Ob×Prop),(∀m T H,r[m]?=some (T,H)→(T.w && aF T x)=true→L (j+m)=L' (j+m))→fx L x r j v=fx L' x r j v
 | [],_,_,_=>rfl
 | (T,H)::r,j,v,h=>by
  unfold fx
  have e:(if (L j && (T.w && aF T x))=true then lT H x else v)=(if (L' j && (T.w && aF T x))=true then lT H x else v):=by
   cases hw:(T.w && aF T x) with
   | false=>simp
   | true=>rw [show L j=L' j from h 0 T H rfl hw]
  rw [e]
  exact lh r (j+1) _ (fun m T' H' hm hw=>by have:=h (m+1) T' H' (by simpa using hm) hw;rwa [show j+(m+1)=j+1+m by omega] at this)
def xg (H0:Hp) (rs:List (Fp×Hp)):Nat→Hp
 | 0=>H0
 | m+1=>match rs[m]? with
  | some q=>q.2
  | none=>H0
def jC (H0:Hp) (rs:List (Fp×Hp)):Prop:=∀m T H,rs[m]?=some (T,H)→(∀x,aF T x=false→lT H x=lT (xg H0 rs m) x)∧(T.w=false→H=xg H0 rs m)
theorem jq {H0:Hp} {q:Fp×Hp} {rs:List (Fp×Hp)} (m:Nat) (hm:m≤rs.length):xg H0 (q::rs) (m+1)=xg q.2 rs m:=by
 cases m with
 | zero=>rfl
 | succ m=>
  show (match (q::rs)[m+1]? with | some q=>q.2 | none=>H0)=(match rs[m]? with | some q'=>q'.2 | none=>q.2)
  rw [List.getElem?_cons_succ,zD (show m<rs.length by omega)]
theorem jC.tail {H0:Hp} {q:Fp×Hp} {rs:List (Fp×Hp)} (h:jC H0 (q::rs)):jC q.2 rs:=fun m T H hm=>by
 have:=h (m+1) T H (by simpa using hm)
 rw [jq m (Nat.le_of_lt (zB.1 hm).1)] at this
 exact this
theorem oK {x:Nat}:∀(rs:List (Fp×Hp)) (H0:Hp) (j i:Nat),jC H0 rs→i≤rs.length→fx (fun k=>decide (k<j+i)) x rs j (lT H0 x)=lT (xg H0 rs i) x
 | [],H0,j,i,_,hi=>by
  have:i=0:=by simpa using hi
  subst this;rfl
 | (T,H)::rs,H0,j,0,hc,_=>by
  have NZ:∀(r:List (Fp×Hp)) (k:Nat) (v:Option Ob×Prop),j≤k→fx (fun k=>decide (k<j+0)) x r k v=v:=by
   intro r
   induction r with
   | nil=>intro k v _;rfl
   | cons q r ih=>
    intro k v hk
    obtain ⟨T,H⟩:=q
    unfold fx
    rw [show (decide (k<j+0))=false by simpa using hk]
    simp only [Bool.false_and,Bool.false_eq_true,if_false]
    exact ih (k+1) v (by omega)
  exact NZ _ j _ (Nat.le_refl _)
 | (T,H)::rs,H0,j,i+1,hc,hi=>by
  unfold fx
  rw [show (decide (j<j+(i+1)))=true by simp]
  simp only [Bool.true_and]
  have h0:=hc 0 T H rfl
  have e:(if (T.w && aF T x)=true then lT H x else lT H0 x)=lT H x:=by
   cases hw:T.w with
   | false=>rw [h0.2 hw];simp [xg]
   | true=>
    cases ht:aF T x with
    | true=>simp
    | false=>simp only [Bool.and_false,Bool.false_eq_true,if_false];exact (h0.1 x ht).symm
  rw [e,jq i (by simpa using hi)]
  have:=oK (x:=x) rs H (j+1) i hc.tail (by simpa using hi)
  rw [show j+1+i=j+(i+1) by omega] at this
  exact this
theorem tX {ops:Array Oper} {H0 S2:Hp} {rs:List (Fp×Hp)} (hc:jC H0 rs) (hi:indep ops rs.length (rs.map (·.1))=true) (hA:∀T H,(T,H)∈rs→Agree T H0 S2) {i:Nat} {T:Fp} {H:Hp} (hr:rs[i]?=some (T,H)) {L:Nat→Bool} (ha:CQ ops i L) :
  Agree T (xg H0 rs i) (kF L rs 0 S2)∧kF (ins L i) rs 0 S2=uQ T H (kF L rs 0 S2):=by
 have fp:=(zB.1 hr).1
 have G2:∀(a b:Nat) (Ta Tb:Fp) (Ha Hb:Hp),b<rs.length→a<b→rs[a]?=some (Ta,Ha)→rs[b]?=some (Tb,Hb)→cf Ta Tb=true→HG ops rs.length b a=true:=fun a b Ta Tb Ha Hb h1 h2 h3 h4 h5=>by
  unfold indep at hi
  have:=List.all_eq_true.1 (List.all_eq_true.1 hi b (List.mem_range.2 h1)) a (List.mem_range.2 h2)
  have ga:(rs.map (·.1)).getD a .no=Ta:=by simp [zA,zL,h3]
  have gb:(rs.map (·.1)).getD b .no=Tb:=by simp [zA,zL,h4]
  rw [ga,gb,h5] at this
  simpa using this
 have Zf:∀x,aF T x=true→∀m T' H',rs[m]?=some (T',H')→(T'.w && aF T' x)=true→m≠i→L m=decide (m<i):=fun x hx m T' H' hm hw l6=>by
  simp only [zC] at hw
  have hml:=(zB.1 hm).1
  rcases Nat.lt_or_ge m i with vu | vu
  ·rw [show decide (m<i)=true by simpa using vu]
   exact C_ ha _ m (G2 m i T' T H' H fp vu hm hr (He hw.2 hx (.inl hw.1)))
  ·have vu:i<m:=by omega
   rw [show decide (m<i)=false by simp;omega]
   cases hl:L m with
   | false=>rfl
   | true=>
    have:=o9 ha.down _ m i hl (G2 i m T T' H H' hml vu hr hm (He hx hw.2 (.inr hw.1)))
    rw [ha.new] at this;cases this
 have base:∀x,aF T x=true→lT S2 x=lT H0 x:=fun x hx=>by
  have:=hA T H (zG hr) x hx
  exact Prod.ext this.1 (propext this.2)
 have pre:∀x,aF T x=true→lT (kF L rs 0 S2) x=lT (xg H0 rs i) x:=fun x hx=>by
  rw [gX,base x hx,←oK rs H0 0 i hc (Nat.le_of_lt fp)]
  refine lh rs 0 _ (fun m T' H' hm hw=>?_)
  simp only [Nat.zero_add]
  by_cases vu:m=i
  ·subst vu;rw [ha.new];simp
  ·exact Zf x hx m T' H' hm hw vu
 refine ⟨fun x hx=>?_,oM fun x=>?_⟩
 ·have:=pre x hx
  exact ⟨congrArg Prod.fst this,Iff.of_eq (congrArg Prod.snd this)⟩
 ·rw [xe]
  by_cases hw:(T.w && aF T x)=true
  ·rw [if_pos hw]
   simp only [zC] at hw
   have e:xg H0 rs (i+1)=H:=by
    show (match rs[i]? with | some q=>q.2 | none=>H0)=H
    rw [hr]
   rw [←e,gX,base x hw.2,←oK rs H0 0 (i+1) hc fp]
   refine lh rs 0 _ (fun m T' H' hm TA=>?_)
   simp only [Nat.zero_add]
   by_cases vu:m=i
   ·subst vu;simp [ins]
   ·have:=Zf x hw.2 m T' H' hm TA vu
    show (m == i || L m)=decide (m<i+1)
    rw [this,show (m == i)=false by simpa using vu,Bool.false_or]
    by_cases h1:m<i
    ·rw [show decide (m<i)=true by simpa using h1,show decide (m<i+1)=true by simp;omega]
    ·rw [show decide (m<i)=false by simpa using h1,show decide (m<i+1)=false by simp;omega]
  ·rw [if_neg hw,gX,gX]
   refine lh rs 0 _ (fun m T' H' hm TA=>?_)
   simp only [Nat.zero_add]
   by_cases vu:m=i
   ·subst vu;rw [hr] at hm;cases hm;exact absurd TA hw
   ·show (m == i || L m)=L m
    rw [show (m == i)=false by simpa using vu,Bool.false_or]
end
section
open Go.RowKit
section
variable {P:Program} {E:Env} {cx:Cx} {n:Nat} {β:Type} {r:β}
def kM:List Fp→Fp
 | []=>.no
 | T::r=>T.cat (kM r)
def vL (E:Env) (cx:Cx) (n:Nat) (l0:List Oper):List Oper→Tr A→H→List Fp→(Tr A→H→List Fp→Option β)→Option β
 | [],F,h,acc,K=>K F h acc
 | o::l,F,h,acc,K=>match o.guard with
  | none=>H4 E cx n o.op F h (fun F pv h' T=>rF F o.dst pv (fun F'=>vL E cx n l0 l F' h' (acc++[T]) K))
  | some (j,want)=>Ef l0 n F j want (fun F b=>bif b then H4 E cx n o.op F h (fun F pv h' T=>rF F o.dst pv (fun F'=>vL E cx n l0 l F' h' (acc++[T]) K)) else rF F o.dst .un (fun F'=>vL E cx n l0 l F' h (acc++[.no]) K))
def Wn (E:Env) (cx:Cx) (n:Nat) (β:Type) (_id:Nat) (ops:List Oper) (F:Tr A) (h:H) (U:Fp) (K:Tr A→H→Fp→Option β):Option β:=
 bif QJ ops.toArray then vL E cx n ops ops F h [] (fun F h Ts=>bif indep ops.toArray ops.length Ts then K F h (U.cat (kM Ts)) else none) else none
def nj (ops:Array Oper) (H0:Hp) (rs:List (Fp×Hp)) (Sf:(Nat→Bool)→Hp) (k:Nat):Prop:=
 ∀m T H,rs[m]?=some (T,H)→∀L,CQ ops (k+m) L→Agree T (xg H0 rs m) (Sf L)∧Sf (ins L (k+m))=uQ T H (Sf L)
theorem nj.tail {ops:Array Oper} {H0:Hp} {q:Fp×Hp} {rs:List (Fp×Hp)} {Sf:(Nat→Bool)→Hp} {k:Nat} (h:nj ops H0 (q::rs) Sf k):nj ops q.2 rs Sf (k+1):=fun m T H hm L ha=>by
 have:=h (m+1) T H (by simpa using hm) L (by rwa [show k+(m+1)=k+1+m by omega])
 rw [jq m (Nat.le_of_lt (zB.1 hm).1),show k+(m+1)=k+1+m by omega] at this
 exact this
theorem jC.cons {H0:Hp} {T:Fp} {H:Hp} {rs:List (Fp×Hp)} (h1:∀x,aF T x=false→lT H x=lT H0 x) (h2:T.w=false→H=H0) (h:jC H rs):jC H0 ((T,H)::rs):=fun m T' H' hm=>by
 cases m with
 | zero=>simp at hm;obtain ⟨rfl,rfl⟩:=hm;exact ⟨h1,h2⟩
 | succ m=>
  have Ov:rs[m]?=some (T',H'):=by simpa using hm
  rw [jq m (Nat.le_of_lt (zB.1 Ov).1)]
  exact h m T' H' Ov
theorem sC (hE:bL P E) (hx:j9 P cx) {l0:List Oper}:∀(l:List Oper) (F:Tr A) (h:H) (acc:List Fp) (K:Tr A→H→List Fp→Option β),vL E cx n l0 l F h acc K=some r →
  ∃F' h' rs,K F' h' (acc++rs.map (·.1))=some r∧Kp (oD l) F F'∧rs.length=l.length∧jC (hp h) rs∧(∀x,wt (kM (rs.map (·.1))) x=false→lT (hp h') x=lT (hp h) x)∧xg (hp h) rs rs.length=hp h'∧∀Sf k,nj l0.toArray (hp h) rs Sf k→∀ds S (Kf:St→Prop),Kf (dT n F' ds S)→pR P l0.toArray Sf l k (dT n F ds S) Kf
 | [],F,h,acc,K,hr=>⟨F,h,[],by have hr:K F h acc=some r:=hr;simpa using hr,.refl _ F,rfl,fun m T H hm=>by simp at hm,fun _ _=>rfl,rfl,fun Sf k _ ds S Kf hk=>hk⟩
 | o::l,F,h,acc,K,hr=>by
  have yes:∀(F:Tr A),H4 E cx n o.op F h (fun F pv h' T=>rF F o.dst pv (fun F'=>vL E cx n l0 l F' h' (acc++[T]) K))=some r →
    (∀ds S,o.guard=none∨∃j want,o.guard=some (j,want)∧lf l0.toArray (dT n F ds S) j want=some true) →
    ∃F' h' rs,K F' h' (acc++rs.map (·.1))=some r∧Kp (oD (o::l)) F F'∧rs.length=(o::l).length∧jC (hp h) rs∧(∀x,wt (kM (rs.map (·.1))) x=false→lT (hp h') x=lT (hp h) x)∧xg (hp h) rs rs.length=hp h'∧∀Sf k,nj l0.toArray (hp h) rs Sf k→∀ds S (Kf:St→Prop),Kf (dT n F' ds S)→pR P l0.toArray Sf (o::l) k (dT n F ds S) Kf:=fun F hr hg=>by
   obtain ⟨F0,e0,pv,h1,T1,k1,k2⟩:=Av hE hx hr
   obtain ⟨F1,k3,Ij,k4⟩:=oG k1
   obtain ⟨F2,h2,rs,k5,Tj,k6,k7,kw,k8,k9⟩:=sC hE hx l F1 h1 (acc++[T1]) K k3
   have hg:∀ds S,o.guard=none∨∃j want,o.guard=some (j,want)∧lf l0.toArray (dT n F0 ds S) j want=some true:=fun ds S=>by rw [e0];exact hg ds S
   refine ⟨F2,h2,(T1,hp h1)::rs,by simpa using k5,(Kp.of (l:=[]) e0).trans (m:=oD (o::l)) (Ij.trans Tj (fun i hi=>zQ _ hi) (fun i hi=>zS _ hi)) (fun i hi=>by cases hi) (fun i hi=>hi),by simp [k6],jC.cons (fun x hx=>Prod.ext (k2.out x hx).1 (propext (k2.out x hx).2)) (fun hw=>oM fun x=>Prod.ext (k2.rd x (CS hw)).1 (propext (k2.rd x (CS hw)).2)) k7,fun x hx=>(kw x (oN hx).2).trans (Prod.ext (k2.rd x (oN hx).1).1 (propext (k2.rd x (oN hx).1).2)),by rw [zR,jq _ (Nat.le_refl _)];exact k8,fun Sf k hs ds S Kf hk=>?_⟩
   rw [←e0 ds S]
   refine ⟨pv,?_,?_⟩
   ·have oA:∀L,CQ l0.toArray k L→yF P o ((dT n F0 ds S).sW 0) (Sf L) (Sf (ins L k)) pv:=fun L ha=>by
     obtain ⟨q1,q2⟩:=hs 0 T1 (hp h1) rfl L ha
     have q1:Agree T1 (hp h) (Sf L):=q1
     have q2:Sf (ins L k)=uQ T1 (hp h1) (Sf L):=q2
     rw [←nM,q2]
     have:=k2.ok (Sf L) q1
     unfold uQ
     cases hw:T1.w with
     | true=>exact this
     | false=>
      rw [show hp h1=hp h from oM fun x=>Prod.ext (k2.rd x (CS hw)).1 (propext (k2.rd x (CS hw)).2),kY q1] at this
      exact this
    unfold qJ
    rcases hg ds S with hg | ⟨j,want,hg,hv⟩
    ·rw [hg];exact ⟨0,oA⟩
    ·rw [hg];exact .inl ⟨hv,0,oA⟩
   ·have:=k9 Sf (k+1) hs.tail ds S Kf hk
    rw [←k4 n ds S S,show ((dT n F0 ds S).put o.dst pv).to S=(dT n F0 ds S).put o.dst pv from rB _ _] at this
    exact this
  unfold vL at hr
  split at hr
  ·rename_i hg
   exact yes F hr (fun _ _=>.inl hg)
  ·rename_i j want hg
   obtain ⟨F1,b,k1,k2,k3⟩:=wU hr
   cases b with
   | true=>
    simp only [cond_true] at k1
    obtain ⟨F',h',rs,q1,qp,q2,q3,qw,q4,q5⟩:=yes F1 k1 (fun ds S=>.inr ⟨j,want,hg,by rw [k2];exact k3 ds S⟩)
    refine ⟨F',h',rs,q1,(Kp.of (l:=[]) k2).trans qp (fun i hi=>by cases hi) (fun i hi=>hi),q2,q3,qw,q4,fun Sf k hs ds S Kf hk=>?_⟩
    rw [←k2]
    exact q5 Sf k hs ds S Kf hk
   | false=>
    simp only [cond_false] at k1
    obtain ⟨F2,k4,Ij,k5⟩:=oG k1
    obtain ⟨F',h',rs,q1,qp,q2,q3,qw,q4,q5⟩:=sC hE hx l F2 h (acc++[.no]) K k4
    refine ⟨F',h',(.no,hp h)::rs,by simpa using q1,(Kp.of (l:=[]) k2).trans (m:=oD (o::l)) (Ij.trans qp (fun i hi=>zQ _ hi) (fun i hi=>zS _ hi)) (fun i hi=>by cases hi) (fun i hi=>hi),by simp [q2],.cons (fun _ _=>rfl) (fun _=>rfl) q3,fun x hx=>qw x (oN hx).2,by rw [zR,jq _ (Nat.le_refl _)];exact q4,fun Sf k hs ds S Kf hk=>⟨.un,?_,?_⟩⟩
    ·unfold qJ
     rw [hg]
     exact .inr ⟨k3 ds S,fun g=>.un,fun L ha=>(hs 0 .no (hp h) rfl L ha).2⟩
    ·have:=q5 Sf (k+1) hs.tail ds S Kf hk
     rw [←k5 n ds S S,show ((dT n F1 ds S).put o.dst .un).to S=(dT n F1 ds S).put o.dst .un from rB _ _] at this
     rw [←k2]
     exact this
theorem mc {x:Nat}:∀(Ts:List Fp),aF (kM Ts) x=Ts.any fun T=>aF T x
 | []=>rfl
 | T::r=>by
  show aF (T.cat (kM r)) x=_
  rw [gS,mc r,List.any_cons]
theorem yv {H0:Hp}:∀(rs:List (Fp×Hp)),jC H0 rs→(∀x,aF (kM (rs.map (·.1))) x=false→lT (xg H0 rs rs.length) x=lT H0 x)∧((kM (rs.map (·.1))).w=false→xg H0 rs rs.length=H0):=fun rs=>by
 induction rs generalizing H0 with
 | nil=>exact fun _=>⟨fun _ _=>rfl,fun _=>rfl⟩
 | cons q rs ih=>
  intro hc
  obtain ⟨T,H⟩:=q
  obtain ⟨i1,i2⟩:=ih hc.tail
  have h0:=hc 0 T H rfl
  rw [zR,jq _ (Nat.le_refl _)]
  refine ⟨fun x hx=>?_,fun hw=>?_⟩
  ·have hx:aF (T.cat (kM (rs.map (·.1)))) x=false:=hx
   rw [gS,Bool.or_eq_false_iff] at hx
   exact (i1 x hx.2).trans (h0.1 x hx.1)
  ·have hw:(T.w || (kM (rs.map (·.1))).w)=false:=hw
   rw [Bool.or_eq_false_iff] at hw
   exact (i2 hw.2).trans (h0.2 hw.1)
theorem BU (hE:bL P E) (hx:j9 P cx) (hm:P.follows .mixedOrders=true) (n:Nat) (β:Type):yI P n (Wn E cx n β):=fun id ops F h U K r hr=>by
 obtain ⟨hch,hr⟩:=af hr
 obtain ⟨F',h',rs,k1,kp,k2,k3,kw,k4,k5⟩:=sC hE hx ops F h [] _ hr
 rw [List.nil_append] at k1
 obtain ⟨hi,k1⟩:=af k1
 rw [←k2] at hi
 refine ⟨F',h',kM (rs.map (·.1)),k1,kp,fun inr ds=>?_⟩
 obtain ⟨e1,e2⟩:=yv rs k3
 rw [k4] at e1 e2
 refine ⟨⟨fun x hx=>⟨congrArg Prod.fst (e1 x hx),Iff.of_eq (congrArg Prod.snd (e1 x hx))⟩,fun x hx=>⟨congrArg Prod.fst (kw x hx),Iff.of_eq (congrArg Prod.snd (kw x hx))⟩⟩,fun ro _ S0 g0 w0 S2 hA Q hq=>?_⟩
 have ON:∀T H,(T,H)∈rs→Agree T (hp h) S2:=fun T H sf x hx=>hA x (by
  rw [mc,List.any_eq_true]
  exact ⟨T,List.mem_map.2 ⟨_,sf,rfl⟩,hx⟩)
 have zero:∀(r:List (Fp×Hp)) (j:Nat) (S:Hp),kF (fun _=>false) r j S=S:=fun r=>by
  induction r with
  | nil=>exact fun _ _=>rfl
  | cons q r ih=>exact fun j S=>ih (j+1) S
 refine De (fun L=>kF L rs 0 S2) hm hch (zero rs 0 S2) ?_
 refine k5 (fun L=>kF L rs 0 S2) 0 (fun m T H TU L ha=>?_) ds S2 _ ?_
 ·rw [Nat.zero_add] at ha ⊢
  exact tX k3 hi ON TU ha
 ·have e:kF (fun j=>decide (j<ops.length)) rs 0 S2=gL (kM (rs.map (·.1))) (hp h') S2:=oM fun x=>by
   rw [gX]
   cases ht:aF (kM (rs.map (·.1))) x with
   | true=>
    have b:lT S2 x=lT (hp h) x:=Prod.ext (hA x ht).1 (propext (hA x ht).2)
    have:=oK (x:=x) rs (hp h) 0 rs.length k3 (Nat.le_refl _)
    rw [Nat.zero_add,k4,k2] at this
    rw [b,this]
    show lT (hp h') x=(if aF (kM (rs.map (·.1))) x=true then (hp h').ob x else S2.ob x,if aF (kM (rs.map (·.1))) x=true then (hp h').fr x else S2.fr x)
    rw [if_pos ht,if_pos ht];rfl
   | false=>
    rw [lh (L':=fun _=>false) rs 0 _ (fun m T H TU hw=>by
     simp only [zC] at hw
     have:aF (kM (rs.map (·.1))) x=true:=by
      rw [mc,List.any_eq_true]
      exact ⟨T,List.mem_map.2 ⟨_,zG TU,rfl⟩,hw.2⟩
     rw [this] at ht;cases ht),←gX,zero]
    show lT S2 x=(if aF (kM (rs.map (·.1))) x=true then (hp h').ob x else S2.ob x,if aF (kM (rs.map (·.1))) x=true then (hp h').fr x else S2.fr x)
    rw [if_neg (by rw [ht];simp),if_neg (by rw [ht];simp)];rfl
  show Q .normal ((dT n F' ds S2).to (kF (fun j=>decide (j<ops.length)) rs 0 S2))
  rw [e]
  exact hq
end
end
open Go.RowKit
inductive sQ (P:Program):Nat→Nat→yD→Prop
 | nil (a b:Nat):sQ P a b .nil
 | no {a b:Nat} {l r:yD} (h1:sQ P (2*a) (a+b) l) (h2:sQ P (2*a) (2*a+b) r):sQ P a b (.node l none r)
 | yes {a b:Nat} {e:cm} {l r:yD} (h:bj P b e) (h1:sQ P (2*a) (a+b) l) (h2:sQ P (2*a) (2*a+b) r):sQ P a b (.node l (some e) r)
theorem CY {P:Program} {T:yD} {a b:Nat} (h:sQ P a b T):∀t e,bZ T t=some e→bj P (a*t+b) e:=by
 have key:∀(a b:Nat) (l r:yD),(∀t e,bZ l t=some e→bj P (2*a*t+(a+b)) e)→(∀t e,bZ r t=some e→bj P (2*a*t+(2*a+b)) e) →
   ∀n e v,bZ (.node l v r) (n+1)=some e→bj P (a*(n+1)+b) e:=by
  intro a b l r hl hr n e v ht
  rw [xk] at ht
  cases hn:Nat.beq (n%2) 0 with
  | true=>
   rw [hn] at ht
   have h0:=Nat.eq_of_beq_eq_true hn
   have:=hl _ e ht
   have e1:a*(n+1)+b=2*a*(n / 2)+(a+b):=by
    have:n=2*(n / 2):=by omega
    generalize n / 2=k at this
    subst this
    rw [Nat.mul_add,Nat.mul_one,Nat.mul_comm 2 a,Nat.mul_assoc];omega
   rw [e1];exact this
  | false=>
   rw [hn] at ht
   have h0:n%2≠0:=fun h=>by rw [h] at hn;cases hn
   have:=hr _ e ht
   have e1:a*(n+1)+b=2*a*(n / 2)+(2*a+b):=by
    have:n=2*(n / 2)+1:=by omega
    generalize n / 2=k at this
    subst this
    rw [show 2*k+1+1=2*(k+1) by omega,←Nat.mul_assoc,Nat.mul_comm a 2,Nat.mul_add,Nat.mul_one];omega
   rw [e1];exact this
 induction h with
 | nil=>intro t e h;cases h
 | no h1 h2 Ba DZ=>
  intro t e ht
  cases t with
  | zero=>cases ht
  | succ n=>exact key _ _ _ _ Ba DZ n e _ ht
 | yes h h1 h2 Ba DZ=>
  intro t e ht
  cases t with
  | zero=>cases ht;rw [Nat.mul_zero,Nat.zero_add];exact h
  | succ n=>exact key _ _ _ _ Ba DZ n e _ ht
theorem CV {P:Program} {T:yD} (h:sQ P 1 0 T):∀t e,bZ T t=some e→bj P t e:=fun t e ht=>by
 have:=CY h t e ht
 rwa [Nat.one_mul,Nat.add_zero] at this
inductive RP (P:Program):List Nat→Prop
 | nil:RP P []
 | cons {t:Nat} {r:List Nat} (h:gu P t) (k:RP P r):RP P (t::r)
theorem IV {P:Program} {l:List Nat} (h:RP P l):∀t,l.any (Nat.beq t)=true→gu P t:=by
 induction h with
 | nil=>intro f h;simp at h
 | cons h k ih=>
  rename_i f0 r
  intro f hf
  rw [List.any_cons,Bool.or_eq_true] at hf
  rcases hf with hf | hf
  ·obtain rfl:=Nat.eq_of_beq_eq_true hf;exact h
  ·exact ih f hf
theorem b4 {P : Program} {t : Nat} {fs : Array Field} (h1 : P.stoodInHeld t = false) (h2 : P.eqGuardType P.depth t = false) (h3 : P.underlying t = some (.struct fs)) (h4 : fs.toList.all (fun f => f.name != "_") = true) : gu P t :=
 ⟨h1,h2,fun fs' e f hf=>by
  rw [h3] at e
  cases e
  have:=List.all_eq_true.1 h4 f hf
  simpa using this⟩
theorem az {P:Program} {t:Nat} {e:cm} (h1:P.underlying t=some e.d) (h2:TI P t e.size e.bytes e.zero) (h3:∀fs,e.d = .struct fs→∀w:World,(fs.mapM fun f=>(do pure (f.offset,←sizeOf f.type):Sem (Nat×Nat))).run P w = .ok e.pl.toArray w)
  (h4:∀u,e.t=some u→u.size=e.size∧nv u (iH e.zero)=some u.cg):bj P t e where
 u:=h1
 ti:=h2
 pl:=h3
 ts:=fun u hu=>(h4 u hu).1
 tz:=fun u hu g=>by
  obtain ⟨i,t1,t2,t3,t4,t5,t6⟩:=h2
  exact (hJ (g:=g) u _ _ (h4 u hu).2).2 _ (mD t6 g)
theorem iT {e:cm} (h:e.t=none):∀u,e.t=some u→u.size=e.size∧nv u (iH e.zero)=some u.cg:=fun u hu=>by rw [h] at hu;cases hu
theorem aP {e:cm} {u:Ty} (h:e.t=some u) (h1:u.size=e.size) (h2:nv u (iH e.zero)=some u.cg):∀u,e.t=some u→u.size=e.size∧nv u (iH e.zero)=some u.cg:=fun u' hu=>by rw [h] at hu;cases hu;exact ⟨h1,h2⟩
inductive HT where
 | o
 | n (h:Option LH) (x y:HT)
 | z (l:List (Nat×Ty)) (t:HT)
def HT.h:HT→Option LH
 | .o=>none
 | .n h _ _=>h
 | .z _ t=>t.h
def HT.l:HT→HT
 | .o=>.o
 | .n _ x _=>x
 | .z _ t=>t.l
def HT.r:HT→HT
 | .o=>.o
 | .n _ _ y=>y
 | .z _ t=>t.r
def HT.fz:HT→List (Nat×Ty)
 | .z l _=>l
 | _=>[]
def GM (l:List (Nat×Ty)) (x:av):av:=match l with
 | []=>x
 | p::l=>.IL (p::l) x
theorem vg (l:List (Nat×Ty)) (x:av):(GM l x).code=x.code:=by cases l<;>rfl
def N0:LH:=⟨[],[],[],[],[],[]⟩
def mkSeq (h:Option LH) (x y:av):av:=match h with
 | some h=>.cut h x y
 | none=>.seq x y
def AI (h:Option LH) (x:av):av:=match h with
 | some h=>.loop h x
 | none=>.loop N0 x
def comp:Code→HT→av
 | .skip,_=>.skip
 | .ret,_=>.ret
 | .exit id,_=>.exit id
 | .region id ops d,_=>.region id ops.toList d
 | .seq x y,t=>mkSeq t.h (comp x t.l) (GM t.r.fz (comp y t.r))
 | .cond c x y,t=>.cond c (comp x t.l) (comp y t.r)
 | .block id x,t=>.block id (comp x t.l)
 | .scope x,t=>.scope (comp x t.l)
 | .label l,_=>.label l
 | .loop x,t=>AI t.h (comp x t.l)
 | .rangeFunc g ps x y,t=>.range g ps.toList N0 (comp x t.l) (comp y t.r)
 | c,_=>.bad c
theorem vf (h:Option LH) (x y:av):(mkSeq h x y).code = .seq x.code y.code:=by cases h<;>rfl
theorem tS (h:Option LH) (x:av):(AI h x).code = .loop x.code:=by cases h<;>rfl
theorem yp (c:Code) (t:HT):(comp c t).code=c:=by
 fun_induction comp c t<;>simp_all [av.code,vf,tS,vg]
def au (f:Func):Code:=match f.body with
 | some c=>c
 | none=>.skip
theorem ak {P : Program} {f : Nat} {fn : Func} {t : HT} (h1 : P.funcs[f]? = some fn) (h2 : fn.body = some (au fn)) (h3 : (fn.name == "runtime.NumGoroutine") = false) : aM P f fn (comp (au fn) t) := ⟨h1, by rw [yp]; exact h2, h3⟩
section
open Go.RowKit
structure sR (P:Program) (f:FuncId) (t:Ty):Prop where
 fn:sS P f
 ok:∀(n:Nat) (w:World),n≤16777216→Calls P f #[.slice none 0 0,.int .i64 (n:Int)] w fun e w'=>∃v,e = .returned v∧((v = .slice none 0 0∧w'=w)∨∃vs ty cap,v = .slice (some ⟨w.heap.size,0,none⟩) 0 cap∧w'=w.drew.alloc (.cells vs ty)∧cap*t.size≤vs.size∧cap≤maxLen)
structure nr (P:Program) (f:FuncId) (t:Ty):Prop where
 fn:sS P f
 none:∀(n c:Nat) (w:World),Calls P f #[.slice none n c] w fun e w'=>e = .returned (.slice none 0 0)∧w'=w
 some:∀(g:G) (S:Hp) (q:Nat),S.fr q→∀l:List t.T,l.length≤16777216→∀(w:World),Inv g S w→∀(a:Addr) (n c:Nat),(∀w2,Inv g S w2→Given g w2 (.slice (some a) n c) t.size l.length (l.flatMap (aA t))) →
  Calls P f #[.slice (some a) n c] w fun e w'=>∃v g',e = .returned v∧V g' (.tw (.loc q) t.size) v∧Inv g' (S.new q (.cells (l.flatMap (aA t)))) w'∧Ext S g w (S.new q (.cells (l.flatMap (aA t)))) g' w'
inductive J2 where
 | fn (sg:cF) (F:Plain sg)
 | grow (t:Ty)
 | clone (t:Ty)
abbrev sU:=Nat→Option J2
def J2.Ok (P:Program) (f:FuncId):J2→Prop
 | .fn sg F=>bt P f sg F
 | .grow t=>sR P f t
 | .clone t=>nr P f t
def kL (P:Program) (qe:sU):Prop:=∀f e,qe f=some e→e.Ok P f
def wS {β:Type} (t:Ty) (aa:List A) (h:H) (K:A→H→Fp→Option β):Option β:=match aa with
 | [.v (.slice none 0 0),.v (.int .i64 n)]=>gd (bq n) (gd (bw (nN n) 16777216) (lR (.row t []) h (fun q h'=>K (.tw (.loc q) t.size) h' (.wr [cE q]))))
 | _=>none
def sG {β:Type} (t:Ty) (aa:List A) (h:H) (K:A→H→Fp→Option β):Option β:=match aa with
 | [py]=>uU h t py (fun l T=>gd (bw (len (α:=t.T) l) 16777216) (lR (.row t l) h (fun q h'=>K (.tw (.loc q) t.size) h' ⟨false,cE q::T,true,[cE q]⟩)))
 | _=>none
def I6 (qe:sU) (vI:Cx):Cx:=⟨fun β f aa h K=>match qe f with
 | some (.fn sg F)=>RL sg F aa h K
 | some (.grow t)=>wS t aa h K
 | some (.clone t)=>sG t aa h K
 | none=>vI.call β f aa h K,vI.hm,vI.qd⟩
section
variable {P:Program} {E:Env}
theorem Bx {β:Type} {f:FuncId} {t:Ty} (hg:sR P f t) {aa:List A} {h:H} {K:A→H→Fp→Option β} {r:β} (hr:wS t aa h K=some r):∃pv h' T,K pv h' T=some r∧ra P f aa h h' T pv:=by
 unfold wS at hr
 split at hr
 ·rename_i n
  obtain ⟨hp,hr⟩:=bp hr
  have hp:0≤n:=hp
  obtain ⟨hn,hr⟩:=bp hr
  have hn:n.toNat≤16777216:=hn
  have TT:n=((n.toNat:Nat):Int):=by omega
  obtain ⟨h',k1,hq,hf,hh⟩:=eM hr
  have hT:∀u∈[Up.new h.aQ (fu.row t []).low],aF (.wr [cE h.aQ]) u.id=true:=fun u hu=>by rcases zF.1 hu with rfl;exact aB (o:=h.aQ) hq (.head _)
  have hW:∀u∈[Up.new h.aQ (fu.row t []).low],wt (.wr [cE h.aQ]) u.id=true:=fun u hu=>by rcases zF.1 hu with rfl;exact aB (l:=[cE h.aQ]) (w:=false) (s:=[]) (o:=h.aQ) hq (.head _)
  refine ⟨_,_,_,k1,fun i hi=>by rw [hh];exact ct _ _ i (fun u hu e=>by rw [e,hT u hu] at hi;cases hi),fun i hi=>by rw [hh];exact ct _ _ i (fun u hu e=>by rw [e,hW u hu] at hi;cases hi),hg.fn,fun S2 hA=>?_⟩
  rw [hh,fS hT hA]
  show PC P f _ S2 (S2.new h.aQ (.cells [])) _
  have Bs:S2.fr h.aQ:=(hA _ (aB hq (.head _))).2.2 hf
  intro g w vs hI hl hv
  match vs,hl with
  | [u,v],_=>
   have e1:=(hv 0 _ _ rfl rfl).fc
   have e2:=(hv 1 _ _ rfl rfl).fc
   subst e1 e2
   rw [TT]
   refine (hg.ok n.toNat w hn).mono ?_
   rintro e w' ⟨v,rfl,⟨rfl,rfl⟩ | ⟨vs,ty,cap,rfl,rfl,k3,k4⟩⟩
   ·obtain ⟨q1,q2⟩:=hI.emp Bs
    exact ⟨_,_,rfl,.qE (.loc h.aQ) t.size none bU,q1,q2⟩
   ·obtain ⟨q1,q2⟩:=hI.drew.kC Bs (cs:=[]) (vs:=vs) ty (Nat.zero_le _) ⟨by simp,fun j c x e=>by simp at e⟩
    refine ⟨_,_,rfl,.tw (.loc h.aQ) t.size 0 w.heap.size cap vs.size ?_ (Nat.zero_le _) k4 k3 0 (fun _=>rfl),q1,Inv.rf q2⟩
    rw [Nat.zero_mul];exact bU
 ·cases hr
theorem yt {β:Type} {f:FuncId} {t:Ty} (hg:nr P f t) {aa:List A} {h:H} {K:A→H→Fp→Option β} {r:β} (hr:sG t aa h K=some r):∃pv h' T,K pv h' T=some r∧ra P f aa h h' T pv:=by
 unfold sG at hr
 split at hr
 ·rename_i py
  obtain ⟨l,T,hr,sj⟩:=rj hr
  obtain ⟨hn,hr⟩:=bp hr
  have hn:List.length (α:=t.T) l≤16777216:=hn
  obtain ⟨h',k1,hq,hf,hh⟩:=eM hr
  have hT:∀u∈[Up.new h.aQ (fu.row t l).low],aF ⟨false,cE h.aQ::T,true,[cE h.aQ]⟩ u.id=true:=fun u hu=>by rcases zF.1 hu with rfl;exact aB (o:=h.aQ) hq (.head _)
  have hW:∀u∈[Up.new h.aQ (fu.row t l).low],wt ⟨false,cE h.aQ::T,true,[cE h.aQ]⟩ u.id=true:=fun u hu=>by rcases zF.1 hu with rfl;exact aB (l:=[cE h.aQ]) (w:=false) (s:=[]) (o:=h.aQ) hq (.head _)
  refine ⟨_,_,_,k1,fun i hi=>by rw [hh];exact ct _ _ i (fun u hu e=>by rw [e,hT u hu] at hi;cases hi),fun i hi=>by rw [hh];exact ct _ _ i (fun u hu e=>by rw [e,hW u hu] at hi;cases hi),hg.fn,fun S2 hA=>?_⟩
  rw [hh,fS hT hA]
  show PC P f _ S2 (S2.new h.aQ (.cells (List.flatMap (aA t) l))) _
  have Bs:S2.fr h.aQ:=(hA _ (aB hq (.head _))).2.2 hf
  have sj:=sj S2 (hA.mono fun i hi=>.tail _ hi)
  intro g w vs hI Rv hv
  match vs,Rv with
  | [u],_=>
   have e1:=hv 0 _ _ rfl rfl
   have Ry:∀w2,Inv g S2 w2→Given g w2 u t.size l.length (l.flatMap (aA t)):=fun w2 hI2=>sj g w2 u hI2 e1
   obtain ⟨A,c,us,rfl,k2,k3,k4⟩:=Ry w hI
   cases A with
   | none=>
    have TZ:l=[]:=by
     rcases Nat.eq_zero_or_pos l.length with h0 | h0
     ·exact zZ h0
     ·obtain ⟨_,e,_⟩:=k4 h0;cases e
    refine (hg.none _ c w).mono ?_
    rintro e w' ⟨rfl,rfl⟩
    rw [TZ]
    obtain ⟨q1,q2⟩:=hI.emp Bs
    exact ⟨_,_,rfl,.qE (.loc h.aQ) t.size none bU,q1,q2⟩
   | some a=>exact hg.some g S2 h.aQ Bs l hn w hI a _ c Ry
 ·cases hr
theorem w9 {qe:sU} (hc:kL P qe) {vI:Cx} (hf:j9 P vI):j9 P (I6 qe vI):=⟨fun β f aa h K r hr=>by
 have hr:(match qe f with | some (.fn sg F)=>RL sg F aa h K | some (.grow t)=>wS t aa h K | some (.clone t)=>sG t aa h K | none=>vI.call β f aa h K)=some r:=hr
 split at hr
 ·rename_i sg F he
  exact I9 (hc f _ he) hr
 ·rename_i t he
  exact Bx (hc f _ he) hr
 ·rename_i t he
  exact yt (hc f _ he) hr
 ·exact hf.call β f aa h K r hr,hf.qd⟩
def Wo (E:Env) (fns:FT) (hm:List (Nat×Nat)) (qe:sU):Nat→Cx
 | 0=>I6 qe (yX hm)
 | k+1=>I6 qe (uT E fns (fun cx n=>Wn E cx n) hm (Wo E fns hm qe k))
def Wp (E:Env) (fns:FT) (hm:List (Nat×Nat)) (qe:sU) (k:Nat):Cx:=uT E fns (fun cx n=>Wn E cx n) hm (Wo E fns hm qe k)
theorem sD (hE:bL P E) (Bn:P.follows .mixedOrders=true) {fns:FT} (hF:uG P fns) {hm:List (Nat×Nat)} {qe:sU} (hc:kL P qe):∀k,j9 P (Wo E fns hm qe k)
 | 0=>w9 hc (xi hm)
 | k+1=>w9 hc (qK hE hF (sD hE Bn hF hc k) (fun n β=>BU hE (sD hE Bn hF hc k) Bn n β))
theorem pT (hE:bL P E) (Bn:P.follows .mixedOrders=true) {fns:FT} (hF:uG P fns) {hm:List (Nat×Nat)} {qe:sU} (hc:kL P qe) (k:Nat):j9 P (Wp E fns hm qe k):=qK hE hF (sD hE Bn hF hc k) (fun n β=>BU hE (sD hE Bn hF hc k) Bn n β)
theorem bt.of {f:FuncId} {sg:cF} {F G:Plain sg} (h:bt P f sg G) (e:∀x c d,F x c d=G x c d):bt P f sg F:=by
 have:F=G:=funext fun x=>funext fun c=>funext fun d=>e x c d
 rw [this];exact h
end
end
section
open Go.RowKit
def ah {α:Type} (d:α) (l:List α) (i:Nat) (f:α→α):List α:=aZ l i (f (nth d l i))
def ctN:sU:=fun _=>none
def ctC (f:Nat) (sg:cF) (F:Plain sg) (l:sU):sU:=fun g=>bif Nat.beq g f then some (.fn sg F) else l g
def ctG (f:Nat) (t:Ty) (l:sU):sU:=fun g=>bif Nat.beq g f then some (.grow t) else l g
def ctL (f:Nat) (t:Ty) (l:sU):sU:=fun g=>bif Nat.beq g f then some (.clone t) else l g
theorem aJ {P:Program}:kL P ctN:=fun f e h=>by cases h
theorem ao {P:Program} {f:Nat} {sg:cF} {F:Plain sg} {l:sU} (h:bt P f sg F) (k:kL P l):kL P (ctC f sg F l):=fun g e hg=>by
 have hg:(bif Nat.beq g f then some (J2.fn sg F) else l g)=some e:=hg
 cases hb:Nat.beq g f with
 | true=>rw [hb] at hg;cases hg;rw [beq_eq hb];exact h
 | false=>rw [hb] at hg;exact k g e hg
theorem BW {P:Program} {f:Nat} {t:Ty} {l:sU} (h:nr P f t) (k:kL P l):kL P (ctL f t l):=fun g e hg=>by
 have hg:(bif Nat.beq g f then some (J2.clone t) else l g)=some e:=hg
 cases hb:Nat.beq g f with
 | true=>rw [hb] at hg;cases hg;rw [beq_eq hb];exact h
 | false=>rw [hb] at hg;exact k g e hg
theorem I_ {P:Program} {f:Nat} {t:Ty} {l:sU} (h:sR P f t) (k:kL P l):kL P (ctG f t l):=fun g e hg=>by
 have hg:(bif Nat.beq g f then some (J2.grow t) else l g)=some e:=hg
 cases hb:Nat.beq g f with
 | true=>rw [hb] at hg;cases hg;rw [beq_eq hb];exact h
 | false=>rw [hb] at hg;exact k g e hg
inductive EX (P:Program):Nat→Nat→Tr (Func×av)→Prop
 | nil (a b:Nat):EX P a b .nil
 | no {a b:Nat} {l r:Tr (Func×av)} (h1:EX P (2*a) (a+b) l) (h2:EX P (2*a) (2*a+b) r):EX P a b (.node l none r)
 | yes {a b:Nat} {fn:Func} {x:av} {l r:Tr (Func×av)} (h:aM P b fn x) (h1:EX P (2*a) (a+b) l) (h2:EX P (2*a) (2*a+b) r):EX P a b (.node l (some (fn,x)) r)
theorem IK {P:Program} {T:Tr (Func×av)} {a b:Nat} (h:EX P a b T):∀t fn x,T.get t=some (fn,x)→aM P (a*t+b) fn x:=by
 have key:∀(a b:Nat) (l r:Tr (Func×av)),(∀t fn x,l.get t=some (fn,x)→aM P (2*a*t+(a+b)) fn x)→(∀t fn x,r.get t=some (fn,x)→aM P (2*a*t+(2*a+b)) fn x) →
   ∀n fn x v,(Tr.node l v r).get (n+1)=some (fn,x)→aM P (a*(n+1)+b) fn x:=by
  intro a b l r hl hr n fn x v ht
  rw [Tr.f_] at ht
  cases hn:Nat.beq (n%2) 0 with
  | true=>
   rw [hn] at ht
   have h0:=Nat.eq_of_beq_eq_true hn
   have:=hl _ fn x ht
   have e1:a*(n+1)+b=2*a*(n / 2)+(a+b):=by
    have:n=2*(n / 2):=by omega
    generalize n / 2=k at this
    subst this
    rw [Nat.mul_add,Nat.mul_one,Nat.mul_comm 2 a,Nat.mul_assoc];omega
   rw [e1];exact this
  | false=>
   rw [hn] at ht
   have h0:n%2≠0:=fun h=>by rw [h] at hn;cases hn
   have:=hr _ fn x ht
   have e1:a*(n+1)+b=2*a*(n / 2)+(2*a+b):=by
    have:n=2*(n / 2)+1:=by omega
    generalize n / 2=k at this
    subst this
    rw [show 2*k+1+1=2*(k+1) by omega,←Nat.mul_assoc,Nat.mul_comm a 2,Nat.mul_add,Nat.mul_one];omega
   rw [e1];exact this
 induction h with
 | nil=>intro t fn x h;cases h
 | no h1 h2 Ba DZ=>
  intro t fn x ht
  cases t with
  | zero=>cases ht
  | succ n=>exact key _ _ _ _ Ba DZ n fn x _ ht
 | yes h h1 h2 Ba DZ=>
  intro t fn x ht
  cases t with
  | zero=>cases ht;rw [Nat.mul_zero,Nat.zero_add];exact h
  | succ n=>exact key _ _ _ _ Ba DZ n fn x _ ht
theorem IJ {P:Program} {T:Tr (Func×av)} (h:EX P 1 0 T):uG P (fun f=>T.get f):=fun f fn x hf=>by
 have:=IK h f fn x hf
 rwa [Nat.one_mul,Nat.add_zero] at this
theorem Qd {P:Program} {E:Env} {fns:FT} {hm:List (Nat×Nat)} {qe:sU} (hE:bL P E) (Bn:P.follows .mixedOrders=true) (hF:uG P fns) (hc:kL P qe) (k:Nat) {f:FuncId} {sg:cF} {F:Plain sg} (e:∀x c d,F x c d=HC (Wp E fns hm qe k) f sg x c d):bt P f sg F:=
 (C4 (pT hE Bn hF hc k) f sg).of e
theorem _root_.Go.Bm.V.FV {g:G} {t:Ty} {f:Bool} {l:List t.T} {v:Value} (hv:V g (.tl t f l) v):(∃a n c,v = .slice (some a) n c∧VD g.mem (.sl t.size f (l.map (cq t))) v)∨(l=[]∧v = .slice none 0 0):=by
 cases hv with
 | tl _ _ _ _ hd=>
  generalize oJ:List.map (cq t) l=es at hd
  have nT:es.length=l.length:=by rw [←oJ,zH]
  have l7:=hd
  cases hd with
  | rn sz full A=>
   cases A with
   | none=>exact .inr ⟨zZ nT.symm,rfl⟩
   | some a=>exact .inl ⟨_,_,_,rfl,l7⟩
  | sl _ _ _ a cap vs hz hc hf hn hx hl hm CE=>
   cases a with
   | some p=>exact .inl ⟨_,_,_,rfl,l7⟩
   | none=>
    have h0:cap=0:=hn rfl
    have h1:es.length=0:=by omega
    refine .inr ⟨zZ (by omega),?_⟩
    rw [h0,h1];rfl
theorem PC.less {P:Program} {f:FuncId} {aa:List A} {S S1 S2:Hp} {r:A} (h:PC P f aa S S1 r) (hs:∀o x,S2.ob o=some x→S1.ob o=some x) (hf:∀o,S2.fr o→S1.fr o):PC P f aa S S2 r:=fun g w vs hI hl hv=>by
 refine (h g w vs hI hl hv).mono ?_
 rintro e w' ⟨v,g',rfl,q1,q2,q3⟩
 exact ⟨v,g',rfl,q1,q2.less hs hf,q3.trans (.less hs hf)⟩
theorem GV {h:H} {i:Nat} (hl:i<cb):(hp h).ob i=et h.t i∧((hp h).fr i↔h.aQ≤i):=⟨if_pos hl,by show (if i<cb then _ else _)↔_;rw [if_pos hl]⟩
theorem m0 {t:Tr fu} {n m:Nat} {l:List Rg} {k k':List Nat} (h:n≤m):(∀o x,(hp ⟨.nil,m,l,k'⟩).ob o=some x→(hp ⟨t,n,l,k⟩).ob o=some x)∧∀o,(hp ⟨.nil,m,l,k'⟩).fr o→(hp ⟨t,n,l,k⟩).fr o:=by
 refine ⟨fun o x e=>?_,fun o e=>?_⟩
 ·by_cases ho:o<cb
  ·rw [(GV ho).1] at e
   have e0:et .nil o=none:=by unfold et;rw [Tr.get_nil]
   rw [show (⟨.nil,m,l,k'⟩:H).t = .nil from rfl,e0] at e
   cases e
  ·rw [(dS ho).1] at e ⊢;exact e
 ·by_cases ho:o<cb
  ·rw [(GV ho).2] at e ⊢;exact Nat.le_trans h e
  ·rw [(dS ho).2] at e ⊢;exact e
theorem sF {P:Program} {cx:Cx} (hx:j9 P cx) {f:FuncId} {t:Ty} {rs:List (Bool×Ty)} {F:List t.T→Option (js rs×Unit)}
  (hn:C5 cx f ⟨[(false,.aH t)],rs,[],[]⟩ [.v (.slice none 0 0)] () ()=F []) (h1:∀l,C5 cx f ⟨[(false,.aH t)],rs,[],[]⟩ [.nn t l] () ()=F l):bt P f ⟨[(false,.aH t)],rs,[],[]⟩ (fun x _ _=>F x.1):=by
 refine ⟨fun x c d y h=>(mN hx f _ _ c d y.1 y.2 ((h1 x.1).trans h)).1,fun x c d y d' h=>?_⟩
 obtain ⟨l,u⟩:=x
 obtain ⟨_,t1,n1,k1,p1⟩:=mN hx f _ _ c d y d' ((h1 l).trans h)
 obtain ⟨a1,a2⟩:=m0 (t:=t1) (n:=n1) (m:=n1) (l:=cH [] d'++cH [] c) (k:=k1) (k':=k1) (Nat.le_refl _)
 have full:∀m,n1≤m→PC P f [.nn t l] (hp (h0 [] [] c d)) (hp ⟨.nil,m,cH [] d'++cH [] c,k1⟩) (tu rs y):=fun m hm=>p1.less (m0 hm).1 (m0 hm).2
 cases l with
 | cons a l=>
  refine ⟨.nil,n1,k1,fun g w vs hI hl hv=>?_⟩
  match vs,hl with
  | [v],_=>
   rcases (hv 0 _ _ rfl rfl:V g (.tl t false (a::l)) v).FV with ⟨b,n,c2,rfl,hd⟩ | ⟨e,_⟩
   ·exact full n1 (Nat.le_refl _) g w _ hI rfl fun i p v e1 e2=>by
     cases i with
     | zero=>cases e1;cases e2;exact .nn _ _ _ _ _ hd
     | succ i=>cases e1
   ·cases e
 | nil=>
  obtain ⟨_,t0,n0,k0,p0⟩:=mN hx f _ _ c d y d' (hn.trans h)
  refine ⟨.nil,n1+n0,k1,fun g w vs hI hl hv=>?_⟩
  match vs,hl with
  | [v],_=>
   rcases (hv 0 _ _ rfl rfl:V g (.tl t false []) v).FV with ⟨b,n,c2,rfl,hd⟩ | ⟨_,rfl⟩
   ·exact full _ (Nat.le_add_right _ _) g w _ hI rfl fun i p v e1 e2=>by
     cases i with
     | zero=>cases e1;cases e2;exact .nn _ _ _ _ _ hd
     | succ i=>cases e1
   ·exact (p0.less (S2:=hp ⟨.nil,n1+n0,cH [] d'++cH [] c,k1⟩) (m0 (Nat.le_add_left _ _)).1 (m0 (Nat.le_add_left _ _)).2) g w _ hI rfl fun i p v e1 e2=>by
     cases i with
     | zero=>cases e1;cases e2;exact .v _
     | succ i=>cases e1
end
end Go.Bm
namespace Go.Proofs.YtfffmmahegdfiaaGreat
open Go.Bm
set_option maxRecDepth 20000
def R0:RK:=(.box (.pair (.pair (.int .i64) (.pair (.int .i64) (.pair (.int .i64) (.int .i64)))) (.pair (.iL 9 1) (.pair (.ptr 1) (.pair (.ptr 3) (.pair (.iL 5 1) (.pair (.iL 7 14) (.int .i64))))))))
def R1:RK:=(.box (.iL 2 1))
def R2:RK:=(.row (.int .u8))
def R3:RK:=(.box (.pair (.int .i64) (.pair (.int .i64) (.iL 4 2))))
def R4:RK:=(.row (.pair (.int .i64) (.int .i64)))
def R5:RK:=(.row (.ptr 6))
def R6:RK:=(.box (.pair (.aH (.pair (.int .u8) (.pair (.int .u8) (.pair (.int .u8) (.pair (.int .u8) (.pair (.int .i64) (.pair (.int .i64) (.int .i64)))))))) (.pair (.iL 8 1) (.pair (.aH (.pair (.int .i64) .bool)) (.pair (.pair (.pair (.int .u8) (.pair (.int .u8) (.pair (.int .u8) (.pair (.int .u8) (.pair (.int .i64) (.pair (.int .i64) (.int .i64))))))) (.pair (.int .i64) (.pair (.int .i64) (.pair (.int .u64) (.pair (.int .u64) (.pair (.aH (.pair (.int .i64) .bool)) (.pair (.int .u64) (.pair (.int .u64) (.pair (.int .i64) (.pair (.int .i64) (.pair (.aH (.int .i64)) (.pair (.int .i64) (.pair (.aH (.int .i64)) (.pair (.int .i64) (.pair .bool (.pair .bool (.pair .bool (.pair (.int .i64) (.pair (.int .i64) (.aH (.int .i64))))))))))))))))))))) (.pair .bool (.int .i64)))))))
def R7:RK:=(.row (.pair (.int .i64) (.pair (.pair (.int .u8) (.pair (.int .u8) (.pair (.int .u8) (.pair (.int .u8) (.pair (.int .i64) (.pair (.int .i64) (.int .i64))))))) (.pair (.int .i64) (.pair (.int .i64) (.pair (.int .i64) (.pair (.int .i64) (.pair (.int .i64) (.aH (.int .i64))))))))))
def R8:RK:=(.row (.int .u64))
def R9:RK:=(.row (.aH (.pair (.int .u8) (.pair (.int .i64) (.int .i64)))))
def Za:cm:=⟨.func #[] #[] false,1,8,.nilFunc,[],none,false⟩
theorem te1:bj Tryz.prog 1 Za:=az Tryz.underlying1 (aR (by kernel_rfl) rfl rfl) (fun _ h=>by cases h) (iT rfl)
def Y_:cm:=⟨.int .i64,1,8,.int .i64 0,[],(some (.int .i64)),false⟩
theorem te2:bj Tryz.prog 2 Y_:=az Tryz.underlying2 (aR (by kernel_rfl) rfl rfl) (fun _ h=>by cases h) (aP rfl (by kernel_rfl) (by kernel_rfl))
def Y9:cm:=⟨.int .i64,1,8,.int .i64 0,[],(some (.int .i64)),false⟩
theorem SG:bj Tryz.prog 3 Y9:=az Tryz.underlying3 (aR (by kernel_rfl) rfl rfl) (fun _ h=>by cases h) (aP rfl (by kernel_rfl) (by kernel_rfl))
def Y8:cm:=⟨.bool,1,1,.bool false,[],(some .bool),false⟩
theorem te4:bj Tryz.prog 4 Y8:=az Tryz.underlying4 (aR (by kernel_rfl) rfl rfl) (fun _ h=>by cases h) (aP rfl (by kernel_rfl) (by kernel_rfl))
def Y7:cm:=⟨.int .u8,1,1,.int .u8 0,[],(some (.int .u8)),false⟩
theorem Z_:bj Tryz.prog 5 Y7:=az Tryz.underlying5 (aR (by kernel_rfl) rfl rfl) (fun _ h=>by cases h) (aP rfl (by kernel_rfl) (by kernel_rfl))
def Y6:cm:=⟨.string,1,16,.string ByteArray.empty,[],none,false⟩
theorem Z9:bj Tryz.prog 9 Y6:=az Tryz.underlying9 (aR (by kernel_rfl) rfl rfl) (fun _ h=>by cases h) (iT rfl)
def LY:cm:=⟨.int .u64,1,8,.int .u64 0,[],(some (.int .u64)),false⟩
theorem SR:bj Tryz.prog 12 LY:=az Tryz.underlying12 (aR (by kernel_rfl) rfl rfl) (fun _ h=>by cases h) (aP rfl (by kernel_rfl) (by kernel_rfl))
def LX : cm := ⟨.struct #[⟨"msg", 9, 0, false, "", "runtime", 0⟩, ⟨"addr", 12, 1, false, "", "runtime", 16⟩], 2, 24, .agg #[.string ByteArray.empty, .int .u64 0], [(0, 1), (1, 1)], none, false⟩
theorem SQ:bj Tryz.prog 13 LX:=az Tryz.underlying13 (aR (by kernel_rfl) rfl rfl) (fun fs h w=>by cases h;kernel_rfl) (iT rfl)
def LW:cm:=⟨.int .i32,1,4,.int .i32 0,[],(some (.int .i32)),false⟩
theorem SO:bj Tryz.prog 21 LW:=az Tryz.underlying21 (aR (by kernel_rfl) rfl rfl) (fun _ h=>by cases h) (aP rfl (by kernel_rfl) (by kernel_rfl))
def LV : cm := ⟨.struct #[⟨"Scopes", 3, 0, false, "", "", 0⟩, ⟨"Threads", 3, 1, false, "", "", 8⟩, ⟨"Immortal", 3, 2, false, "", "", 16⟩, ⟨"Heap", 3, 3, false, "", "", 24⟩], 4, 32, .agg #[.int .i64 0, .int .i64 0, .int .i64 0, .int .i64 0], [(0, 1), (1, 1), (2, 1), (3, 1)], (some (.pair (.int .i64) (.pair (.int .i64) (.pair (.int .i64) (.int .i64))))), false⟩
theorem SN:bj Tryz.prog 22 LV:=az Tryz.underlying22 (aR (by kernel_rfl) rfl rfl) (fun fs h w=>by cases h;kernel_rfl) (aP rfl (by kernel_rfl) (by kernel_rfl))
def LU : cm := ⟨.struct #[⟨"Scopes", 3, 0, false, "", "", 0⟩, ⟨"Threads", 3, 1, false, "", "", 8⟩, ⟨"Immortal", 3, 2, false, "", "", 16⟩, ⟨"Heap", 3, 3, false, "", "", 24⟩], 4, 32, .agg #[.int .i64 0, .int .i64 0, .int .i64 0, .int .i64 0], [(0, 1), (1, 1), (2, 1), (3, 1)], (some (.pair (.int .i64) (.pair (.int .i64) (.pair (.int .i64) (.int .i64))))), false⟩
theorem SM:bj Tryz.prog 23 LU:=az Tryz.underlying23 (aR (by kernel_rfl) rfl rfl) (fun fs h w=>by cases h;kernel_rfl) (aP rfl (by kernel_rfl) (by kernel_rfl))
def LS:cm:=⟨.slice 59,1,24,.slice none 0 0,[],(some (.aH (.aH (.pair (.int .u8) (.pair (.int .i64) (.int .i64)))))),false⟩
theorem SL:bj Tryz.prog 24 LS:=az Tryz.underlying24 (aR (by kernel_rfl) rfl rfl) (fun _ h=>by cases h) (aP rfl (by kernel_rfl) (by kernel_rfl))
def LR:cm:=⟨.slice 49,1,24,.slice none 0 0,[],(some (.aH (.aH (.pair (.int .u8) (.pair (.int .u8) (.pair (.int .u8) (.pair (.int .u8) (.pair (.int .i64) (.pair (.int .i64) (.int .i64)))))))))),false⟩
theorem SK:bj Tryz.prog 25 LR:=az Tryz.underlying25 (aR (by kernel_rfl) rfl rfl) (fun _ h=>by cases h) (aP rfl (by kernel_rfl) (by kernel_rfl))
def LQ : cm := ⟨.struct #[⟨"P", 23, 0, false, "", "", 0⟩, ⟨"Fins", 24, 4, false, "", "", 32⟩, ⟨"Progs", 25, 5, false, "", "", 56⟩], 6, 80, .agg #[.int .i64 0, .int .i64 0, .int .i64 0, .int .i64 0, .slice none 0 0, .slice none 0 0], [(0, 4), (4, 1), (5, 1)], (some (.pair (.pair (.int .i64) (.pair (.int .i64) (.pair (.int .i64) (.int .i64)))) (.pair (.aH (.aH (.pair (.int .u8) (.pair (.int .i64) (.int .i64))))) (.aH (.aH (.pair (.int .u8) (.pair (.int .u8) (.pair (.int .u8) (.pair (.int .u8) (.pair (.int .i64) (.pair (.int .i64) (.int .i64)))))))))))), false⟩
theorem SJ:bj Tryz.prog 26 LQ:=az Tryz.underlying26 (aR (by kernel_rfl) rfl rfl) (fun fs h w=>by cases h;kernel_rfl) (aP rfl (by kernel_rfl) (by kernel_rfl))
def LP : cm := ⟨.struct #[⟨"P", 23, 0, false, "", "", 0⟩, ⟨"Fins", 24, 4, false, "", "", 32⟩, ⟨"Progs", 25, 5, false, "", "", 56⟩], 6, 80, .agg #[.int .i64 0, .int .i64 0, .int .i64 0, .int .i64 0, .slice none 0 0, .slice none 0 0], [(0, 4), (4, 1), (5, 1)], (some (.pair (.pair (.int .i64) (.pair (.int .i64) (.pair (.int .i64) (.int .i64)))) (.pair (.aH (.aH (.pair (.int .u8) (.pair (.int .i64) (.int .i64))))) (.aH (.aH (.pair (.int .u8) (.pair (.int .u8) (.pair (.int .u8) (.pair (.int .u8) (.pair (.int .i64) (.pair (.int .i64) (.int .i64)))))))))))), false⟩
theorem SI:bj Tryz.prog 27 LP:=az Tryz.underlying27 (aR (by kernel_rfl) rfl rfl) (fun fs h w=>by cases h;kernel_rfl) (aP rfl (by kernel_rfl) (by kernel_rfl))
def LO:cm:=⟨.slice 5,1,24,.slice none 0 0,[],(some (.aH (.int .u8))),false⟩
theorem SH:bj Tryz.prog 28 LO:=az Tryz.underlying28 (aR (by kernel_rfl) rfl rfl) (fun _ h=>by cases h) (aP rfl (by kernel_rfl) (by kernel_rfl))
def LN:cm:=⟨.pointer 75,1,8,.pointer none,[],(some (.ptr 0)),false⟩
theorem SF:bj Tryz.prog 32 LN:=az Tryz.underlying32 (aR (by kernel_rfl) rfl rfl) (fun _ h=>by cases h) (aP rfl (by kernel_rfl) (by kernel_rfl))
def LM:cm:=⟨.int .i64,1,8,.int .i64 0,[],(some (.int .i64)),false⟩
theorem SE:bj Tryz.prog 33 LM:=az Tryz.underlying33 (aR (by kernel_rfl) rfl rfl) (fun _ h=>by cases h) (aP rfl (by kernel_rfl) (by kernel_rfl))
def LL:cm:=⟨.array 4 3,4,32,.agg #[.int .i64 0,.int .i64 0,.int .i64 0,.int .i64 0],[],(some (.arr 4 (.int .i64))),false⟩
theorem SC:bj Tryz.prog 36 LL:=az Tryz.underlying36 (aR (by kernel_rfl) rfl rfl) (fun _ h=>by cases h) (aP rfl (by kernel_rfl) (by kernel_rfl))
def LK:cm:=⟨.slice 47,1,24,.slice none 0 0,[],(some (.aH (.pair (.int .i64) (.pair (.pair (.int .u8) (.pair (.int .u8) (.pair (.int .u8) (.pair (.int .u8) (.pair (.int .i64) (.pair (.int .i64) (.int .i64))))))) (.pair (.int .i64) (.pair (.int .i64) (.pair (.int .i64) (.pair (.int .i64) (.pair (.int .i64) (.aH (.int .i64))))))))))),false⟩
theorem CX:bj Tryz.prog 39 LK:=az Tryz.underlying39 (aR (by kernel_rfl) rfl rfl) (fun _ h=>by cases h) (aP rfl (by kernel_rfl) (by kernel_rfl))
def LJ : cm := ⟨.struct #[⟨"Op", 5, 0, false, "", "", 0⟩, ⟨"R", 5, 1, false, "", "", 1⟩, ⟨"H", 5, 2, false, "", "", 2⟩, ⟨"V", 5, 3, false, "", "", 3⟩, ⟨"A", 3, 4, false, "", "", 8⟩, ⟨"B", 3, 5, false, "", "", 16⟩, ⟨"C", 3, 6, false, "", "", 24⟩], 7, 32, .agg #[.int .u8 0, .int .u8 0, .int .u8 0, .int .u8 0, .int .i64 0, .int .i64 0, .int .i64 0], [(0, 1), (1, 1), (2, 1), (3, 1), (4, 1), (5, 1), (6, 1)], (some (.pair (.int .u8) (.pair (.int .u8) (.pair (.int .u8) (.pair (.int .u8) (.pair (.int .i64) (.pair (.int .i64) (.int .i64)))))))), false⟩
theorem SB:bj Tryz.prog 41 LJ:=az Tryz.underlying41 (aR (by kernel_rfl) rfl rfl) (fun fs h w=>by cases h;kernel_rfl) (aP rfl (by kernel_rfl) (by kernel_rfl))
def LI : cm := ⟨.struct #[⟨"Op", 5, 0, false, "", "", 0⟩, ⟨"R", 5, 1, false, "", "", 1⟩, ⟨"H", 5, 2, false, "", "", 2⟩, ⟨"V", 5, 3, false, "", "", 3⟩, ⟨"A", 3, 4, false, "", "", 8⟩, ⟨"B", 3, 5, false, "", "", 16⟩, ⟨"C", 3, 6, false, "", "", 24⟩], 7, 32, .agg #[.int .u8 0, .int .u8 0, .int .u8 0, .int .u8 0, .int .i64 0, .int .i64 0, .int .i64 0], [(0, 1), (1, 1), (2, 1), (3, 1), (4, 1), (5, 1), (6, 1)], (some (.pair (.int .u8) (.pair (.int .u8) (.pair (.int .u8) (.pair (.int .u8) (.pair (.int .i64) (.pair (.int .i64) (.int .i64)))))))), false⟩
theorem SA:bj Tryz.prog 42 LI:=az Tryz.underlying42 (aR (by kernel_rfl) rfl rfl) (fun fs h w=>by cases h;kernel_rfl) (aP rfl (by kernel_rfl) (by kernel_rfl))
def LG:cm:=⟨.slice 3,1,24,.slice none 0 0,[],(some (.aH (.int .i64))),false⟩
theorem CW:bj Tryz.prog 43 LG:=az Tryz.underlying43 (aR (by kernel_rfl) rfl rfl) (fun _ h=>by cases h) (aP rfl (by kernel_rfl) (by kernel_rfl))
def LF : cm := ⟨.struct #[⟨"Code", 33, 0, false, "", "", 0⟩, ⟨"N", 3, 1, false, "", "", 8⟩, ⟨"Said", 43, 2, false, "", "", 16⟩], 3, 40, .agg #[.int .i64 0, .int .i64 0, .slice none 0 0], [(0, 1), (1, 1), (2, 1)], (some (.pair (.int .i64) (.pair (.int .i64) (.aH (.int .i64))))), false⟩
theorem Sz:bj Tryz.prog 44 LF:=az Tryz.underlying44 (aR (by kernel_rfl) rfl rfl) (fun fs h w=>by cases h;kernel_rfl) (aP rfl (by kernel_rfl) (by kernel_rfl))
def LD : cm := ⟨.struct #[⟨"Code", 33, 0, false, "", "", 0⟩, ⟨"N", 3, 1, false, "", "", 8⟩, ⟨"Said", 43, 2, false, "", "", 16⟩], 3, 40, .agg #[.int .i64 0, .int .i64 0, .slice none 0 0], [(0, 1), (1, 1), (2, 1)], (some (.pair (.int .i64) (.pair (.int .i64) (.aH (.int .i64))))), false⟩
theorem Sy:bj Tryz.prog 45 LD:=az Tryz.underlying45 (aR (by kernel_rfl) rfl rfl) (fun fs h w=>by cases h;kernel_rfl) (aP rfl (by kernel_rfl) (by kernel_rfl))
def LC : cm := ⟨.struct #[⟨"Thread", 3, 0, false, "", "", 0⟩, ⟨"Call", 42, 1, false, "", "", 8⟩, ⟨"From", 3, 8, false, "", "", 40⟩, ⟨"Point", 3, 9, false, "", "", 48⟩, ⟨"To", 3, 10, false, "", "", 56⟩, ⟨"Answer", 45, 11, false, "", "", 64⟩], 14, 104, .agg #[.int .i64 0, .int .u8 0, .int .u8 0, .int .u8 0, .int .u8 0, .int .i64 0, .int .i64 0, .int .i64 0, .int .i64 0, .int .i64 0, .int .i64 0, .int .i64 0, .int .i64 0, .slice none 0 0], [(0, 1), (1, 7), (8, 1), (9, 1), (10, 1), (11, 3)], (some (.pair (.int .i64) (.pair (.pair (.int .u8) (.pair (.int .u8) (.pair (.int .u8) (.pair (.int .u8) (.pair (.int .i64) (.pair (.int .i64) (.int .i64))))))) (.pair (.int .i64) (.pair (.int .i64) (.pair (.int .i64) (.pair (.int .i64) (.pair (.int .i64) (.aH (.int .i64)))))))))), false⟩
theorem Sw:bj Tryz.prog 46 LC:=az Tryz.underlying46 (aR (by kernel_rfl) rfl rfl) (fun fs h w=>by cases h;kernel_rfl) (aP rfl (by kernel_rfl) (by kernel_rfl))
def LB : cm := ⟨.struct #[⟨"Thread", 3, 0, false, "", "", 0⟩, ⟨"Call", 42, 1, false, "", "", 8⟩, ⟨"From", 3, 8, false, "", "", 40⟩, ⟨"Point", 3, 9, false, "", "", 48⟩, ⟨"To", 3, 10, false, "", "", 56⟩, ⟨"Answer", 45, 11, false, "", "", 64⟩], 14, 104, .agg #[.int .i64 0, .int .u8 0, .int .u8 0, .int .u8 0, .int .u8 0, .int .i64 0, .int .i64 0, .int .i64 0, .int .i64 0, .int .i64 0, .int .i64 0, .int .i64 0, .int .i64 0, .slice none 0 0], [(0, 1), (1, 7), (8, 1), (9, 1), (10, 1), (11, 3)], (some (.pair (.int .i64) (.pair (.pair (.int .u8) (.pair (.int .u8) (.pair (.int .u8) (.pair (.int .u8) (.pair (.int .i64) (.pair (.int .i64) (.int .i64))))))) (.pair (.int .i64) (.pair (.int .i64) (.pair (.int .i64) (.pair (.int .i64) (.pair (.int .i64) (.aH (.int .i64)))))))))), false⟩
theorem L2:bj Tryz.prog 47 LB:=az Tryz.underlying47 (aR (by kernel_rfl) rfl rfl) (fun fs h w=>by cases h;kernel_rfl) (aP rfl (by kernel_rfl) (by kernel_rfl))
def LA:cm:=⟨.slice 42,1,24,.slice none 0 0,[],(some (.aH (.pair (.int .u8) (.pair (.int .u8) (.pair (.int .u8) (.pair (.int .u8) (.pair (.int .i64) (.pair (.int .i64) (.int .i64))))))))),false⟩
theorem Sv:bj Tryz.prog 49 LA:=az Tryz.underlying49 (aR (by kernel_rfl) rfl rfl) (fun _ h=>by cases h) (aP rfl (by kernel_rfl) (by kernel_rfl))
def Lz:cm:=⟨.slice 80,1,24,.slice none 0 0,[],(some (.aH (.int .u64))),false⟩
theorem Su:bj Tryz.prog 51 Lz:=az Tryz.underlying51 (aR (by kernel_rfl) rfl rfl) (fun _ h=>by cases h) (aP rfl (by kernel_rfl) (by kernel_rfl))
def Ly:cm:=⟨.array 4 51,4,96,.agg #[.slice none 0 0,.slice none 0 0,.slice none 0 0,.slice none 0 0],[],(some (.arr 4 (.aH (.int .u64)))),false⟩
theorem Ss:bj Tryz.prog 52 Ly:=az Tryz.underlying52 (aR (by kernel_rfl) rfl rfl) (fun _ h=>by cases h) (aP rfl (by kernel_rfl) (by kernel_rfl))
def Lx:cm:=⟨.slice 95,1,24,.slice none 0 0,[],(some (.aH (.pair (.int .i64) .bool))),false⟩
theorem Sr:bj Tryz.prog 53 Lx:=az Tryz.underlying53 (aR (by kernel_rfl) rfl rfl) (fun _ h=>by cases h) (aP rfl (by kernel_rfl) (by kernel_rfl))
def Lw:cm:=⟨.array 4 53,4,96,.agg #[.slice none 0 0,.slice none 0 0,.slice none 0 0,.slice none 0 0],[],(some (.arr 4 (.aH (.pair (.int .i64) .bool)))),false⟩
theorem Sq:bj Tryz.prog 54 Lw:=az Tryz.underlying54 (aR (by kernel_rfl) rfl rfl) (fun _ h=>by cases h) (aP rfl (by kernel_rfl) (by kernel_rfl))
def Lv:cm:=⟨.slice 78,1,24,.slice none 0 0,[],(some (.aH (.pair (.int .u8) (.pair (.int .i64) (.int .i64))))),false⟩
theorem So:bj Tryz.prog 59 Lv:=az Tryz.underlying59 (aR (by kernel_rfl) rfl rfl) (fun _ h=>by cases h) (aP rfl (by kernel_rfl) (by kernel_rfl))
def Lu:cm:=⟨.pointer 140,1,8,.pointer none,[],(some (.ptr 1)),false⟩
theorem Sn:bj Tryz.prog 69 Lu:=az Tryz.underlying69 (aR (by kernel_rfl) rfl rfl) (fun _ h=>by cases h) (aP rfl (by kernel_rfl) (by kernel_rfl))
def Lt:cm:=⟨.pointer 143,1,8,.pointer none,[],(some (.ptr 3)),false⟩
theorem Sm:bj Tryz.prog 70 Lt:=az Tryz.underlying70 (aR (by kernel_rfl) rfl rfl) (fun _ h=>by cases h) (aP rfl (by kernel_rfl) (by kernel_rfl))
def Ls:cm:=⟨.slice 79,1,24,.slice none 0 0,[],none,false⟩
theorem Sl:bj Tryz.prog 73 Ls:=az Tryz.underlying73 (aR (by kernel_rfl) rfl rfl) (fun _ h=>by cases h) (iT rfl)
def Lr : cm := ⟨.struct #[⟨"p", 23, 0, false, "", "penfold/world", 0⟩, ⟨"fins", 24, 4, false, "", "penfold/world", 32⟩, ⟨"arena", 69, 5, false, "", "penfold/world", 56⟩, ⟨"ground", 70, 6, false, "", "penfold/world", 64⟩, ⟨"threads", 73, 7, false, "", "penfold/world", 72⟩, ⟨"ops", 39, 8, false, "", "penfold/world", 96⟩, ⟨"steps", 3, 9, false, "", "penfold/world", 120⟩], 10, 128, .agg #[.int .i64 0, .int .i64 0, .int .i64 0, .int .i64 0, .slice none 0 0, .pointer none, .pointer none, .slice none 0 0, .slice none 0 0, .int .i64 0], [(0, 4), (4, 1), (5, 1), (6, 1), (7, 1), (8, 1), (9, 1)], none, false⟩
theorem Sk:bj Tryz.prog 74 Lr:=az Tryz.underlying74 (aR (by kernel_rfl) rfl rfl) (fun fs h w=>by cases h;kernel_rfl) (iT rfl)
def Lq : cm := ⟨.struct #[⟨"p", 23, 0, false, "", "penfold/world", 0⟩, ⟨"fins", 24, 4, false, "", "penfold/world", 32⟩, ⟨"arena", 69, 5, false, "", "penfold/world", 56⟩, ⟨"ground", 70, 6, false, "", "penfold/world", 64⟩, ⟨"threads", 73, 7, false, "", "penfold/world", 72⟩, ⟨"ops", 39, 8, false, "", "penfold/world", 96⟩, ⟨"steps", 3, 9, false, "", "penfold/world", 120⟩], 10, 128, .agg #[.int .i64 0, .int .i64 0, .int .i64 0, .int .i64 0, .slice none 0 0, .pointer none, .pointer none, .slice none 0 0, .slice none 0 0, .int .i64 0], [(0, 4), (4, 1), (5, 1), (6, 1), (7, 1), (8, 1), (9, 1)], (some (.pair (.pair (.int .i64) (.pair (.int .i64) (.pair (.int .i64) (.int .i64)))) (.pair (.iL 9 1) (.pair (.ptr 1) (.pair (.ptr 3) (.pair (.iL 5 1) (.pair (.iL 7 14) (.int .i64)))))))), false⟩
theorem Sj:bj Tryz.prog 75 Lq:=az Tryz.underlying75 (aR (by kernel_rfl) rfl rfl) (fun fs h w=>by cases h;kernel_rfl) (aP rfl (by kernel_rfl) (by kernel_rfl))
def Lo : cm := ⟨.struct #[⟨"Op", 5, 0, false, "", "", 0⟩, ⟨"A", 3, 1, false, "", "", 8⟩, ⟨"B", 3, 2, false, "", "", 16⟩], 3, 24, .agg #[.int .u8 0, .int .i64 0, .int .i64 0], [(0, 1), (1, 1), (2, 1)], (some (.pair (.int .u8) (.pair (.int .i64) (.int .i64)))), false⟩
theorem Si:bj Tryz.prog 77 Lo:=az Tryz.underlying77 (aR (by kernel_rfl) rfl rfl) (fun fs h w=>by cases h;kernel_rfl) (aP rfl (by kernel_rfl) (by kernel_rfl))
def Ln : cm := ⟨.struct #[⟨"Op", 5, 0, false, "", "", 0⟩, ⟨"A", 3, 1, false, "", "", 8⟩, ⟨"B", 3, 2, false, "", "", 16⟩], 3, 24, .agg #[.int .u8 0, .int .i64 0, .int .i64 0], [(0, 1), (1, 1), (2, 1)], (some (.pair (.int .u8) (.pair (.int .i64) (.int .i64)))), false⟩
theorem Sh:bj Tryz.prog 78 Ln:=az Tryz.underlying78 (aR (by kernel_rfl) rfl rfl) (fun fs h w=>by cases h;kernel_rfl) (aP rfl (by kernel_rfl) (by kernel_rfl))
def Lm:cm:=⟨.pointer 84,1,8,.pointer none,[],(some (.ptr 6)),false⟩
theorem Se:bj Tryz.prog 79 Lm:=az Tryz.underlying79 (aR (by kernel_rfl) rfl rfl) (fun _ h=>by cases h) (aP rfl (by kernel_rfl) (by kernel_rfl))
def Ll:cm:=⟨.int .u64,1,8,.int .u64 0,[],(some (.int .u64)),false⟩
theorem Sd:bj Tryz.prog 80 Ll:=az Tryz.underlying80 (aR (by kernel_rfl) rfl rfl) (fun _ h=>by cases h) (aP rfl (by kernel_rfl) (by kernel_rfl))
def Lk : cm := ⟨.struct #[⟨"Call", 42, 0, false, "", "", 0⟩, ⟨"Pc", 3, 7, false, "", "", 32⟩, ⟨"Area", 3, 8, false, "", "", 40⟩, ⟨"Hand", 80, 9, false, "", "", 48⟩, ⟨"Val", 80, 10, false, "", "", 56⟩, ⟨"Chain", 53, 11, false, "", "", 64⟩, ⟨"Word", 80, 12, false, "", "", 88⟩, ⟨"Next", 80, 13, false, "", "", 96⟩, ⟨"At", 3, 14, false, "", "", 104⟩, ⟨"Top", 3, 15, false, "", "", 112⟩, ⟨"List", 43, 16, false, "", "", 120⟩, ⟨"Op", 3, 17, false, "", "", 144⟩, ⟨"Said", 43, 18, false, "", "", 152⟩, ⟨"N", 3, 19, false, "", "", 176⟩, ⟨"Held", 4, 20, false, "", "", 184⟩, ⟨"Done", 4, 21, false, "", "", 185⟩, ⟨"Point", 4, 22, false, "", "", 186⟩, ⟨"Answer", 45, 23, false, "", "", 192⟩], 26, 232, .agg #[.int .u8 0, .int .u8 0, .int .u8 0, .int .u8 0, .int .i64 0, .int .i64 0, .int .i64 0, .int .i64 0, .int .i64 0, .int .u64 0, .int .u64 0, .slice none 0 0, .int .u64 0, .int .u64 0, .int .i64 0, .int .i64 0, .slice none 0 0, .int .i64 0, .slice none 0 0, .int .i64 0, .bool false, .bool false, .bool false, .int .i64 0, .int .i64 0, .slice none 0 0], [(0, 7), (7, 1), (8, 1), (9, 1), (10, 1), (11, 1), (12, 1), (13, 1), (14, 1), (15, 1), (16, 1), (17, 1), (18, 1), (19, 1), (20, 1), (21, 1), (22, 1), (23, 3)], (some (.pair (.pair (.int .u8) (.pair (.int .u8) (.pair (.int .u8) (.pair (.int .u8) (.pair (.int .i64) (.pair (.int .i64) (.int .i64))))))) (.pair (.int .i64) (.pair (.int .i64) (.pair (.int .u64) (.pair (.int .u64) (.pair (.aH (.pair (.int .i64) .bool)) (.pair (.int .u64) (.pair (.int .u64) (.pair (.int .i64) (.pair (.int .i64) (.pair (.aH (.int .i64)) (.pair (.int .i64) (.pair (.aH (.int .i64)) (.pair (.int .i64) (.pair .bool (.pair .bool (.pair .bool (.pair (.int .i64) (.pair (.int .i64) (.aH (.int .i64)))))))))))))))))))))), false⟩
theorem Sc:bj Tryz.prog 81 Lk:=az Tryz.underlying81 (aR (by kernel_rfl) rfl rfl) (fun fs h w=>by cases h;kernel_rfl) (aP rfl (by kernel_rfl) (by kernel_rfl))
def Lj : cm := ⟨.struct #[⟨"Call", 42, 0, false, "", "", 0⟩, ⟨"Pc", 3, 7, false, "", "", 32⟩, ⟨"Area", 3, 8, false, "", "", 40⟩, ⟨"Hand", 80, 9, false, "", "", 48⟩, ⟨"Val", 80, 10, false, "", "", 56⟩, ⟨"Chain", 53, 11, false, "", "", 64⟩, ⟨"Word", 80, 12, false, "", "", 88⟩, ⟨"Next", 80, 13, false, "", "", 96⟩, ⟨"At", 3, 14, false, "", "", 104⟩, ⟨"Top", 3, 15, false, "", "", 112⟩, ⟨"List", 43, 16, false, "", "", 120⟩, ⟨"Op", 3, 17, false, "", "", 144⟩, ⟨"Said", 43, 18, false, "", "", 152⟩, ⟨"N", 3, 19, false, "", "", 176⟩, ⟨"Held", 4, 20, false, "", "", 184⟩, ⟨"Done", 4, 21, false, "", "", 185⟩, ⟨"Point", 4, 22, false, "", "", 186⟩, ⟨"Answer", 45, 23, false, "", "", 192⟩], 26, 232, .agg #[.int .u8 0, .int .u8 0, .int .u8 0, .int .u8 0, .int .i64 0, .int .i64 0, .int .i64 0, .int .i64 0, .int .i64 0, .int .u64 0, .int .u64 0, .slice none 0 0, .int .u64 0, .int .u64 0, .int .i64 0, .int .i64 0, .slice none 0 0, .int .i64 0, .slice none 0 0, .int .i64 0, .bool false, .bool false, .bool false, .int .i64 0, .int .i64 0, .slice none 0 0], [(0, 7), (7, 1), (8, 1), (9, 1), (10, 1), (11, 1), (12, 1), (13, 1), (14, 1), (15, 1), (16, 1), (17, 1), (18, 1), (19, 1), (20, 1), (21, 1), (22, 1), (23, 3)], (some (.pair (.pair (.int .u8) (.pair (.int .u8) (.pair (.int .u8) (.pair (.int .u8) (.pair (.int .i64) (.pair (.int .i64) (.int .i64))))))) (.pair (.int .i64) (.pair (.int .i64) (.pair (.int .u64) (.pair (.int .u64) (.pair (.aH (.pair (.int .i64) .bool)) (.pair (.int .u64) (.pair (.int .u64) (.pair (.int .i64) (.pair (.int .i64) (.pair (.aH (.int .i64)) (.pair (.int .i64) (.pair (.aH (.int .i64)) (.pair (.int .i64) (.pair .bool (.pair .bool (.pair .bool (.pair (.int .i64) (.pair (.int .i64) (.aH (.int .i64)))))))))))))))))))))), false⟩
theorem Sb:bj Tryz.prog 82 Lj:=az Tryz.underlying82 (aR (by kernel_rfl) rfl rfl) (fun fs h w=>by cases h;kernel_rfl) (aP rfl (by kernel_rfl) (by kernel_rfl))
def Li : cm := ⟨.struct #[⟨"calls", 49, 0, false, "", "penfold/world", 0⟩, ⟨"regs", 51, 1, false, "", "penfold/world", 24⟩, ⟨"entries", 53, 2, false, "", "penfold/world", 48⟩, ⟨"run", 82, 3, false, "", "penfold/world", 72⟩, ⟨"busy", 4, 29, false, "", "penfold/world", 304⟩, ⟨"at", 3, 30, false, "", "penfold/world", 312⟩], 31, 320, .agg #[.slice none 0 0, .slice none 0 0, .slice none 0 0, .int .u8 0, .int .u8 0, .int .u8 0, .int .u8 0, .int .i64 0, .int .i64 0, .int .i64 0, .int .i64 0, .int .i64 0, .int .u64 0, .int .u64 0, .slice none 0 0, .int .u64 0, .int .u64 0, .int .i64 0, .int .i64 0, .slice none 0 0, .int .i64 0, .slice none 0 0, .int .i64 0, .bool false, .bool false, .bool false, .int .i64 0, .int .i64 0, .slice none 0 0, .bool false, .int .i64 0], [(0, 1), (1, 1), (2, 1), (3, 26), (29, 1), (30, 1)], (some (.pair (.aH (.pair (.int .u8) (.pair (.int .u8) (.pair (.int .u8) (.pair (.int .u8) (.pair (.int .i64) (.pair (.int .i64) (.int .i64)))))))) (.pair (.aH (.int .u64)) (.pair (.aH (.pair (.int .i64) .bool)) (.pair (.pair (.pair (.int .u8) (.pair (.int .u8) (.pair (.int .u8) (.pair (.int .u8) (.pair (.int .i64) (.pair (.int .i64) (.int .i64))))))) (.pair (.int .i64) (.pair (.int .i64) (.pair (.int .u64) (.pair (.int .u64) (.pair (.aH (.pair (.int .i64) .bool)) (.pair (.int .u64) (.pair (.int .u64) (.pair (.int .i64) (.pair (.int .i64) (.pair (.aH (.int .i64)) (.pair (.int .i64) (.pair (.aH (.int .i64)) (.pair (.int .i64) (.pair .bool (.pair .bool (.pair .bool (.pair (.int .i64) (.pair (.int .i64) (.aH (.int .i64))))))))))))))))))))) (.pair .bool (.int .i64))))))), false⟩
theorem Sa:bj Tryz.prog 83 Li:=az Tryz.underlying83 (aR (by kernel_rfl) rfl rfl) (fun fs h w=>by cases h;kernel_rfl) (aP rfl (by kernel_rfl) (by kernel_rfl))
def Lh : cm := ⟨.struct #[⟨"calls", 49, 0, false, "", "penfold/world", 0⟩, ⟨"regs", 51, 1, false, "", "penfold/world", 24⟩, ⟨"entries", 53, 2, false, "", "penfold/world", 48⟩, ⟨"run", 82, 3, false, "", "penfold/world", 72⟩, ⟨"busy", 4, 29, false, "", "penfold/world", 304⟩, ⟨"at", 3, 30, false, "", "penfold/world", 312⟩], 31, 320, .agg #[.slice none 0 0, .slice none 0 0, .slice none 0 0, .int .u8 0, .int .u8 0, .int .u8 0, .int .u8 0, .int .i64 0, .int .i64 0, .int .i64 0, .int .i64 0, .int .i64 0, .int .u64 0, .int .u64 0, .slice none 0 0, .int .u64 0, .int .u64 0, .int .i64 0, .int .i64 0, .slice none 0 0, .int .i64 0, .slice none 0 0, .int .i64 0, .bool false, .bool false, .bool false, .int .i64 0, .int .i64 0, .slice none 0 0, .bool false, .int .i64 0], [(0, 1), (1, 1), (2, 1), (3, 26), (29, 1), (30, 1)], (some (.pair (.aH (.pair (.int .u8) (.pair (.int .u8) (.pair (.int .u8) (.pair (.int .u8) (.pair (.int .i64) (.pair (.int .i64) (.int .i64)))))))) (.pair (.iL 8 1) (.pair (.aH (.pair (.int .i64) .bool)) (.pair (.pair (.pair (.int .u8) (.pair (.int .u8) (.pair (.int .u8) (.pair (.int .u8) (.pair (.int .i64) (.pair (.int .i64) (.int .i64))))))) (.pair (.int .i64) (.pair (.int .i64) (.pair (.int .u64) (.pair (.int .u64) (.pair (.aH (.pair (.int .i64) .bool)) (.pair (.int .u64) (.pair (.int .u64) (.pair (.int .i64) (.pair (.int .i64) (.pair (.aH (.int .i64)) (.pair (.int .i64) (.pair (.aH (.int .i64)) (.pair (.int .i64) (.pair .bool (.pair .bool (.pair .bool (.pair (.int .i64) (.pair (.int .i64) (.aH (.int .i64))))))))))))))))))))) (.pair .bool (.int .i64))))))), false⟩
theorem R_:bj Tryz.prog 84 Lh:=az Tryz.underlying84 (aR (by kernel_rfl) rfl rfl) (fun fs h w=>by cases h;kernel_rfl) (aP rfl (by kernel_rfl) (by kernel_rfl))
def Lg:cm:=⟨.pointer 47,1,8,.pointer none,[],none,false⟩
theorem RZ:bj Tryz.prog 89 Lg:=az Tryz.underlying89 (aR (by kernel_rfl) rfl rfl) (fun _ h=>by cases h) (iT rfl)
def Lf : cm := ⟨.struct #[⟨"Scope", 3, 0, false, "", "", 0⟩, ⟨"Counted", 4, 1, false, "", "", 8⟩], 2, 16, .agg #[.int .i64 0, .bool false], [(0, 1), (1, 1)], (some (.pair (.int .i64) .bool)), false⟩
theorem RY:bj Tryz.prog 94 Lf:=az Tryz.underlying94 (aR (by kernel_rfl) rfl rfl) (fun fs h w=>by cases h;kernel_rfl) (aP rfl (by kernel_rfl) (by kernel_rfl))
def Ld : cm := ⟨.struct #[⟨"Scope", 3, 0, false, "", "", 0⟩, ⟨"Counted", 4, 1, false, "", "", 8⟩], 2, 16, .agg #[.int .i64 0, .bool false], [(0, 1), (1, 1)], (some (.pair (.int .i64) .bool)), false⟩
theorem RX:bj Tryz.prog 95 Ld:=az Tryz.underlying95 (aR (by kernel_rfl) rfl rfl) (fun fs h w=>by cases h;kernel_rfl) (aP rfl (by kernel_rfl) (by kernel_rfl))
def Lc:cm:=⟨.func #[135,78] #[] false,1,8,.nilFunc,[],none,false⟩
theorem RW:bj Tryz.prog 97 Lc:=az Tryz.underlying97 (aR (by kernel_rfl) rfl rfl) (fun _ h=>by cases h) (iT rfl)
def Lb : cm := ⟨.struct #[⟨"a", 3, 0, false, "", "penfold/fin", 0⟩, ⟨"b", 3, 1, false, "", "penfold/fin", 8⟩, ⟨"do", 97, 2, false, "", "penfold/fin", 16⟩], 3, 24, .agg #[.int .i64 0, .int .i64 0, .nilFunc], [(0, 1), (1, 1), (2, 1)], none, false⟩
theorem RV:bj Tryz.prog 98 Lb:=az Tryz.underlying98 (aR (by kernel_rfl) rfl rfl) (fun fs h w=>by cases h;kernel_rfl) (iT rfl)
def La : cm := ⟨.struct #[⟨"a", 3, 0, false, "", "penfold/fin", 0⟩, ⟨"b", 3, 1, false, "", "penfold/fin", 8⟩, ⟨"do", 97, 2, false, "", "penfold/fin", 16⟩], 3, 24, .agg #[.int .i64 0, .int .i64 0, .nilFunc], [(0, 1), (1, 1), (2, 1)], none, false⟩
theorem RU:bj Tryz.prog 99 La:=az Tryz.underlying99 (aR (by kernel_rfl) rfl rfl) (fun fs h w=>by cases h;kernel_rfl) (iT rfl)
def FQ:cm:=⟨.array 5 99,15,120,.agg #[.int .i64 0,.int .i64 0,.nilFunc,.int .i64 0,.int .i64 0,.nilFunc,.int .i64 0,.int .i64 0,.nilFunc,.int .i64 0,.int .i64 0,.nilFunc,.int .i64 0,.int .i64 0,.nilFunc],[],none,false⟩
theorem MJ:bj Tryz.prog 100 FQ:=az Tryz.underlying100 (aR (by kernel_rfl) rfl rfl) (fun _ h=>by cases h) (iT rfl)
def FP : cm := ⟨.struct #[⟨"At", 3, 0, false, "", "", 0⟩, ⟨"Size", 3, 1, false, "", "", 8⟩], 2, 16, .agg #[.int .i64 0, .int .i64 0], [(0, 1), (1, 1)], (some (.pair (.int .i64) (.int .i64))), false⟩
theorem MI:bj Tryz.prog 107 FP:=az Tryz.underlying107 (aR (by kernel_rfl) rfl rfl) (fun fs h w=>by cases h;kernel_rfl) (aP rfl (by kernel_rfl) (by kernel_rfl))
def FO : cm := ⟨.struct #[⟨"At", 3, 0, false, "", "", 0⟩, ⟨"Size", 3, 1, false, "", "", 8⟩], 2, 16, .agg #[.int .i64 0, .int .i64 0], [(0, 1), (1, 1)], (some (.pair (.int .i64) (.int .i64))), false⟩
theorem MH:bj Tryz.prog 108 FO:=az Tryz.underlying108 (aR (by kernel_rfl) rfl rfl) (fun fs h w=>by cases h;kernel_rfl) (aP rfl (by kernel_rfl) (by kernel_rfl))
def FN : cm := ⟨.struct #[⟨"a", 69, 0, false, "", "penfold/found", 0⟩, ⟨"p", 23, 1, false, "", "penfold/found", 8⟩, ⟨"s", 3, 5, false, "", "penfold/found", 40⟩], 6, 48, .agg #[.pointer none, .int .i64 0, .int .i64 0, .int .i64 0, .int .i64 0, .int .i64 0], [(0, 1), (1, 4), (5, 1)], (some (.pair (.ptr 1) (.pair (.pair (.int .i64) (.pair (.int .i64) (.pair (.int .i64) (.int .i64)))) (.int .i64)))), false⟩
theorem MG:bj Tryz.prog 113 FN:=az Tryz.underlying113 (aR (by kernel_rfl) rfl rfl) (fun fs h w=>by cases h;kernel_rfl) (aP rfl (by kernel_rfl) (by kernel_rfl))
def FM : cm := ⟨.struct #[⟨"a", 69, 0, false, "", "penfold/found", 0⟩, ⟨"p", 23, 1, false, "", "penfold/found", 8⟩, ⟨"s", 3, 5, false, "", "penfold/found", 40⟩], 6, 48, .agg #[.pointer none, .int .i64 0, .int .i64 0, .int .i64 0, .int .i64 0, .int .i64 0], [(0, 1), (1, 4), (5, 1)], (some (.pair (.ptr 1) (.pair (.pair (.int .i64) (.pair (.int .i64) (.pair (.int .i64) (.int .i64)))) (.int .i64)))), false⟩
theorem MF:bj Tryz.prog 114 FM:=az Tryz.underlying114 (aR (by kernel_rfl) rfl rfl) (fun fs h w=>by cases h;kernel_rfl) (aP rfl (by kernel_rfl) (by kernel_rfl))
def FL : cm := ⟨.struct #[⟨"State", 3, 0, false, "", "", 0⟩, ⟨"Count", 3, 1, false, "", "", 8⟩, ⟨"Parent", 3, 2, false, "", "", 16⟩, ⟨"Epoch", 3, 3, false, "", "", 24⟩], 4, 32, .agg #[.int .i64 0, .int .i64 0, .int .i64 0, .int .i64 0], [(0, 1), (1, 1), (2, 1), (3, 1)], (some (.pair (.int .i64) (.pair (.int .i64) (.pair (.int .i64) (.int .i64))))), false⟩
theorem ME:bj Tryz.prog 116 FL:=az Tryz.underlying116 (aR (by kernel_rfl) rfl rfl) (fun fs h w=>by cases h;kernel_rfl) (aP rfl (by kernel_rfl) (by kernel_rfl))
def FK : cm := ⟨.struct #[⟨"State", 3, 0, false, "", "", 0⟩, ⟨"Count", 3, 1, false, "", "", 8⟩, ⟨"Parent", 3, 2, false, "", "", 16⟩, ⟨"Epoch", 3, 3, false, "", "", 24⟩], 4, 32, .agg #[.int .i64 0, .int .i64 0, .int .i64 0, .int .i64 0], [(0, 1), (1, 1), (2, 1), (3, 1)], (some (.pair (.int .i64) (.pair (.int .i64) (.pair (.int .i64) (.int .i64))))), false⟩
theorem MD:bj Tryz.prog 117 FK:=az Tryz.underlying117 (aR (by kernel_rfl) rfl rfl) (fun fs h w=>by cases h;kernel_rfl) (aP rfl (by kernel_rfl) (by kernel_rfl))
def FJ : cm := ⟨.struct #[⟨"p", 23, 0, false, "", "penfold/begin", 0⟩, ⟨"l", 53, 4, false, "", "penfold/begin", 32⟩, ⟨"c", 42, 5, false, "", "penfold/begin", 56⟩, ⟨"h", 80, 12, false, "", "penfold/begin", 88⟩, ⟨"v", 80, 13, false, "", "penfold/begin", 96⟩], 14, 104, .agg #[.int .i64 0, .int .i64 0, .int .i64 0, .int .i64 0, .slice none 0 0, .int .u8 0, .int .u8 0, .int .u8 0, .int .u8 0, .int .i64 0, .int .i64 0, .int .i64 0, .int .u64 0, .int .u64 0], [(0, 4), (4, 1), (5, 7), (12, 1), (13, 1)], (some (.pair (.pair (.int .i64) (.pair (.int .i64) (.pair (.int .i64) (.int .i64)))) (.pair (.aH (.pair (.int .i64) .bool)) (.pair (.pair (.int .u8) (.pair (.int .u8) (.pair (.int .u8) (.pair (.int .u8) (.pair (.int .i64) (.pair (.int .i64) (.int .i64))))))) (.pair (.int .u64) (.int .u64)))))), false⟩
theorem MC:bj Tryz.prog 120 FJ:=az Tryz.underlying120 (aR (by kernel_rfl) rfl rfl) (fun fs h w=>by cases h;kernel_rfl) (aP rfl (by kernel_rfl) (by kernel_rfl))
def FI : cm := ⟨.struct #[⟨"p", 23, 0, false, "", "penfold/begin", 0⟩, ⟨"l", 53, 4, false, "", "penfold/begin", 32⟩, ⟨"c", 42, 5, false, "", "penfold/begin", 56⟩, ⟨"h", 80, 12, false, "", "penfold/begin", 88⟩, ⟨"v", 80, 13, false, "", "penfold/begin", 96⟩], 14, 104, .agg #[.int .i64 0, .int .i64 0, .int .i64 0, .int .i64 0, .slice none 0 0, .int .u8 0, .int .u8 0, .int .u8 0, .int .u8 0, .int .i64 0, .int .i64 0, .int .i64 0, .int .u64 0, .int .u64 0], [(0, 4), (4, 1), (5, 7), (12, 1), (13, 1)], (some (.pair (.pair (.int .i64) (.pair (.int .i64) (.pair (.int .i64) (.int .i64)))) (.pair (.aH (.pair (.int .i64) .bool)) (.pair (.pair (.int .u8) (.pair (.int .u8) (.pair (.int .u8) (.pair (.int .u8) (.pair (.int .i64) (.pair (.int .i64) (.int .i64))))))) (.pair (.int .u64) (.int .u64)))))), false⟩
theorem MB:bj Tryz.prog 121 FI:=az Tryz.underlying121 (aR (by kernel_rfl) rfl rfl) (fun fs h w=>by cases h;kernel_rfl) (aP rfl (by kernel_rfl) (by kernel_rfl))
def FH:cm:=⟨.pointer 137,1,8,.pointer none,[],none,false⟩
theorem MA:bj Tryz.prog 135 FH:=az Tryz.underlying135 (aR (by kernel_rfl) rfl rfl) (fun _ h=>by cases h) (iT rfl)
def FG : cm := ⟨.struct #[⟨"slots", 51, 0, false, "", "penfold/fin", 0⟩, ⟨"said", 43, 1, false, "", "penfold/fin", 24⟩, ⟨"held", 4, 2, false, "", "penfold/fin", 48⟩, ⟨"skip", 3, 3, false, "", "penfold/fin", 56⟩], 4, 64, .agg #[.slice none 0 0, .slice none 0 0, .bool false, .int .i64 0], [(0, 1), (1, 1), (2, 1), (3, 1)], (some (.pair (.aH (.int .u64)) (.pair (.aH (.int .i64)) (.pair .bool (.int .i64))))), false⟩
theorem Mz:bj Tryz.prog 136 FG:=az Tryz.underlying136 (aR (by kernel_rfl) rfl rfl) (fun fs h w=>by cases h;kernel_rfl) (aP rfl (by kernel_rfl) (by kernel_rfl))
def FF : cm := ⟨.struct #[⟨"slots", 51, 0, false, "", "penfold/fin", 0⟩, ⟨"said", 43, 1, false, "", "penfold/fin", 24⟩, ⟨"held", 4, 2, false, "", "penfold/fin", 48⟩, ⟨"skip", 3, 3, false, "", "penfold/fin", 56⟩], 4, 64, .agg #[.slice none 0 0, .slice none 0 0, .bool false, .int .i64 0], [(0, 1), (1, 1), (2, 1), (3, 1)], none, false⟩
theorem My:bj Tryz.prog 137 FF:=az Tryz.underlying137 (aR (by kernel_rfl) rfl rfl) (fun fs h w=>by cases h;kernel_rfl) (iT rfl)
def FE : cm := ⟨.struct #[⟨"b", 28, 0, false, "", "penfold/arena", 0⟩], 1, 24, .agg #[.slice none 0 0], [(0, 1)], (some (.aH (.int .u8))), false⟩
theorem Mx:bj Tryz.prog 139 FE:=az Tryz.underlying139 (aR (by kernel_rfl) rfl rfl) (fun fs h w=>by cases h;kernel_rfl) (aP rfl (by kernel_rfl) (by kernel_rfl))
def FD : cm := ⟨.struct #[⟨"b", 28, 0, false, "", "penfold/arena", 0⟩], 1, 24, .agg #[.slice none 0 0], [(0, 1)], (some (.iL 2 1)), false⟩
theorem Mw:bj Tryz.prog 140 FD:=az Tryz.underlying140 (aR (by kernel_rfl) rfl rfl) (fun fs h w=>by cases h;kernel_rfl) (aP rfl (by kernel_rfl) (by kernel_rfl))
def FC:cm:=⟨.slice 108,1,24,.slice none 0 0,[],(some (.aH (.pair (.int .i64) (.int .i64)))),false⟩
theorem Mv:bj Tryz.prog 141 FC:=az Tryz.underlying141 (aR (by kernel_rfl) rfl rfl) (fun _ h=>by cases h) (aP rfl (by kernel_rfl) (by kernel_rfl))
def FB : cm := ⟨.struct #[⟨"from", 3, 0, false, "", "penfold/ground", 0⟩, ⟨"end", 3, 1, false, "", "penfold/ground", 8⟩, ⟨"free", 141, 2, false, "", "penfold/ground", 16⟩], 3, 40, .agg #[.int .i64 0, .int .i64 0, .slice none 0 0], [(0, 1), (1, 1), (2, 1)], (some (.pair (.int .i64) (.pair (.int .i64) (.aH (.pair (.int .i64) (.int .i64)))))), false⟩
theorem Mu:bj Tryz.prog 142 FB:=az Tryz.underlying142 (aR (by kernel_rfl) rfl rfl) (fun fs h w=>by cases h;kernel_rfl) (aP rfl (by kernel_rfl) (by kernel_rfl))
def FA : cm := ⟨.struct #[⟨"from", 3, 0, false, "", "penfold/ground", 0⟩, ⟨"end", 3, 1, false, "", "penfold/ground", 8⟩, ⟨"free", 141, 2, false, "", "penfold/ground", 16⟩], 3, 40, .agg #[.int .i64 0, .int .i64 0, .slice none 0 0], [(0, 1), (1, 1), (2, 1)], (some (.pair (.int .i64) (.pair (.int .i64) (.iL 4 2)))), false⟩
theorem Mt:bj Tryz.prog 143 FA:=az Tryz.underlying143 (aR (by kernel_rfl) rfl rfl) (fun fs h w=>by cases h;kernel_rfl) (aP rfl (by kernel_rfl) (by kernel_rfl))
def Fz : cm := ⟨.struct #[⟨"Scope", 3, 0, false, "", "", 0⟩, ⟨"Epoch", 3, 1, false, "", "", 8⟩, ⟨"At", 3, 2, false, "", "", 16⟩], 3, 24, .agg #[.int .i64 0, .int .i64 0, .int .i64 0], [(0, 1), (1, 1), (2, 1)], (some (.pair (.int .i64) (.pair (.int .i64) (.int .i64)))), false⟩
theorem Ms:bj Tryz.prog 151 Fz:=az Tryz.underlying151 (aR (by kernel_rfl) rfl rfl) (fun fs h w=>by cases h;kernel_rfl) (aP rfl (by kernel_rfl) (by kernel_rfl))
def Fy : cm := ⟨.struct #[⟨"Scope", 3, 0, false, "", "", 0⟩, ⟨"Epoch", 3, 1, false, "", "", 8⟩, ⟨"At", 3, 2, false, "", "", 16⟩], 3, 24, .agg #[.int .i64 0, .int .i64 0, .int .i64 0], [(0, 1), (1, 1), (2, 1)], (some (.pair (.int .i64) (.pair (.int .i64) (.int .i64)))), false⟩
theorem Mr:bj Tryz.prog 152 Fy:=az Tryz.underlying152 (aR (by kernel_rfl) rfl rfl) (fun fs h w=>by cases h;kernel_rfl) (aP rfl (by kernel_rfl) (by kernel_rfl))
def Fx:cm:=⟨.func #[166] #[] false,1,8,.nilFunc,[],none,false⟩
theorem Mq:bj Tryz.prog 165 Fx:=az Tryz.underlying165 (aR (by kernel_rfl) rfl rfl) (fun _ h=>by cases h) (iT rfl)
def Fw:cm:=⟨.pointer 170,1,8,.pointer none,[],none,false⟩
theorem Mp:bj Tryz.prog 166 Fw:=az Tryz.underlying166 (aR (by kernel_rfl) rfl rfl) (fun _ h=>by cases h) (iT rfl)
def Fv:cm:=⟨.map 3 165,1,8,.map none,[],none,false⟩
theorem Mo:bj Tryz.prog 167 Fv:=az Tryz.underlying167 (aR (by kernel_rfl) rfl rfl) (fun _ h=>by cases h) (iT rfl)
def Fu : cm := ⟨.struct #[⟨"p", 23, 0, false, "", "penfold/take", 0⟩, ⟨"a", 69, 4, false, "", "penfold/take", 32⟩, ⟨"r", 82, 5, false, "", "penfold/take", 40⟩], 31, 272, .agg #[.int .i64 0, .int .i64 0, .int .i64 0, .int .i64 0, .pointer none, .int .u8 0, .int .u8 0, .int .u8 0, .int .u8 0, .int .i64 0, .int .i64 0, .int .i64 0, .int .i64 0, .int .i64 0, .int .u64 0, .int .u64 0, .slice none 0 0, .int .u64 0, .int .u64 0, .int .i64 0, .int .i64 0, .slice none 0 0, .int .i64 0, .slice none 0 0, .int .i64 0, .bool false, .bool false, .bool false, .int .i64 0, .int .i64 0, .slice none 0 0], [(0, 4), (4, 1), (5, 26)], (some (.pair (.pair (.int .i64) (.pair (.int .i64) (.pair (.int .i64) (.int .i64)))) (.pair (.ptr 1) (.pair (.pair (.int .u8) (.pair (.int .u8) (.pair (.int .u8) (.pair (.int .u8) (.pair (.int .i64) (.pair (.int .i64) (.int .i64))))))) (.pair (.int .i64) (.pair (.int .i64) (.pair (.int .u64) (.pair (.int .u64) (.pair (.aH (.pair (.int .i64) .bool)) (.pair (.int .u64) (.pair (.int .u64) (.pair (.int .i64) (.pair (.int .i64) (.pair (.aH (.int .i64)) (.pair (.int .i64) (.pair (.aH (.int .i64)) (.pair (.int .i64) (.pair .bool (.pair .bool (.pair .bool (.pair (.int .i64) (.pair (.int .i64) (.aH (.int .i64)))))))))))))))))))))))), false⟩
theorem Mn:bj Tryz.prog 169 Fu:=az Tryz.underlying169 (aR (by kernel_rfl) rfl rfl) (fun fs h w=>by cases h;kernel_rfl) (aP rfl (by kernel_rfl) (by kernel_rfl))
def Ft : cm := ⟨.struct #[⟨"p", 23, 0, false, "", "penfold/take", 0⟩, ⟨"a", 69, 4, false, "", "penfold/take", 32⟩, ⟨"r", 82, 5, false, "", "penfold/take", 40⟩], 31, 272, .agg #[.int .i64 0, .int .i64 0, .int .i64 0, .int .i64 0, .pointer none, .int .u8 0, .int .u8 0, .int .u8 0, .int .u8 0, .int .i64 0, .int .i64 0, .int .i64 0, .int .i64 0, .int .i64 0, .int .u64 0, .int .u64 0, .slice none 0 0, .int .u64 0, .int .u64 0, .int .i64 0, .int .i64 0, .slice none 0 0, .int .i64 0, .slice none 0 0, .int .i64 0, .bool false, .bool false, .bool false, .int .i64 0, .int .i64 0, .slice none 0 0], [(0, 4), (4, 1), (5, 26)], (some (.pair (.pair (.int .i64) (.pair (.int .i64) (.pair (.int .i64) (.int .i64)))) (.pair (.ptr 1) (.pair (.pair (.int .u8) (.pair (.int .u8) (.pair (.int .u8) (.pair (.int .u8) (.pair (.int .i64) (.pair (.int .i64) (.int .i64))))))) (.pair (.int .i64) (.pair (.int .i64) (.pair (.int .u64) (.pair (.int .u64) (.pair (.aH (.pair (.int .i64) .bool)) (.pair (.int .u64) (.pair (.int .u64) (.pair (.int .i64) (.pair (.int .i64) (.pair (.aH (.int .i64)) (.pair (.int .i64) (.pair (.aH (.int .i64)) (.pair (.int .i64) (.pair .bool (.pair .bool (.pair .bool (.pair (.int .i64) (.pair (.int .i64) (.aH (.int .i64)))))))))))))))))))))))), false⟩
theorem Mm:bj Tryz.prog 170 Ft:=az Tryz.underlying170 (aR (by kernel_rfl) rfl rfl) (fun fs h w=>by cases h;kernel_rfl) (aP rfl (by kernel_rfl) (by kernel_rfl))
def Fs:cm:=⟨.pointer 173,1,8,.pointer none,[],none,false⟩
theorem Ml:bj Tryz.prog 171 Fs:=az Tryz.underlying171 (aR (by kernel_rfl) rfl rfl) (fun _ h=>by cases h) (iT rfl)
def Fq : cm := ⟨.struct #[⟨"a", 69, 0, false, "", "penfold/enter", 0⟩, ⟨"at", 3, 1, false, "", "penfold/enter", 8⟩, ⟨"r", 82, 2, false, "", "penfold/enter", 16⟩], 28, 248, .agg #[.pointer none, .int .i64 0, .int .u8 0, .int .u8 0, .int .u8 0, .int .u8 0, .int .i64 0, .int .i64 0, .int .i64 0, .int .i64 0, .int .i64 0, .int .u64 0, .int .u64 0, .slice none 0 0, .int .u64 0, .int .u64 0, .int .i64 0, .int .i64 0, .slice none 0 0, .int .i64 0, .slice none 0 0, .int .i64 0, .bool false, .bool false, .bool false, .int .i64 0, .int .i64 0, .slice none 0 0], [(0, 1), (1, 1), (2, 26)], (some (.pair (.ptr 1) (.pair (.int .i64) (.pair (.pair (.int .u8) (.pair (.int .u8) (.pair (.int .u8) (.pair (.int .u8) (.pair (.int .i64) (.pair (.int .i64) (.int .i64))))))) (.pair (.int .i64) (.pair (.int .i64) (.pair (.int .u64) (.pair (.int .u64) (.pair (.aH (.pair (.int .i64) .bool)) (.pair (.int .u64) (.pair (.int .u64) (.pair (.int .i64) (.pair (.int .i64) (.pair (.aH (.int .i64)) (.pair (.int .i64) (.pair (.aH (.int .i64)) (.pair (.int .i64) (.pair .bool (.pair .bool (.pair .bool (.pair (.int .i64) (.pair (.int .i64) (.aH (.int .i64)))))))))))))))))))))))), false⟩
theorem Mk:bj Tryz.prog 172 Fq:=az Tryz.underlying172 (aR (by kernel_rfl) rfl rfl) (fun fs h w=>by cases h;kernel_rfl) (aP rfl (by kernel_rfl) (by kernel_rfl))
def Fo : cm := ⟨.struct #[⟨"a", 69, 0, false, "", "penfold/enter", 0⟩, ⟨"at", 3, 1, false, "", "penfold/enter", 8⟩, ⟨"r", 82, 2, false, "", "penfold/enter", 16⟩], 28, 248, .agg #[.pointer none, .int .i64 0, .int .u8 0, .int .u8 0, .int .u8 0, .int .u8 0, .int .i64 0, .int .i64 0, .int .i64 0, .int .i64 0, .int .i64 0, .int .u64 0, .int .u64 0, .slice none 0 0, .int .u64 0, .int .u64 0, .int .i64 0, .int .i64 0, .slice none 0 0, .int .i64 0, .slice none 0 0, .int .i64 0, .bool false, .bool false, .bool false, .int .i64 0, .int .i64 0, .slice none 0 0], [(0, 1), (1, 1), (2, 26)], (some (.pair (.ptr 1) (.pair (.int .i64) (.pair (.pair (.int .u8) (.pair (.int .u8) (.pair (.int .u8) (.pair (.int .u8) (.pair (.int .i64) (.pair (.int .i64) (.int .i64))))))) (.pair (.int .i64) (.pair (.int .i64) (.pair (.int .u64) (.pair (.int .u64) (.pair (.aH (.pair (.int .i64) .bool)) (.pair (.int .u64) (.pair (.int .u64) (.pair (.int .i64) (.pair (.int .i64) (.pair (.aH (.int .i64)) (.pair (.int .i64) (.pair (.aH (.int .i64)) (.pair (.int .i64) (.pair .bool (.pair .bool (.pair .bool (.pair (.int .i64) (.pair (.int .i64) (.aH (.int .i64)))))))))))))))))))))))), false⟩
theorem Mj:bj Tryz.prog 173 Fo:=az Tryz.underlying173 (aR (by kernel_rfl) rfl rfl) (fun fs h w=>by cases h;kernel_rfl) (aP rfl (by kernel_rfl) (by kernel_rfl))
def Fm:cm:=⟨.map 3 1,1,8,.map none,[],none,false⟩
theorem Mi:bj Tryz.prog 174 Fm:=az Tryz.underlying174 (aR (by kernel_rfl) rfl rfl) (fun _ h=>by cases h) (iT rfl)
def Fl:cm:=⟨.func #[180] #[] false,1,8,.nilFunc,[],none,false⟩
theorem Mh:bj Tryz.prog 176 Fl:=az Tryz.underlying176 (aR (by kernel_rfl) rfl rfl) (fun _ h=>by cases h) (iT rfl)
def Fk:cm:=⟨.map 3 176,1,8,.map none,[],none,false⟩
theorem Mg:bj Tryz.prog 178 Fk:=az Tryz.underlying178 (aR (by kernel_rfl) rfl rfl) (fun _ h=>by cases h) (iT rfl)
def Fj:cm:=⟨.pointer 182,1,8,.pointer none,[],none,false⟩
theorem Mf:bj Tryz.prog 180 Fj:=az Tryz.underlying180 (aR (by kernel_rfl) rfl rfl) (fun _ h=>by cases h) (iT rfl)
def Fi : cm := ⟨.struct #[⟨"p", 23, 0, false, "", "penfold/leave", 0⟩, ⟨"fins", 24, 4, false, "", "penfold/leave", 32⟩, ⟨"a", 69, 5, false, "", "penfold/leave", 56⟩, ⟨"r", 82, 6, false, "", "penfold/leave", 64⟩], 32, 296, .agg #[.int .i64 0, .int .i64 0, .int .i64 0, .int .i64 0, .slice none 0 0, .pointer none, .int .u8 0, .int .u8 0, .int .u8 0, .int .u8 0, .int .i64 0, .int .i64 0, .int .i64 0, .int .i64 0, .int .i64 0, .int .u64 0, .int .u64 0, .slice none 0 0, .int .u64 0, .int .u64 0, .int .i64 0, .int .i64 0, .slice none 0 0, .int .i64 0, .slice none 0 0, .int .i64 0, .bool false, .bool false, .bool false, .int .i64 0, .int .i64 0, .slice none 0 0], [(0, 4), (4, 1), (5, 1), (6, 26)], (some (.pair (.pair (.int .i64) (.pair (.int .i64) (.pair (.int .i64) (.int .i64)))) (.pair (.aH (.aH (.pair (.int .u8) (.pair (.int .i64) (.int .i64))))) (.pair (.ptr 1) (.pair (.pair (.int .u8) (.pair (.int .u8) (.pair (.int .u8) (.pair (.int .u8) (.pair (.int .i64) (.pair (.int .i64) (.int .i64))))))) (.pair (.int .i64) (.pair (.int .i64) (.pair (.int .u64) (.pair (.int .u64) (.pair (.aH (.pair (.int .i64) .bool)) (.pair (.int .u64) (.pair (.int .u64) (.pair (.int .i64) (.pair (.int .i64) (.pair (.aH (.int .i64)) (.pair (.int .i64) (.pair (.aH (.int .i64)) (.pair (.int .i64) (.pair .bool (.pair .bool (.pair .bool (.pair (.int .i64) (.pair (.int .i64) (.aH (.int .i64))))))))))))))))))))))))), false⟩
theorem Me:bj Tryz.prog 181 Fi:=az Tryz.underlying181 (aR (by kernel_rfl) rfl rfl) (fun fs h w=>by cases h;kernel_rfl) (aP rfl (by kernel_rfl) (by kernel_rfl))
def Fh : cm := ⟨.struct #[⟨"p", 23, 0, false, "", "penfold/leave", 0⟩, ⟨"fins", 24, 4, false, "", "penfold/leave", 32⟩, ⟨"a", 69, 5, false, "", "penfold/leave", 56⟩, ⟨"r", 82, 6, false, "", "penfold/leave", 64⟩], 32, 296, .agg #[.int .i64 0, .int .i64 0, .int .i64 0, .int .i64 0, .slice none 0 0, .pointer none, .int .u8 0, .int .u8 0, .int .u8 0, .int .u8 0, .int .i64 0, .int .i64 0, .int .i64 0, .int .i64 0, .int .i64 0, .int .u64 0, .int .u64 0, .slice none 0 0, .int .u64 0, .int .u64 0, .int .i64 0, .int .i64 0, .slice none 0 0, .int .i64 0, .slice none 0 0, .int .i64 0, .bool false, .bool false, .bool false, .int .i64 0, .int .i64 0, .slice none 0 0], [(0, 4), (4, 1), (5, 1), (6, 26)], (some (.pair (.pair (.int .i64) (.pair (.int .i64) (.pair (.int .i64) (.int .i64)))) (.pair (.iL 9 1) (.pair (.ptr 1) (.pair (.pair (.int .u8) (.pair (.int .u8) (.pair (.int .u8) (.pair (.int .u8) (.pair (.int .i64) (.pair (.int .i64) (.int .i64))))))) (.pair (.int .i64) (.pair (.int .i64) (.pair (.int .u64) (.pair (.int .u64) (.pair (.aH (.pair (.int .i64) .bool)) (.pair (.int .u64) (.pair (.int .u64) (.pair (.int .i64) (.pair (.int .i64) (.pair (.aH (.int .i64)) (.pair (.int .i64) (.pair (.aH (.int .i64)) (.pair (.int .i64) (.pair .bool (.pair .bool (.pair .bool (.pair (.int .i64) (.pair (.int .i64) (.aH (.int .i64))))))))))))))))))))))))), false⟩
theorem Md:bj Tryz.prog 182 Fh:=az Tryz.underlying182 (aR (by kernel_rfl) rfl rfl) (fun fs h w=>by cases h;kernel_rfl) (aP rfl (by kernel_rfl) (by kernel_rfl))
def Fg:cm:=⟨.pointer 185,1,8,.pointer none,[],none,false⟩
theorem Mc:bj Tryz.prog 183 Fg:=az Tryz.underlying183 (aR (by kernel_rfl) rfl rfl) (fun _ h=>by cases h) (iT rfl)
def Ff : cm := ⟨.struct #[⟨"p", 23, 0, false, "", "penfold/slots", 0⟩, ⟨"a", 69, 4, false, "", "penfold/slots", 32⟩, ⟨"r", 82, 5, false, "", "penfold/slots", 40⟩, ⟨"refused", 33, 31, false, "", "penfold/slots", 272⟩], 32, 280, .agg #[.int .i64 0, .int .i64 0, .int .i64 0, .int .i64 0, .pointer none, .int .u8 0, .int .u8 0, .int .u8 0, .int .u8 0, .int .i64 0, .int .i64 0, .int .i64 0, .int .i64 0, .int .i64 0, .int .u64 0, .int .u64 0, .slice none 0 0, .int .u64 0, .int .u64 0, .int .i64 0, .int .i64 0, .slice none 0 0, .int .i64 0, .slice none 0 0, .int .i64 0, .bool false, .bool false, .bool false, .int .i64 0, .int .i64 0, .slice none 0 0, .int .i64 0], [(0, 4), (4, 1), (5, 26), (31, 1)], (some (.pair (.pair (.int .i64) (.pair (.int .i64) (.pair (.int .i64) (.int .i64)))) (.pair (.ptr 1) (.pair (.pair (.pair (.int .u8) (.pair (.int .u8) (.pair (.int .u8) (.pair (.int .u8) (.pair (.int .i64) (.pair (.int .i64) (.int .i64))))))) (.pair (.int .i64) (.pair (.int .i64) (.pair (.int .u64) (.pair (.int .u64) (.pair (.aH (.pair (.int .i64) .bool)) (.pair (.int .u64) (.pair (.int .u64) (.pair (.int .i64) (.pair (.int .i64) (.pair (.aH (.int .i64)) (.pair (.int .i64) (.pair (.aH (.int .i64)) (.pair (.int .i64) (.pair .bool (.pair .bool (.pair .bool (.pair (.int .i64) (.pair (.int .i64) (.aH (.int .i64))))))))))))))))))))) (.int .i64))))), false⟩
theorem Mb:bj Tryz.prog 184 Ff:=az Tryz.underlying184 (aR (by kernel_rfl) rfl rfl) (fun fs h w=>by cases h;kernel_rfl) (aP rfl (by kernel_rfl) (by kernel_rfl))
def E_ : cm := ⟨.struct #[⟨"p", 23, 0, false, "", "penfold/slots", 0⟩, ⟨"a", 69, 4, false, "", "penfold/slots", 32⟩, ⟨"r", 82, 5, false, "", "penfold/slots", 40⟩, ⟨"refused", 33, 31, false, "", "penfold/slots", 272⟩], 32, 280, .agg #[.int .i64 0, .int .i64 0, .int .i64 0, .int .i64 0, .pointer none, .int .u8 0, .int .u8 0, .int .u8 0, .int .u8 0, .int .i64 0, .int .i64 0, .int .i64 0, .int .i64 0, .int .i64 0, .int .u64 0, .int .u64 0, .slice none 0 0, .int .u64 0, .int .u64 0, .int .i64 0, .int .i64 0, .slice none 0 0, .int .i64 0, .slice none 0 0, .int .i64 0, .bool false, .bool false, .bool false, .int .i64 0, .int .i64 0, .slice none 0 0, .int .i64 0], [(0, 4), (4, 1), (5, 26), (31, 1)], (some (.pair (.pair (.int .i64) (.pair (.int .i64) (.pair (.int .i64) (.int .i64)))) (.pair (.ptr 1) (.pair (.pair (.pair (.int .u8) (.pair (.int .u8) (.pair (.int .u8) (.pair (.int .u8) (.pair (.int .i64) (.pair (.int .i64) (.int .i64))))))) (.pair (.int .i64) (.pair (.int .i64) (.pair (.int .u64) (.pair (.int .u64) (.pair (.aH (.pair (.int .i64) .bool)) (.pair (.int .u64) (.pair (.int .u64) (.pair (.int .i64) (.pair (.int .i64) (.pair (.aH (.int .i64)) (.pair (.int .i64) (.pair (.aH (.int .i64)) (.pair (.int .i64) (.pair .bool (.pair .bool (.pair .bool (.pair (.int .i64) (.pair (.int .i64) (.aH (.int .i64))))))))))))))))))))) (.int .i64))))), false⟩
theorem Ma:bj Tryz.prog 185 E_:=az Tryz.underlying185 (aR (by kernel_rfl) rfl rfl) (fun fs h w=>by cases h;kernel_rfl) (aP rfl (by kernel_rfl) (by kernel_rfl))
def E9:cm:=⟨.int .u64,1,8,.int .u64 0,[],(some (.int .u64)),false⟩
theorem L_:bj Tryz.prog 191 E9:=az Tryz.underlying191 (aR (by kernel_rfl) rfl rfl) (fun _ h=>by cases h) (aP rfl (by kernel_rfl) (by kernel_rfl))
def E8:cm:=⟨.slice 33,1,24,.slice none 0 0,[],(some (.aH (.int .i64))),false⟩
theorem L9:bj Tryz.prog 196 E8:=az Tryz.underlying196 (aR (by kernel_rfl) rfl rfl) (fun _ h=>by cases h) (aP rfl (by kernel_rfl) (by kernel_rfl))
def E7:cm:=⟨.pointer 108,1,8,.pointer none,[],none,false⟩
theorem L8:bj Tryz.prog 203 E7:=az Tryz.underlying203 (aR (by kernel_rfl) rfl rfl) (fun _ h=>by cases h) (iT rfl)
def E6 : cm := ⟨.struct #[⟨"Size", 3, 0, false, "", "", 0⟩, ⟨"Slots", 3, 1, false, "", "", 8⟩, ⟨"Tag", 3, 2, false, "", "", 16⟩, ⟨"Done", 4, 3, false, "", "", 24⟩, ⟨"Scope", 3, 4, false, "", "", 32⟩, ⟨"Epoch", 3, 5, false, "", "", 40⟩], 6, 48, .agg #[.int .i64 0, .int .i64 0, .int .i64 0, .bool false, .int .i64 0, .int .i64 0], [(0, 1), (1, 1), (2, 1), (3, 1), (4, 1), (5, 1)], (some (.pair (.int .i64) (.pair (.int .i64) (.pair (.int .i64) (.pair .bool (.pair (.int .i64) (.int .i64))))))), false⟩
theorem L7:bj Tryz.prog 207 E6:=az Tryz.underlying207 (aR (by kernel_rfl) rfl rfl) (fun fs h w=>by cases h;kernel_rfl) (aP rfl (by kernel_rfl) (by kernel_rfl))
def E5 : cm := ⟨.struct #[⟨"Size", 3, 0, false, "", "", 0⟩, ⟨"Slots", 3, 1, false, "", "", 8⟩, ⟨"Tag", 3, 2, false, "", "", 16⟩, ⟨"Done", 4, 3, false, "", "", 24⟩, ⟨"Scope", 3, 4, false, "", "", 32⟩, ⟨"Epoch", 3, 5, false, "", "", 40⟩], 6, 48, .agg #[.int .i64 0, .int .i64 0, .int .i64 0, .bool false, .int .i64 0, .int .i64 0], [(0, 1), (1, 1), (2, 1), (3, 1), (4, 1), (5, 1)], (some (.pair (.int .i64) (.pair (.int .i64) (.pair (.int .i64) (.pair .bool (.pair (.int .i64) (.int .i64))))))), false⟩
theorem L6:bj Tryz.prog 208 E5:=az Tryz.underlying208 (aR (by kernel_rfl) rfl rfl) (fun fs h w=>by cases h;kernel_rfl) (aP rfl (by kernel_rfl) (by kernel_rfl))
def E4:cm:=⟨.slice 43,1,24,.slice none 0 0,[],(some (.aH (.aH (.int .i64)))),false⟩
theorem L5:bj Tryz.prog 234 E4:=az Tryz.underlying234 (aR (by kernel_rfl) rfl rfl) (fun _ h=>by cases h) (aP rfl (by kernel_rfl) (by kernel_rfl))
def E3:cm:=⟨.int .u32,1,4,.int .u32 0,[],(some (.int .u32)),false⟩
theorem L4:bj Tryz.prog 243 E3:=az Tryz.underlying243 (aR (by kernel_rfl) rfl rfl) (fun _ h=>by cases h) (aP rfl (by kernel_rfl) (by kernel_rfl))
def E2:cm:=⟨.pointer 5,1,8,.pointer none,[],none,false⟩
theorem L3:bj Tryz.prog 247 E2:=az Tryz.underlying247 (aR (by kernel_rfl) rfl rfl) (fun _ h=>by cases h) (iT rfl)
theorem Wl:gu Tryz.prog 22:=b4 Tryz.stoodInHeld22 Tryz.eqGuardType22 Tryz.underlying22 (by decide)
theorem Wk:gu Tryz.prog 23:=b4 Tryz.stoodInHeld23 Tryz.eqGuardType23 Tryz.underlying23 (by decide)
theorem Wj:gu Tryz.prog 41:=b4 Tryz.stoodInHeld41 Tryz.eqGuardType41 Tryz.underlying41 (by decide)
theorem Wi:gu Tryz.prog 42:=b4 Tryz.stoodInHeld42 Tryz.eqGuardType42 Tryz.underlying42 (by decide)
theorem Wh:gu Tryz.prog 46:=b4 Tryz.stoodInHeld46 Tryz.eqGuardType46 Tryz.underlying46 (by decide)
theorem Wg:gu Tryz.prog 47:=b4 Tryz.stoodInHeld47 Tryz.eqGuardType47 Tryz.underlying47 (by decide)
theorem Wf:gu Tryz.prog 77:=b4 Tryz.stoodInHeld77 Tryz.eqGuardType77 Tryz.underlying77 (by decide)
theorem We:gu Tryz.prog 78:=b4 Tryz.stoodInHeld78 Tryz.eqGuardType78 Tryz.underlying78 (by decide)
theorem Wd:gu Tryz.prog 94:=b4 Tryz.stoodInHeld94 Tryz.eqGuardType94 Tryz.underlying94 (by decide)
theorem Wc:gu Tryz.prog 95:=b4 Tryz.stoodInHeld95 Tryz.eqGuardType95 Tryz.underlying95 (by decide)
theorem P9:gu Tryz.prog 107:=b4 Tryz.stoodInHeld107 Tryz.eqGuardType107 Tryz.underlying107 (by decide)
theorem P8:gu Tryz.prog 108:=b4 Tryz.stoodInHeld108 Tryz.eqGuardType108 Tryz.underlying108 (by decide)
theorem P7:gu Tryz.prog 113:=b4 Tryz.stoodInHeld113 Tryz.eqGuardType113 Tryz.underlying113 (by decide)
theorem P6:gu Tryz.prog 114:=b4 Tryz.stoodInHeld114 Tryz.eqGuardType114 Tryz.underlying114 (by decide)
theorem P5:gu Tryz.prog 116:=b4 Tryz.stoodInHeld116 Tryz.eqGuardType116 Tryz.underlying116 (by decide)
theorem P4:gu Tryz.prog 117:=b4 Tryz.stoodInHeld117 Tryz.eqGuardType117 Tryz.underlying117 (by decide)
theorem P3:gu Tryz.prog 151:=b4 Tryz.stoodInHeld151 Tryz.eqGuardType151 Tryz.underlying151 (by decide)
theorem P2:gu Tryz.prog 152:=b4 Tryz.stoodInHeld152 Tryz.eqGuardType152 Tryz.underlying152 (by decide)
theorem P1:gu Tryz.prog 169:=b4 Tryz.stoodInHeld169 Tryz.eqGuardType169 Tryz.underlying169 (by decide)
theorem P0:gu Tryz.prog 170:=b4 Tryz.stoodInHeld170 Tryz.eqGuardType170 Tryz.underlying170 (by decide)
theorem PZ:gu Tryz.prog 172:=b4 Tryz.stoodInHeld172 Tryz.eqGuardType172 Tryz.underlying172 (by decide)
theorem PY:gu Tryz.prog 173:=b4 Tryz.stoodInHeld173 Tryz.eqGuardType173 Tryz.underlying173 (by decide)
theorem PX:gu Tryz.prog 184:=b4 Tryz.stoodInHeld184 Tryz.eqGuardType184 Tryz.underlying184 (by decide)
theorem PW:gu Tryz.prog 185:=b4 Tryz.stoodInHeld185 Tryz.eqGuardType185 Tryz.underlying185 (by decide)
theorem PV:gu Tryz.prog 207:=b4 Tryz.stoodInHeld207 Tryz.eqGuardType207 Tryz.underlying207 (by decide)
theorem PU:gu Tryz.prog 208:=b4 Tryz.stoodInHeld208 Tryz.eqGuardType208 Tryz.underlying208 (by decide)
def env:Env:=⟨(.node (.node (.node (.node (.node (.node (.node (.node .nil none .nil) none (.node .nil (some E9) .nil)) none (.node (.node .nil none .nil) (some Ld) (.node .nil none .nil))) none (.node (.node (.node .nil (some FA) .nil) (some Lm) (.node .nil (some E6) .nil)) (some LB) (.node (.node .nil none .nil) none (.node .nil none .nil)))) none (.node (.node (.node (.node .nil (some FH) .nil) none (.node .nil none .nil)) (some LK) (.node (.node .nil (some Fv) .nil) none (.node .nil none .nil))) (some LU) (.node (.node (.node .nil (some Fz) .nil) none (.node .nil none .nil)) none (.node (.node .nil (some Fg) .nil) none (.node .nil (some E2) .nil))))) (some Y9) (.node (.node (.node (.node (.node .nil none .nil) none (.node .nil none .nil)) none (.node (.node .nil none .nil) (some La) (.node .nil none .nil))) none (.node (.node (.node .nil none .nil) (some Li) (.node .nil none .nil)) (some Lz) (.node (.node .nil none .nil) none (.node .nil (some E3) .nil)))) none (.node (.node (.node (.node .nil (some FE) .nil) (some Lq) (.node .nil (some E7) .nil)) (some LG) (.node (.node .nil (some Fs) .nil) (some FP) (.node .nil none .nil))) (some LP) (.node (.node (.node .nil none .nil) none (.node .nil none .nil)) (some Lv) (.node (.node .nil none .nil) none .nil))))) (some Za) (.node (.node (.node (.node (.node (.node .nil none .nil) none (.node .nil none .nil)) (some LM) (.node (.node .nil none .nil) (some Lc) (.node .nil none .nil))) none (.node (.node (.node .nil none .nil) (some Lk) (.node .nil none .nil)) (some LA) (.node (.node .nil none .nil) (some FN) (.node .nil none .nil)))) (some Y6) (.node (.node (.node (.node .nil (some FF) .nil) (some Ls) (.node .nil none .nil)) (some LJ) (.node (.node .nil (some Fu) .nil) none (.node .nil none .nil))) (some LR) (.node (.node (.node .nil none .nil) (some Lg) (.node .nil none .nil)) none (.node (.node .nil (some E_) .nil) (some FI) .nil)))) (some Y7) (.node (.node (.node (.node (.node .nil none .nil) (some Lu) (.node .nil none .nil)) none (.node (.node .nil (some Fx) .nil) none (.node .nil none .nil))) (some LW) (.node (.node (.node .nil none .nil) none (.node .nil none .nil)) (some Lx) (.node (.node .nil (some Fi) .nil) (some FK) (.node .nil none .nil)))) (some LX) (.node (.node (.node (.node .nil (some FC) .nil) (some Lo) (.node .nil none .nil)) (some LD) (.node (.node .nil (some Fo) .nil) none (.node .nil none .nil))) none (.node (.node (.node .nil none .nil) none (.node .nil none .nil)) none (.node (.node .nil none .nil) none .nil)))))) none (.node (.node (.node (.node (.node (.node (.node .nil none .nil) none (.node .nil none .nil)) (some LN) (.node (.node .nil none .nil) none (.node .nil none .nil))) none (.node (.node (.node .nil none .nil) (some Ll) (.node .nil (some E5) .nil)) none (.node (.node .nil (some Fl) .nil) none (.node .nil none .nil)))) none (.node (.node (.node (.node .nil (some FG) .nil) none (.node .nil none .nil)) none (.node (.node .nil none .nil) none (.node .nil none .nil))) (some LS) (.node (.node (.node .nil (some Fy) .nil) none (.node .nil none .nil)) none (.node (.node .nil (some Ff) .nil) (some FJ) .nil)))) (some Y8) (.node (.node (.node (.node (.node .nil none .nil) none (.node .nil (some E8) .nil)) (some LL) (.node (.node .nil none .nil) (some FQ) (.node .nil none .nil))) none (.node (.node (.node .nil none .nil) (some Lh) (.node .nil none .nil)) (some Ly) (.node (.node .nil (some Fj) .nil) (some FL) (.node .nil none .nil)))) (some LY) (.node (.node (.node (.node .nil (some FD) .nil) none (.node .nil none .nil)) (some LF) (.node (.node .nil (some Fq) .nil) (some FO) (.node .nil none .nil))) (some LO) (.node (.node (.node .nil none .nil) none (.node .nil none .nil)) none (.node (.node .nil none .nil) none .nil))))) (some Y_) (.node (.node (.node (.node (.node (.node .nil none .nil) none (.node .nil none .nil)) none (.node (.node .nil none .nil) (some Lb) (.node .nil none .nil))) none (.node (.node (.node .nil none .nil) (some Lj) (.node .nil none .nil)) none (.node (.node .nil (some Fk) .nil) (some FM) (.node .nil none .nil)))) none (.node (.node (.node (.node .nil none .nil) (some Lr) (.node .nil none .nil)) (some LI) (.node (.node .nil (some Ft) .nil) none (.node .nil (some E4) .nil))) (some LQ) (.node (.node (.node .nil none .nil) none (.node .nil none .nil)) none (.node (.node .nil none .nil) none .nil)))) none (.node (.node (.node (.node (.node .nil none .nil) (some Lt) (.node .nil none .nil)) none (.node (.node .nil (some Fw) .nil) none (.node .nil none .nil))) (some LV) (.node (.node (.node .nil none .nil) none (.node .nil none .nil)) (some Lw) (.node (.node .nil (some Fh) .nil) none (.node .nil none .nil)))) none (.node (.node (.node (.node .nil (some FB) .nil) (some Ln) (.node .nil none .nil)) (some LC) (.node (.node .nil (some Fm) .nil) none (.node .nil none .nil))) none (.node (.node (.node .nil none .nil) (some Lf) (.node .nil none .nil)) none (.node (.node .nil none .nil) none .nil))))))),[22,23,41,42,46,47,77,78,94,95,107,108,113,114,116,117,151,152,169,170,172,173,184,185,207,208]⟩
theorem uo:bL Tryz.prog env:=⟨CV (.no (.yes te1 (.yes SG (.no (.no (.no (.no (.no (.nil _ _) (.nil _ _)) (.yes L_ (.nil _ _) (.nil _ _))) (.yes RX (.no (.nil _ _) (.nil _ _)) (.no (.nil _ _) (.nil _ _)))) (.yes L2 (.yes Se (.yes Mt (.nil _ _) (.nil _ _)) (.yes L7 (.nil _ _) (.nil _ _))) (.no (.no (.nil _ _) (.nil _ _)) (.no (.nil _ _) (.nil _ _))))) (.yes SM (.yes CX (.no (.yes MA (.nil _ _) (.nil _ _)) (.no (.nil _ _) (.nil _ _))) (.no (.yes Mo (.nil _ _) (.nil _ _)) (.no (.nil _ _) (.nil _ _)))) (.no (.no (.yes Ms (.nil _ _) (.nil _ _)) (.no (.nil _ _) (.nil _ _))) (.no (.yes Mc (.nil _ _) (.nil _ _)) (.yes L3 (.nil _ _) (.nil _ _)))))) (.no (.no (.no (.no (.no (.nil _ _) (.nil _ _)) (.no (.nil _ _) (.nil _ _))) (.yes RU (.no (.nil _ _) (.nil _ _)) (.no (.nil _ _) (.nil _ _)))) (.yes Su (.yes Sa (.no (.nil _ _) (.nil _ _)) (.no (.nil _ _) (.nil _ _))) (.no (.no (.nil _ _) (.nil _ _)) (.yes L4 (.nil _ _) (.nil _ _))))) (.yes SI (.yes CW (.yes Sj (.yes Mx (.nil _ _) (.nil _ _)) (.yes L8 (.nil _ _) (.nil _ _))) (.yes MI (.yes Ml (.nil _ _) (.nil _ _)) (.no (.nil _ _) (.nil _ _)))) (.yes So (.no (.no (.nil _ _) (.nil _ _)) (.no (.nil _ _) (.nil _ _))) (.no (.no (.nil _ _) (.nil _ _)) (.nil _ _)))))) (.yes Z_ (.yes Z9 (.no (.yes SE (.no (.no (.nil _ _) (.nil _ _)) (.no (.nil _ _) (.nil _ _))) (.yes RW (.no (.nil _ _) (.nil _ _)) (.no (.nil _ _) (.nil _ _)))) (.yes Sv (.yes Sc (.no (.nil _ _) (.nil _ _)) (.no (.nil _ _) (.nil _ _))) (.yes MG (.no (.nil _ _) (.nil _ _)) (.no (.nil _ _) (.nil _ _))))) (.yes SK (.yes SB (.yes Sl (.yes My (.nil _ _) (.nil _ _)) (.no (.nil _ _) (.nil _ _))) (.no (.yes Mn (.nil _ _) (.nil _ _)) (.no (.nil _ _) (.nil _ _)))) (.no (.yes RZ (.no (.nil _ _) (.nil _ _)) (.no (.nil _ _) (.nil _ _))) (.yes MB (.yes Ma (.nil _ _) (.nil _ _)) (.nil _ _))))) (.yes SQ (.yes SO (.no (.yes Sn (.no (.nil _ _) (.nil _ _)) (.no (.nil _ _) (.nil _ _))) (.no (.yes Mq (.nil _ _) (.nil _ _)) (.no (.nil _ _) (.nil _ _)))) (.yes Sr (.no (.no (.nil _ _) (.nil _ _)) (.no (.nil _ _) (.nil _ _))) (.yes MD (.yes Me (.nil _ _) (.nil _ _)) (.no (.nil _ _) (.nil _ _))))) (.no (.yes Sy (.yes Si (.yes Mv (.nil _ _) (.nil _ _)) (.no (.nil _ _) (.nil _ _))) (.no (.yes Mj (.nil _ _) (.nil _ _)) (.no (.nil _ _) (.nil _ _)))) (.no (.no (.no (.nil _ _) (.nil _ _)) (.no (.nil _ _) (.nil _ _))) (.no (.no (.nil _ _) (.nil _ _)) (.nil _ _))))))) (.yes te2 (.yes te4 (.no (.no (.yes SF (.no (.no (.nil _ _) (.nil _ _)) (.no (.nil _ _) (.nil _ _))) (.no (.no (.nil _ _) (.nil _ _)) (.no (.nil _ _) (.nil _ _)))) (.no (.yes Sd (.no (.nil _ _) (.nil _ _)) (.yes L6 (.nil _ _) (.nil _ _))) (.no (.yes Mh (.nil _ _) (.nil _ _)) (.no (.nil _ _) (.nil _ _))))) (.yes SL (.no (.no (.yes Mz (.nil _ _) (.nil _ _)) (.no (.nil _ _) (.nil _ _))) (.no (.no (.nil _ _) (.nil _ _)) (.no (.nil _ _) (.nil _ _)))) (.no (.no (.yes Mr (.nil _ _) (.nil _ _)) (.no (.nil _ _) (.nil _ _))) (.yes MC (.yes Mb (.nil _ _) (.nil _ _)) (.nil _ _))))) (.yes SR (.no (.yes SC (.no (.no (.nil _ _) (.nil _ _)) (.yes L9 (.nil _ _) (.nil _ _))) (.yes MJ (.no (.nil _ _) (.nil _ _)) (.no (.nil _ _) (.nil _ _)))) (.yes Ss (.yes R_ (.no (.nil _ _) (.nil _ _)) (.no (.nil _ _) (.nil _ _))) (.yes ME (.yes Mf (.nil _ _) (.nil _ _)) (.no (.nil _ _) (.nil _ _))))) (.yes SH (.yes Sz (.no (.yes Mw (.nil _ _) (.nil _ _)) (.no (.nil _ _) (.nil _ _))) (.yes MH (.yes Mk (.nil _ _) (.nil _ _)) (.no (.nil _ _) (.nil _ _)))) (.no (.no (.no (.nil _ _) (.nil _ _)) (.no (.nil _ _) (.nil _ _))) (.no (.no (.nil _ _) (.nil _ _)) (.nil _ _)))))) (.no (.no (.no (.no (.no (.no (.nil _ _) (.nil _ _)) (.no (.nil _ _) (.nil _ _))) (.yes RV (.no (.nil _ _) (.nil _ _)) (.no (.nil _ _) (.nil _ _)))) (.no (.yes Sb (.no (.nil _ _) (.nil _ _)) (.no (.nil _ _) (.nil _ _))) (.yes MF (.yes Mg (.nil _ _) (.nil _ _)) (.no (.nil _ _) (.nil _ _))))) (.yes SJ (.yes SA (.yes Sk (.no (.nil _ _) (.nil _ _)) (.no (.nil _ _) (.nil _ _))) (.no (.yes Mm (.nil _ _) (.nil _ _)) (.yes L5 (.nil _ _) (.nil _ _)))) (.no (.no (.no (.nil _ _) (.nil _ _)) (.no (.nil _ _) (.nil _ _))) (.no (.no (.nil _ _) (.nil _ _)) (.nil _ _))))) (.no (.yes SN (.no (.yes Sm (.no (.nil _ _) (.nil _ _)) (.no (.nil _ _) (.nil _ _))) (.no (.yes Mp (.nil _ _) (.nil _ _)) (.no (.nil _ _) (.nil _ _)))) (.yes Sq (.no (.no (.nil _ _) (.nil _ _)) (.no (.nil _ _) (.nil _ _))) (.no (.yes Md (.nil _ _) (.nil _ _)) (.no (.nil _ _) (.nil _ _))))) (.no (.yes Sw (.yes Sh (.yes Mu (.nil _ _) (.nil _ _)) (.no (.nil _ _) (.nil _ _))) (.no (.yes Mi (.nil _ _) (.nil _ _)) (.no (.nil _ _) (.nil _ _)))) (.no (.yes RY (.no (.nil _ _) (.nil _ _)) (.no (.nil _ _) (.nil _ _))) (.no (.no (.nil _ _) (.nil _ _)) (.nil _ _)))))))),IV (.cons Wl (.cons Wk (.cons Wj (.cons Wi (.cons Wh (.cons Wg (.cons Wf (.cons We (.cons Wd (.cons Wc (.cons P9 (.cons P8 (.cons P7 (.cons P6 (.cons P5 (.cons P4 (.cons P3 (.cons P2 (.cons P1 (.cons P0 (.cons PZ (.cons PY (.cons PX (.cons PW (.cons PV (.cons PU (.nil))))))))))))))))))))))))))),by kernel_rfl⟩
def homes:List (Nat×Nat):=[(75,0),(84,6),(140,1),(143,3)]
open Go.Bm
set_option maxRecDepth 100000
def x6:av:=comp (au Tryz.f6) (.n none .o (.n none .o (.n none .o (.n (some ⟨[],[(6,(.aH (.pair (.int .u8) (.pair (.int .i64) (.int .i64)))))],[],[],[],[]⟩) (.n none .o (.n none (.n (some ⟨[(7,false,(.int .i64))],[(6,(.aH (.pair (.int .u8) (.pair (.int .i64) (.int .i64)))))],[],[],[],[]⟩) (.n (some ⟨[],[],[],[],[],[]⟩) .o .o) .o) .o)) (.n none .o (.n none .o (.n (some ⟨[],[(8,(.aH (.pair (.int .u8) (.pair (.int .u8) (.pair (.int .u8) (.pair (.int .u8) (.pair (.int .i64) (.pair (.int .i64) (.int .i64)))))))))],[],[],[],[]⟩) (.n none .o (.n none (.n (some ⟨[(10,false,(.int .i64))],[(8,(.aH (.pair (.int .u8) (.pair (.int .u8) (.pair (.int .u8) (.pair (.int .u8) (.pair (.int .i64) (.pair (.int .i64) (.int .i64)))))))))],[],[],[],[]⟩) (.n (some ⟨[],[],[],[],[],[]⟩) .o .o) .o) .o)) (.n (some ⟨[],[(8,(.aH (.pair (.int .u8) (.pair (.int .u8) (.pair (.int .u8) (.pair (.int .u8) (.pair (.int .i64) (.pair (.int .i64) (.int .i64)))))))))],[],[],[],[]⟩) .o (.z [(6,(.aH (.aH (.pair (.int .u8) (.pair (.int .i64) (.int .i64)))))),(8,(.aH (.aH (.pair (.int .u8) (.pair (.int .u8) (.pair (.int .u8) (.pair (.int .u8) (.pair (.int .i64) (.pair (.int .i64) (.int .i64))))))))))] (.n none (.n none .o (.n none (.n (some ⟨[(9,false,.bool),(11,false,(.int .i64))],[],[],[],[],[]⟩) .o .o) .o)) (.n (some ⟨[(12,false,.bool)],[],[],[],[],[]⟩) .o (.n none .o (.n none .o (.n (some ⟨[],[],[],[],[],[]⟩) .o (.n none .o (.n none .o (.n none (.n none .o (.n none (.n (some ⟨[(16,false,(.int .i64)),(17,false,(.int .i64))],[],[],[],[],[]⟩) .o .o) .o)) .o)))))))))))))))))
def x7:av:=comp (au Tryz.f7) (.n none .o (.n none .o (.n (some ⟨[],[],[],[],[],[]⟩) .o .o)))
def x9:av:=comp (au Tryz.f9) (.n none .o (.n none .o (.n (some ⟨[],[],[],[],[],[]⟩) .o (.n none .o (.n none .o (.n none (.n none .o (.n none (.n (some ⟨[(50,false,(.int .i64))],[],[],[],[],[(0,R0),(9,R9)]⟩) .o .o) .o)) (.n none (.n none .o (.n none (.n (some ⟨[(68,false,(.int .i64))],[],[],[],[],[(0,R0),(5,R5),(6,R6),(8,R8)]⟩) (.n none .o (.n none .o (.n none (.n none (.n none .o (.n none .o (.n (some ⟨[],[],[],[],[],[(6,R6)]⟩) .o .o))) .o) .o))) .o) .o)) .o)))))))
def Y4:av:=comp (au Tryz.f10) (.n none .o (.n none .o (.n none .o (.n none .o (.n (some ⟨[],[],[],[],[],[(0,R0),(6,R6),(7,R7)]⟩) .o (.n (some ⟨[],[],[],[],[],[(1,R1),(2,R2),(3,R3),(4,R4),(6,R6),(9,R9)]⟩) .o (.n none .o (.n (some ⟨[],[],[],[],[],[(7,R7)]⟩) .o (.n (some ⟨[],[],[],[],[],[(6,R6),(7,R7),(8,R8)]⟩) .o .o)))))))))
def Y3:av:=comp (au Tryz.f11) (.n none .o (.n (some ⟨[],[(3,(.pair (.int .i64) (.pair (.pair (.int .u8) (.pair (.int .u8) (.pair (.int .u8) (.pair (.int .u8) (.pair (.int .i64) (.pair (.int .i64) (.int .i64))))))) (.pair (.int .i64) (.pair (.int .i64) (.pair (.int .i64) (.pair (.int .i64) (.pair (.int .i64) (.aH (.int .i64))))))))))],[],[],[],[]⟩) .o (.n none (.n none .o (.n none (.n (some ⟨[(12,false,(.int .i64))],[(3,(.pair (.int .i64) (.pair (.pair (.int .u8) (.pair (.int .u8) (.pair (.int .u8) (.pair (.int .u8) (.pair (.int .i64) (.pair (.int .i64) (.int .i64))))))) (.pair (.int .i64) (.pair (.int .i64) (.pair (.int .i64) (.pair (.int .i64) (.pair (.int .i64) (.aH (.int .i64))))))))))],[],[],[],[]⟩) .o .o) .o)) .o)))
def Y2:av:=comp (au Tryz.f12) .o
def Y1:av:=comp (au Tryz.f13) .o
def Y0:av:=comp (au Tryz.f14) .o
def YZ:av:=comp (au Tryz.f17) .o
def YY:av:=comp (au Tryz.f18) (.n none .o (.n none .o (.n none (.n none .o (.n none (.n (some ⟨[(3,false,(.int .i64))],[],[],[],[],[]⟩) (.n none .o (.n none (.n none (.n none .o (.n none .o (.n none (.n (some ⟨[(4,false,(.int .i64))],[],[],[],[],[]⟩) .o .o) .o))) .o) .o)) .o) .o)) .o)))
def YX:av:=comp (au Tryz.f19) (.n none .o (.n none (.n none .o (.n none .o (.n none (.n none .o (.n none (.n (some ⟨[(11,false,(.int .i64))],[(3,(.int .i64))],[],[],[],[]⟩) .o .o) .o)) .o))) .o))
def YW:av:=comp (au Tryz.f23) .o
def YV:av:=comp (au Tryz.f24) .o
def YU:av:=comp (au Tryz.f25) (.n none .o (.n none .o (.n none (.n none .o (.n none (.n (some ⟨[(11,false,(.int .i64))],[],[],[],[],[]⟩) (.n none .o (.n none .o (.n none (.n none (.n none .o (.n none (.n none .o (.n none (.n (some ⟨[(17,false,(.int .i64))],[],[],[],[],[]⟩) .o .o) .o)) .o)) .o) .o))) .o) .o)) .o)))
def YT:av:=comp (au Tryz.f26) .o
def YS:av:=comp (au Tryz.f27) .o
def YR:av:=comp (au Tryz.f28) .o
def YQ:av:=comp (au Tryz.f29) .o
def YP:av:=comp (au Tryz.f30) .o
def YO:av:=comp (au Tryz.f31) .o
def YN:av:=comp (au Tryz.f32) .o
def YM:av:=comp (au Tryz.f33) .o
def YL:av:=comp (au Tryz.f34) (.n none .o (.n none .o (.n none .o (.n none .o (.n none .o (.n none .o (.n none (.n none .o (.n none .o (.n (some ⟨[(36,false,.bool)],[],[],[],[],[]⟩) .o .o))) .o)))))))
def YK:av:=comp (au Tryz.f35) .o
def YJ:av:=comp (au Tryz.f36) .o
def YI:av:=comp (au Tryz.f37) .o
def YH:av:=comp (au Tryz.f38) .o
def YG:av:=comp (au Tryz.f39) .o
def YF:av:=comp (au Tryz.f40) .o
def YE:av:=comp (au Tryz.f41) (.n none .o (.n none (.n none .o (.n none (.n (some ⟨[(8,false,(.int .i64))],[],[],[],[],[]⟩) .o .o) .o)) .o))
def YD:av:=comp (au Tryz.f42) .o
def YC:av:=comp (au Tryz.f43) .o
def YB:av:=comp (au Tryz.f44) .o
def YA:av:=comp (au Tryz.f45) (.n none .o (.n (some ⟨[],[],[],[],[],[]⟩) .o .o))
def Yz:av:=comp (au Tryz.f46) .o
def Yy:av:=comp (au Tryz.f47) .o
def Yx:av:=comp (au Tryz.f48) .o
def Yw:av:=comp (au Tryz.f49) .o
def Yv:av:=comp (au Tryz.f50) .o
def Yu:av:=comp (au Tryz.f51) (.n none .o (.n none .o (.n none .o (.n none .o (.n none .o (.n none .o (.n none (.n none .o (.n none (.n none .o (.n none .o (.n none .o (.n none .o (.n none .o (.n none .o (.n none .o (.n none .o (.n none .o (.n none .o (.n none .o (.n none .o (.n none .o (.n none .o (.n none .o (.n none .o (.n none .o (.n none .o (.n none .o (.n none .o (.n none .o (.n none .o (.n none .o (.n none (.n (some ⟨[(13,false,(.int .i64))],[],[],[],[],[]⟩) .o .o) .o)))))))))))))))))))))))) .o)) .o)))))))
def Yt:av:=comp (au Tryz.f52) (.n none .o (.n none (.n none .o (.n none (.n (some ⟨[(6,false,.bool)],[],[],[],[],[]⟩) .o (.n none .o (.n none .o (.n none .o (.n none .o (.n none .o (.n (some ⟨[(22,false,.bool)],[],[],[],[],[]⟩) .o .o))))))) .o)) .o))
def Ys:av:=comp (au Tryz.f53) .o
def Yr:av:=comp (au Tryz.f54) (.n none .o (.n (some ⟨[],[],[],[((8,none),[(false,(.int .u8)),(false,(.int .u8)),(false,(.int .u8)),(false,(.int .u8)),(false,(.int .i64)),(false,(.int .i64)),(false,(.int .i64)),(false,(.int .i64)),(false,(.int .i64)),(false,(.int .u64)),(false,(.int .u64)),(false,(.aH (.pair (.int .i64) .bool))),(false,(.int .u64)),(false,(.int .u64)),(false,(.int .i64)),(false,(.int .i64)),(false,(.aH (.int .i64))),(false,(.int .i64)),(false,(.aH (.int .i64))),(false,(.int .i64)),(false,.bool),(false,.bool),(false,.bool),(false,(.int .i64)),(false,(.int .i64)),(false,(.aH (.int .i64)))])],[],[]⟩) .o (.n none .o (.n none (.n none .o (.n none (.n (some ⟨[(42,false,(.int .i64))],[],[],[((8,none),[(false,(.int .u8)),(false,(.int .u8)),(false,(.int .u8)),(false,(.int .u8)),(false,(.int .i64)),(false,(.int .i64)),(false,(.int .i64)),(false,(.int .i64)),(false,(.int .i64)),(false,(.int .u64)),(false,(.int .u64)),(false,(.aH (.pair (.int .i64) .bool))),(false,(.int .u64)),(false,(.int .u64)),(false,(.int .i64)),(false,(.int .i64)),(false,(.aH (.int .i64))),(false,(.int .i64)),(false,(.aH (.int .i64))),(false,(.int .i64)),(false,.bool),(false,.bool),(false,.bool),(false,(.int .i64)),(false,(.int .i64)),(false,(.aH (.int .i64)))])],[],[(2,R2),(3,R3),(4,R4)]⟩) .o .o) .o)) .o))))
def Yq:av:=comp (au Tryz.f55) (.n none .o (.n none .o (.n none .o (.n (some ⟨[],[],[],[((6,none),[(false,(.int .u8)),(false,(.int .u8)),(false,(.int .u8)),(false,(.int .u8)),(false,(.int .i64)),(false,(.int .i64)),(false,(.int .i64)),(false,(.int .i64)),(false,(.int .i64)),(false,(.int .u64)),(false,(.int .u64)),(false,(.aH (.pair (.int .i64) .bool))),(false,(.int .u64)),(false,(.int .u64)),(false,(.int .i64)),(false,(.int .i64)),(false,(.aH (.int .i64))),(false,(.int .i64)),(false,(.aH (.int .i64))),(false,(.int .i64)),(false,.bool),(false,.bool),(false,.bool),(false,(.int .i64)),(false,(.int .i64)),(false,(.aH (.int .i64)))])],[],[]⟩) .o .o))))
def Yp:av:=comp (au Tryz.f56) (.n none .o (.n none .o (.n none .o (.n none .o (.n none .o (.n (some ⟨[],[],[],[((6,none),[(false,(.int .u8)),(false,(.int .u8)),(false,(.int .u8)),(false,(.int .u8)),(false,(.int .i64)),(false,(.int .i64)),(false,(.int .i64)),(false,(.int .i64)),(false,(.int .i64)),(false,(.int .u64)),(false,(.int .u64)),(false,(.aH (.pair (.int .i64) .bool))),(false,(.int .u64)),(false,(.int .u64)),(false,(.int .i64)),(false,(.int .i64)),(false,(.aH (.int .i64))),(false,(.int .i64)),(false,(.aH (.int .i64))),(false,(.int .i64)),(false,.bool),(false,.bool),(false,.bool),(false,(.int .i64)),(false,(.int .i64)),(false,(.aH (.int .i64)))])],[],[]⟩) .o .o))))))
def Yo:av:=comp (au Tryz.f57) (.n none .o (.n none .o (.n (some ⟨[],[],[],[((8,none),[(false,(.int .u8)),(false,(.int .u8)),(false,(.int .u8)),(false,(.int .u8)),(false,(.int .i64)),(false,(.int .i64)),(false,(.int .i64)),(false,(.int .i64)),(false,(.int .i64)),(false,(.int .u64)),(false,(.int .u64)),(false,(.aH (.pair (.int .i64) .bool))),(false,(.int .u64)),(false,(.int .u64)),(false,(.int .i64)),(false,(.int .i64)),(false,(.aH (.int .i64))),(false,(.int .i64)),(false,(.aH (.int .i64))),(false,(.int .i64)),(false,.bool),(false,.bool),(false,.bool),(false,(.int .i64)),(false,(.int .i64)),(false,(.aH (.int .i64)))])],[],[]⟩) .o .o)))
def Yn:av:=comp (au Tryz.f58) (.n none .o (.n (some ⟨[],[],[],[((6,none),[(false,(.int .u8)),(false,(.int .u8)),(false,(.int .u8)),(false,(.int .u8)),(false,(.int .i64)),(false,(.int .i64)),(false,(.int .i64)),(false,(.int .i64)),(false,(.int .i64)),(false,(.int .u64)),(false,(.int .u64)),(false,(.aH (.pair (.int .i64) .bool))),(false,(.int .u64)),(false,(.int .u64)),(false,(.int .i64)),(false,(.int .i64)),(false,(.aH (.int .i64))),(false,(.int .i64)),(false,(.aH (.int .i64))),(false,(.int .i64)),(false,.bool),(false,.bool),(false,.bool),(false,(.int .i64)),(false,(.int .i64)),(false,(.aH (.int .i64)))])],[],[]⟩) .o (.n none .o (.n (some ⟨[],[],[],[((8,none),[(false,(.int .i64)),(false,(.int .i64)),(false,(.int .i64)),(false,(.int .i64)),(false,(.ptr 1)),(false,(.int .u8)),(false,(.int .u8)),(false,(.int .u8)),(false,(.int .u8)),(false,(.int .i64)),(false,(.int .i64)),(false,(.int .i64)),(false,(.int .i64)),(false,(.int .i64)),(false,(.int .u64)),(false,(.int .u64)),(false,(.aH (.pair (.int .i64) .bool))),(false,(.int .u64)),(false,(.int .u64)),(false,(.int .i64)),(false,(.int .i64)),(false,(.aH (.int .i64))),(false,(.int .i64)),(false,(.aH (.int .i64))),(false,(.int .i64)),(false,.bool),(false,.bool),(false,.bool),(false,(.int .i64)),(false,(.int .i64)),(false,(.aH (.int .i64))),(false,(.int .i64))]),((6,none),[(false,(.int .u8)),(false,(.int .u8)),(false,(.int .u8)),(false,(.int .u8)),(false,(.int .i64)),(false,(.int .i64)),(false,(.int .i64)),(false,(.int .i64)),(false,(.int .i64)),(false,(.int .u64)),(false,(.int .u64)),(false,(.aH (.pair (.int .i64) .bool))),(false,(.int .u64)),(false,(.int .u64)),(false,(.int .i64)),(false,(.int .i64)),(false,(.aH (.int .i64))),(false,(.int .i64)),(false,(.aH (.int .i64))),(false,(.int .i64)),(false,.bool),(false,.bool),(false,.bool),(false,(.int .i64)),(false,(.int .i64)),(false,(.aH (.int .i64)))])],[],[(2,R2)]⟩) (.n none .o (.n none (.n none .o (.n none .o (.n none .o (.n none .o (.n none .o (.n none .o (.n none .o (.n none .o (.n (some ⟨[(9,false,(.int .i64))],[],[],[],[],[(2,R2)]⟩) .o .o))))))))) .o)) .o))))
def Ym:av:=comp (au Tryz.f59) .o
def Yl:av:=comp (au Tryz.f60) .o
def Yk:av:=comp (au Tryz.f61) .o
def Yj:av:=comp (au Tryz.f62) .o
def Yi:av:=comp (au Tryz.f63) .o
def Yh:av:=comp (au Tryz.f64) (.n none .o (.n (some ⟨[(8,false,.bool)],[],[],[],[],[]⟩) .o .o))
def Yg:av:=comp (au Tryz.f65) .o
def Yf:av:=comp (au Tryz.f66) (.n none .o (.n (some ⟨[(10,false,.bool)],[],[],[],[],[]⟩) .o .o))
def Ye:av:=comp (au Tryz.f67) (.n none .o (.n (some ⟨[(19,false,.bool)],[],[],[],[],[]⟩) .o .o))
def Yd:av:=comp (au Tryz.f68) .o
def Yc:av:=comp (au Tryz.f69) .o
def Yb:av:=comp (au Tryz.f70) (.n none .o (.n none (.n none (.n (some ⟨[(8,false,.bool)],[],[],[],[],[]⟩) .o .o) .o) .o))
def Ya:av:=comp (au Tryz.f71) (.n none .o (.n none .o (.n none (.n none .o (.n none (.n (some ⟨[(12,false,(.int .i64))],[],[],[],[],[(2,R2)]⟩) .o .o) .o)) .o)))
def X_:av:=comp (au Tryz.f72) .o
def X9:av:=comp (au Tryz.f73) .o
def X8:av:=comp (au Tryz.f74) .o
def X7:av:=comp (au Tryz.f75) .o
def X6:av:=comp (au Tryz.f76) .o
def X5:av:=comp (au Tryz.f77) .o
def X4:av:=comp (au Tryz.f78) (.n none .o (.n none .o (.n none (.n none (.n (some ⟨[(15,false,.bool)],[],[],[],[],[]⟩) .o .o) .o) .o)))
def X3:av:=comp (au Tryz.f79) .o
def X2:av:=comp (au Tryz.f80) (.n none .o (.n none (.n none .o (.n none (.n (some ⟨[(7,false,(.int .i64))],[],[],[],[],[]⟩) .o .o) .o)) .o))
def X1:av:=comp (au Tryz.f81) (.n none .o (.n (some ⟨[],[],[],[],[],[]⟩) .o .o))
def X0:av:=comp (au Tryz.f82) .o
def XZ:av:=comp (au Tryz.f83) .o
def XY:av:=comp (au Tryz.f84) .o
def XX:av:=comp (au Tryz.f85) (.n none .o (.n (some ⟨[],[],[],[],[],[]⟩) .o (.n (some ⟨[(6,false,(.int .i64))],[],[],[],[],[]⟩) .o .o)))
def XW:av:=comp (au Tryz.f86) .o
def XV:av:=comp (au Tryz.f87) .o
def XU:av:=comp (au Tryz.f88) .o
def XT:av:=comp (au Tryz.f89) .o
def XS:av:=comp (au Tryz.f90) .o
def XR:av:=comp (au Tryz.f91) .o
def XQ:av:=comp (au Tryz.f92) .o
def XP:av:=comp (au Tryz.f93) .o
def XO:av:=comp (au Tryz.f94) .o
def XN:av:=comp (au Tryz.f95) (.n none .o (.n (some ⟨[],[],[],[((0,none),[(false,(.int .i64)),(false,(.int .i64)),(false,(.int .i64)),(false,(.int .i64)),(false,(.ptr 1)),(false,(.int .u8)),(false,(.int .u8)),(false,(.int .u8)),(false,(.int .u8)),(false,(.int .i64)),(false,(.int .i64)),(false,(.int .i64)),(false,(.int .i64)),(false,(.int .i64)),(false,(.int .u64)),(false,(.int .u64)),(false,(.aH (.pair (.int .i64) .bool))),(false,(.int .u64)),(false,(.int .u64)),(false,(.int .i64)),(false,(.int .i64)),(false,(.aH (.int .i64))),(false,(.int .i64)),(false,(.aH (.int .i64))),(false,(.int .i64)),(false,.bool),(false,.bool),(false,.bool),(false,(.int .i64)),(false,(.int .i64)),(false,(.aH (.int .i64))),(false,(.int .i64))])],[],[]⟩) .o (.n none .o (.n (some ⟨[(4,false,(.int .i64)),(5,false,(.int .i64))],[],[],[],[],[]⟩) .o .o))))
def XM:av:=comp (au Tryz.f96) (.n none .o (.n none .o (.n none (.n none .o (.n none (.n (some ⟨[(3,false,(.int .i64))],[],[],[],[],[]⟩) (.n none (.n none (.n none (.n (some ⟨[(3,false,(.int .i64))],[],[],[],[],[]⟩) .o .o) .o) .o) .o) .o) .o)) .o)))
def XL:av:=comp (au Tryz.f97) .o
def XK:av:=comp (au Tryz.f98) .o
def XJ:av:=comp (au Tryz.f99) .o
def K9:av:=comp (au Tryz.f100) .o
def K8:av:=comp (au Tryz.f101) .o
def K7:av:=comp (au Tryz.f102) .o
def K6:av:=comp (au Tryz.f103) .o
def K5:av:=comp (au Tryz.f104) .o
def K4:av:=comp (au Tryz.f105) .o
def K3:av:=comp (au Tryz.f106) .o
def K2:av:=comp (au Tryz.f107) (.n none .o (.n (some ⟨[],[],[],[],[],[]⟩) .o (.n (some ⟨[(7,false,(.int .i64))],[],[],[],[],[]⟩) .o (.n (some ⟨[(7,false,(.int .i64))],[],[],[],[],[]⟩) .o (.n (some ⟨[],[],[],[],[],[]⟩) .o (.n none .o (.n none .o (.n none .o (.n none (.n none .o (.n none (.n (some ⟨[(107,false,(.int .i64))],[],[],[],[],[(3,R3),(4,R4)]⟩) (.n none .o (.n none .o (.n none (.n none (.n none .o (.n none .o (.n none (.n (some ⟨[(140,false,.bool)],[],[],[],[],[]⟩) .o .o) .o))) .o) .o))) .o) .o)) .o)))))))))
def K0:av:=comp (au Tryz.f108) .o
def KZ:av:=comp (au Tryz.f109) (.n none .o (.n none .o (.n none .o (.n none (.n none .o (.n none (.n (some ⟨[(6,false,(.int .u64)),(12,false,(.int .i64))],[],[],[],[],[]⟩) .o .o) .o)) .o))))
def KY:av:=comp (au Tryz.f110) .o
def KX:av:=comp (au Tryz.f111) .o
def KW:av:=comp (au Tryz.f112) (.n none .o (.n none (.n none .o (.n none (.n (some ⟨[(8,false,(.int .i64))],[],[],[],[],[]⟩) .o .o) .o)) .o))
def KV:av:=comp (au Tryz.f113) .o
def KU:av:=comp (au Tryz.f114) .o
def KS:av:=comp (au Tryz.f115) .o
def KR:av:=comp (au Tryz.f116) (.n none .o (.n none .o (.n none .o (.n (some ⟨[(5,false,(.int .u64))],[],[],[],[],[]⟩) .o .o))))
def KQ:av:=comp (au Tryz.f117) (.n none .o (.n none .o (.n (some ⟨[],[],[],[],[],[]⟩) (.n none (.n none .o (.n none .o (.n (some ⟨[(30,false,.bool)],[],[],[],[],[]⟩) .o .o))) .o) (.n none .o (.n (some ⟨[],[],[],[],[],[]⟩) .o .o)))))
def KP:av:=comp (au Tryz.f118) (.n none .o (.n (some ⟨[],[],[],[],[],[]⟩) .o .o))
def KO:av:=comp (au Tryz.f119) (.n none .o (.n (some ⟨[],[],[],[((2,none),[(false,(.int .i64)),(false,(.int .i64)),(false,(.int .i64)),(false,(.int .i64))]),((4,none),[(false,(.int .i64)),(false,(.int .i64)),(false,(.int .i64)),(false,(.int .i64))])],[],[]⟩) (.n none (.n (some ⟨[(6,false,.bool)],[],[],[],[],[]⟩) .o .o) .o) .o))
def KN:av:=comp (au Tryz.f120) .o
def KM:av:=comp (au Tryz.f121) .o
def KL:av:=comp (au Tryz.f122) .o
def KK:av:=comp (au Tryz.f123) .o
def KJ:av:=comp (au Tryz.f124) .o
def KI:av:=comp (au Tryz.f125) .o
def KH:av:=comp (au Tryz.f126) (.n none .o (.n none .o (.n none .o (.n none .o (.n none (.n none .o (.n none (.n (some ⟨[(46,false,(.int .i64))],[(5,(.int .i64)),(6,(.int .u64))],[],[],[],[(1,R1)]⟩) .o .o) .o)) (.n none .o (.n none .o (.n none (.n none .o (.n none (.n (some ⟨[(100,false,(.int .i64))],[],[],[],[],[(1,R1),(2,R2)]⟩) .o .o) .o)) (.n (some ⟨[],[],[],[((0,none),[(false,(.int .i64)),(false,(.int .i64)),(false,(.int .i64)),(false,(.int .i64)),(false,(.iL 9 1)),(false,(.ptr 1)),(false,(.int .u8)),(false,(.int .u8)),(false,(.int .u8)),(false,(.int .u8)),(false,(.int .i64)),(false,(.int .i64)),(false,(.int .i64)),(false,(.int .i64)),(false,(.int .i64)),(false,(.int .u64)),(false,(.int .u64)),(false,(.aH (.pair (.int .i64) .bool))),(false,(.int .u64)),(false,(.int .u64)),(false,(.int .i64)),(false,(.int .i64)),(false,(.aH (.int .i64))),(false,(.int .i64)),(false,(.aH (.int .i64))),(false,(.int .i64)),(false,.bool),(false,.bool),(false,.bool),(false,(.int .i64)),(false,(.int .i64)),(false,(.aH (.int .i64)))])],[],[]⟩) .o .o)))))))))
def KG:av:=comp (au Tryz.f127) .o
def KF:av:=comp (au Tryz.f128) .o
def KE:av:=comp (au Tryz.f129) .o
def KD:av:=comp (au Tryz.f130) .o
def KB:av:=comp (au Tryz.f131) .o
def KA:av:=comp (au Tryz.f132) .o
def Kz:av:=comp (au Tryz.f133) .o
def Ky:av:=comp (au Tryz.f134) (.n none .o (.n none .o (.n (some ⟨[],[],[],[],[],[]⟩) .o .o)))
def Kx:av:=comp (au Tryz.f135) (.n none .o (.n none .o (.n none (.n none .o (.n none (.n (some ⟨[(2,false,(.int .i64)),(9,false,(.int .i64))],[],[],[],[],[]⟩) .o .o) .o)) .o)))
def Kw:av:=comp (au Tryz.f136) (.n none .o (.n none (.n none .o (.n none (.n (some ⟨[(8,false,(.int .i64))],[],[],[],[],[]⟩) .o .o) .o)) .o))
def Kv:av:=comp (au Tryz.f137) (.n none .o (.n none (.n none .o (.n none (.n (some ⟨[(4,false,.bool)],[],[],[],[],[]⟩) .o .o) .o)) .o))
def Ku:av:=comp (au Tryz.f138) (.n none .o (.n none (.n none .o (.n none (.n (some ⟨[(8,false,(.int .i64))],[],[],[],[],[]⟩) .o .o) .o)) .o))
def Kt:av:=comp (au Tryz.f139) (.n none .o (.n none (.n none .o (.n none (.n (some ⟨[(8,false,(.int .i64))],[],[],[],[],[]⟩) .o .o) .o)) .o))
def Ks:av:=comp (au Tryz.f140) .o
def Kr:av:=comp (au Tryz.f141) .o
def Kq:av:=comp (au Tryz.f142) .o
def Ko:av:=comp (au Tryz.f143) .o
def Kn:av:=comp (au Tryz.f144) .o
def Km:av:=comp (au Tryz.f145) .o
def Kl:av:=comp (au Tryz.f146) .o
def Kk:av:=comp (au Tryz.f147) .o
def Kj:av:=comp (au Tryz.f148) .o
def Ki:av:=comp (au Tryz.f149) (.n none .o (.n none .o (.n none .o (.n none .o (.n (some ⟨[],[],[],[((10,none),[(true,(.int .u64)),(true,(.int .i64)),(false,.bool),(false,(.int .i64))])],[],[]⟩) .o .o)))))
def Kh:av:=comp (au Tryz.f150) (.n none .o (.n none .o (.n none (.n none .o (.n none (.n (some ⟨[(3,false,(.int .i64)),(11,false,(.int .i64))],[],[],[],[],[]⟩) .o .o) .o)) (.n (some ⟨[],[(6,(.int .i64))],[],[],[],[]⟩) .o (.n none (.n none .o (.n none (.n (some ⟨[(27,false,(.int .i64))],[(6,(.int .i64))],[],[],[],[]⟩) .o .o) .o)) .o)))))
def Kg:av:=comp (au Tryz.f151) .o
def Ke:av:=comp (au Tryz.f152) .o
def Kd:av:=comp (au Tryz.f153) (.n none .o (.n (some ⟨[],[],[],[((6,none),[(false,(.int .i64)),(false,(.int .i64)),(false,(.int .i64)),(false,(.int .i64))])],[],[]⟩) .o .o))
def Kc:av:=comp (au Tryz.f154) .o
def Kb:av:=comp (au Tryz.f155) .o
def Ka:av:=comp (au Tryz.f156) .o
def J_:av:=comp (au Tryz.f157) .o
def J9:av:=comp (au Tryz.f158) .o
def J8:av:=comp (au Tryz.f159) .o
def J7:av:=comp (au Tryz.f160) .o
def J6:av:=comp (au Tryz.f161) .o
def J5:av:=comp (au Tryz.f162) (.n none .o (.n (some ⟨[],[],[],[],[],[]⟩) .o .o))
def J4:av:=comp (au Tryz.f163) .o
def fnT:Tr (Func×av):=(.node (.node (.node (.node (.node (.node (.node (.node .nil (some (Tryz.f127,KG)) .nil) (some (Tryz.f63,Yi)) .nil) (some (Tryz.f31,YO)) (.node (.node .nil (some (Tryz.f159,J8)) .nil) (some (Tryz.f95,XN)) .nil)) none (.node (.node (.node .nil (some (Tryz.f143,Ko)) .nil) (some (Tryz.f79,X3)) .nil) (some (Tryz.f47,Yy)) (.node .nil (some (Tryz.f111,KX)) .nil))) (some (Tryz.f7,x7)) (.node (.node (.node (.node .nil (some (Tryz.f135,Kx)) .nil) (some (Tryz.f71,Ya)) .nil) (some (Tryz.f39,YG)) (.node .nil (some (Tryz.f103,K6)) .nil)) (some (Tryz.f23,YW)) (.node (.node (.node .nil (some (Tryz.f151,Kg)) .nil) (some (Tryz.f87,XV)) .nil) (some (Tryz.f55,Yq)) (.node .nil (some (Tryz.f119,KO)) .nil)))) none (.node (.node (.node (.node (.node .nil (some (Tryz.f131,KB)) .nil) (some (Tryz.f67,Ye)) .nil) (some (Tryz.f35,YK)) (.node (.node .nil (some (Tryz.f163,J4)) .nil) (some (Tryz.f99,XJ)) .nil)) (some (Tryz.f19,YX)) (.node (.node (.node .nil (some (Tryz.f147,Kk)) .nil) (some (Tryz.f83,XZ)) .nil) (some (Tryz.f51,Yu)) (.node .nil (some (Tryz.f115,KS)) .nil))) (some (Tryz.f11,Y3)) (.node (.node (.node (.node .nil (some (Tryz.f139,Kt)) .nil) (some (Tryz.f75,X7)) .nil) (some (Tryz.f43,YC)) (.node .nil (some (Tryz.f107,K2)) .nil)) (some (Tryz.f27,YS)) (.node (.node (.node .nil (some (Tryz.f155,Kb)) .nil) (some (Tryz.f91,XR)) .nil) (some (Tryz.f59,Ym)) (.node .nil (some (Tryz.f123,KK)) .nil))))) none (.node (.node (.node (.node (.node (.node .nil (some (Tryz.f129,KE)) .nil) (some (Tryz.f65,Yg)) .nil) (some (Tryz.f33,YM)) (.node (.node .nil (some (Tryz.f161,J6)) .nil) (some (Tryz.f97,XL)) .nil)) (some (Tryz.f17,YZ)) (.node (.node (.node .nil (some (Tryz.f145,Km)) .nil) (some (Tryz.f81,X1)) .nil) (some (Tryz.f49,Yw)) (.node .nil (some (Tryz.f113,KV)) .nil))) (some (Tryz.f9,x9)) (.node (.node (.node (.node .nil (some (Tryz.f137,Kv)) .nil) (some (Tryz.f73,X9)) .nil) (some (Tryz.f41,YE)) (.node .nil (some (Tryz.f105,K4)) .nil)) (some (Tryz.f25,YU)) (.node (.node (.node .nil (some (Tryz.f153,Kd)) .nil) (some (Tryz.f89,XT)) .nil) (some (Tryz.f57,Yo)) (.node .nil (some (Tryz.f121,KM)) .nil)))) none (.node (.node (.node (.node (.node .nil (some (Tryz.f133,Kz)) .nil) (some (Tryz.f69,Yc)) .nil) (some (Tryz.f37,YI)) (.node .nil (some (Tryz.f101,K8)) .nil)) none (.node (.node (.node .nil (some (Tryz.f149,Ki)) .nil) (some (Tryz.f85,XX)) .nil) (some (Tryz.f53,Ys)) (.node .nil (some (Tryz.f117,KQ)) .nil))) (some (Tryz.f13,Y1)) (.node (.node (.node (.node .nil (some (Tryz.f141,Kr)) .nil) (some (Tryz.f77,X5)) .nil) (some (Tryz.f45,YA)) (.node .nil (some (Tryz.f109,KZ)) .nil)) (some (Tryz.f29,YQ)) (.node (.node (.node .nil (some (Tryz.f157,J_)) .nil) (some (Tryz.f93,XP)) .nil) (some (Tryz.f61,Yk)) (.node .nil (some (Tryz.f125,KI)) .nil)))))) none (.node (.node (.node (.node (.node (.node (.node .nil (some (Tryz.f128,KF)) .nil) (some (Tryz.f64,Yh)) .nil) (some (Tryz.f32,YN)) (.node (.node .nil (some (Tryz.f160,J7)) .nil) (some (Tryz.f96,XM)) .nil)) none (.node (.node (.node .nil (some (Tryz.f144,Kn)) .nil) (some (Tryz.f80,X2)) .nil) (some (Tryz.f48,Yx)) (.node .nil (some (Tryz.f112,KW)) .nil))) none (.node (.node (.node (.node .nil (some (Tryz.f136,Kw)) .nil) (some (Tryz.f72,X_)) .nil) (some (Tryz.f40,YF)) (.node .nil (some (Tryz.f104,K5)) .nil)) (some (Tryz.f24,YV)) (.node (.node (.node .nil (some (Tryz.f152,Ke)) .nil) (some (Tryz.f88,XU)) .nil) (some (Tryz.f56,Yp)) (.node .nil (some (Tryz.f120,KN)) .nil)))) none (.node (.node (.node (.node (.node .nil (some (Tryz.f132,KA)) .nil) (some (Tryz.f68,Yd)) .nil) (some (Tryz.f36,YJ)) (.node .nil (some (Tryz.f100,K9)) .nil)) none (.node (.node (.node .nil (some (Tryz.f148,Kj)) .nil) (some (Tryz.f84,XY)) .nil) (some (Tryz.f52,Yt)) (.node .nil (some (Tryz.f116,KR)) .nil))) (some (Tryz.f12,Y2)) (.node (.node (.node (.node .nil (some (Tryz.f140,Ks)) .nil) (some (Tryz.f76,X6)) .nil) (some (Tryz.f44,YB)) (.node .nil (some (Tryz.f108,K0)) .nil)) (some (Tryz.f28,YR)) (.node (.node (.node .nil (some (Tryz.f156,Ka)) .nil) (some (Tryz.f92,XQ)) .nil) (some (Tryz.f60,Yl)) (.node .nil (some (Tryz.f124,KJ)) .nil))))) none (.node (.node (.node (.node (.node (.node .nil (some (Tryz.f130,KD)) .nil) (some (Tryz.f66,Yf)) .nil) (some (Tryz.f34,YL)) (.node (.node .nil (some (Tryz.f162,J5)) .nil) (some (Tryz.f98,XK)) .nil)) (some (Tryz.f18,YY)) (.node (.node (.node .nil (some (Tryz.f146,Kl)) .nil) (some (Tryz.f82,X0)) .nil) (some (Tryz.f50,Yv)) (.node .nil (some (Tryz.f114,KU)) .nil))) (some (Tryz.f10,Y4)) (.node (.node (.node (.node .nil (some (Tryz.f138,Ku)) .nil) (some (Tryz.f74,X8)) .nil) (some (Tryz.f42,YD)) (.node .nil (some (Tryz.f106,K3)) .nil)) (some (Tryz.f26,YT)) (.node (.node (.node .nil (some (Tryz.f154,Kc)) .nil) (some (Tryz.f90,XS)) .nil) (some (Tryz.f58,Yn)) (.node .nil (some (Tryz.f122,KL)) .nil)))) (some (Tryz.f6,x6)) (.node (.node (.node (.node (.node .nil (some (Tryz.f134,Ky)) .nil) (some (Tryz.f70,Yb)) .nil) (some (Tryz.f38,YH)) (.node .nil (some (Tryz.f102,K7)) .nil)) none (.node (.node (.node .nil (some (Tryz.f150,Kh)) .nil) (some (Tryz.f86,XW)) .nil) (some (Tryz.f54,Yr)) (.node .nil (some (Tryz.f118,KP)) .nil))) (some (Tryz.f14,Y0)) (.node (.node (.node (.node .nil (some (Tryz.f142,Kq)) .nil) (some (Tryz.f78,X4)) .nil) (some (Tryz.f46,Yz)) (.node .nil (some (Tryz.f110,KY)) .nil)) (some (Tryz.f30,YP)) (.node (.node (.node .nil (some (Tryz.f158,J9)) .nil) (some (Tryz.f94,XO)) .nil) (some (Tryz.f62,Yj)) (.node .nil (some (Tryz.f126,KH)) .nil)))))))
def fns:FT:=fun f=>fnT.get f
theorem fk6:aM Tryz.prog 6 Tryz.f6 x6:=ak Tryz.func6 rfl rfl
theorem fk7:aM Tryz.prog 7 Tryz.f7 x7:=ak Tryz.func7 rfl rfl
theorem fk9:aM Tryz.prog 9 Tryz.f9 x9:=ak Tryz.func9 rfl rfl
theorem Wa:aM Tryz.prog 10 Tryz.f10 Y4:=ak Tryz.func10 rfl rfl
theorem V_:aM Tryz.prog 11 Tryz.f11 Y3:=ak Tryz.func11 rfl rfl
theorem V9:aM Tryz.prog 12 Tryz.f12 Y2:=ak Tryz.func12 rfl rfl
theorem V8:aM Tryz.prog 13 Tryz.f13 Y1:=ak Tryz.func13 rfl rfl
theorem V7:aM Tryz.prog 14 Tryz.f14 Y0:=ak Tryz.func14 rfl rfl
theorem V6:aM Tryz.prog 17 Tryz.f17 YZ:=ak Tryz.func17 rfl rfl
theorem V5:aM Tryz.prog 18 Tryz.f18 YY:=ak Tryz.func18 rfl rfl
theorem V4:aM Tryz.prog 19 Tryz.f19 YX:=ak Tryz.func19 rfl rfl
theorem V3:aM Tryz.prog 23 Tryz.f23 YW:=ak Tryz.func23 rfl rfl
theorem V2:aM Tryz.prog 24 Tryz.f24 YV:=ak Tryz.func24 rfl rfl
theorem V1:aM Tryz.prog 25 Tryz.f25 YU:=ak Tryz.func25 rfl rfl
theorem V0:aM Tryz.prog 26 Tryz.f26 YT:=ak Tryz.func26 rfl rfl
theorem VZ:aM Tryz.prog 27 Tryz.f27 YS:=ak Tryz.func27 rfl rfl
theorem VY:aM Tryz.prog 28 Tryz.f28 YR:=ak Tryz.func28 rfl rfl
theorem VX:aM Tryz.prog 29 Tryz.f29 YQ:=ak Tryz.func29 rfl rfl
theorem VW:aM Tryz.prog 30 Tryz.f30 YP:=ak Tryz.func30 rfl rfl
theorem VV:aM Tryz.prog 31 Tryz.f31 YO:=ak Tryz.func31 rfl rfl
theorem VU:aM Tryz.prog 32 Tryz.f32 YN:=ak Tryz.func32 rfl rfl
theorem VS:aM Tryz.prog 33 Tryz.f33 YM:=ak Tryz.func33 rfl rfl
theorem VR:aM Tryz.prog 34 Tryz.f34 YL:=ak Tryz.func34 rfl rfl
theorem Em:aM Tryz.prog 35 Tryz.f35 YK:=ak Tryz.func35 rfl rfl
theorem Ek:aM Tryz.prog 36 Tryz.f36 YJ:=ak Tryz.func36 rfl rfl
theorem VQ:aM Tryz.prog 37 Tryz.f37 YI:=ak Tryz.func37 rfl rfl
theorem VO:aM Tryz.prog 38 Tryz.f38 YH:=ak Tryz.func38 rfl rfl
theorem VN:aM Tryz.prog 39 Tryz.f39 YG:=ak Tryz.func39 rfl rfl
theorem VM:aM Tryz.prog 40 Tryz.f40 YF:=ak Tryz.func40 rfl rfl
theorem VL:aM Tryz.prog 41 Tryz.f41 YE:=ak Tryz.func41 rfl rfl
theorem VJ:aM Tryz.prog 42 Tryz.f42 YD:=ak Tryz.func42 rfl rfl
theorem VI:aM Tryz.prog 43 Tryz.f43 YC:=ak Tryz.func43 rfl rfl
theorem VH:aM Tryz.prog 44 Tryz.f44 YB:=ak Tryz.func44 rfl rfl
theorem VG:aM Tryz.prog 45 Tryz.f45 YA:=ak Tryz.func45 rfl rfl
theorem VF:aM Tryz.prog 46 Tryz.f46 Yz:=ak Tryz.func46 rfl rfl
theorem VE:aM Tryz.prog 47 Tryz.f47 Yy:=ak Tryz.func47 rfl rfl
theorem VC:aM Tryz.prog 48 Tryz.f48 Yx:=ak Tryz.func48 rfl rfl
theorem VB:aM Tryz.prog 49 Tryz.f49 Yw:=ak Tryz.func49 rfl rfl
theorem VA:aM Tryz.prog 50 Tryz.f50 Yv:=ak Tryz.func50 rfl rfl
theorem Vz:aM Tryz.prog 51 Tryz.f51 Yu:=ak Tryz.func51 rfl rfl
theorem Vy:aM Tryz.prog 52 Tryz.f52 Yt:=ak Tryz.func52 rfl rfl
theorem Vx:aM Tryz.prog 53 Tryz.f53 Ys:=ak Tryz.func53 rfl rfl
theorem Vw:aM Tryz.prog 54 Tryz.f54 Yr:=ak Tryz.func54 rfl rfl
theorem Vv:aM Tryz.prog 55 Tryz.f55 Yq:=ak Tryz.func55 rfl rfl
theorem Vu:aM Tryz.prog 56 Tryz.f56 Yp:=ak Tryz.func56 rfl rfl
theorem Vt:aM Tryz.prog 57 Tryz.f57 Yo:=ak Tryz.func57 rfl rfl
theorem Vr:aM Tryz.prog 58 Tryz.f58 Yn:=ak Tryz.func58 rfl rfl
theorem Vq:aM Tryz.prog 59 Tryz.f59 Ym:=ak Tryz.func59 rfl rfl
theorem Vp:aM Tryz.prog 60 Tryz.f60 Yl:=ak Tryz.func60 rfl rfl
theorem Vo:aM Tryz.prog 61 Tryz.f61 Yk:=ak Tryz.func61 rfl rfl
theorem Vn:aM Tryz.prog 62 Tryz.f62 Yj:=ak Tryz.func62 rfl rfl
theorem Vm:aM Tryz.prog 63 Tryz.f63 Yi:=ak Tryz.func63 rfl rfl
theorem Vl:aM Tryz.prog 64 Tryz.f64 Yh:=ak Tryz.func64 rfl rfl
theorem Vk:aM Tryz.prog 65 Tryz.f65 Yg:=ak Tryz.func65 rfl rfl
theorem Vj:aM Tryz.prog 66 Tryz.f66 Yf:=ak Tryz.func66 rfl rfl
theorem Vi:aM Tryz.prog 67 Tryz.f67 Ye:=ak Tryz.func67 rfl rfl
theorem Vh:aM Tryz.prog 68 Tryz.f68 Yd:=ak Tryz.func68 rfl rfl
theorem Vg:aM Tryz.prog 69 Tryz.f69 Yc:=ak Tryz.func69 rfl rfl
theorem Vf:aM Tryz.prog 70 Tryz.f70 Yb:=ak Tryz.func70 rfl rfl
theorem Ve:aM Tryz.prog 71 Tryz.f71 Ya:=ak Tryz.func71 rfl rfl
theorem Vd:aM Tryz.prog 72 Tryz.f72 X_:=ak Tryz.func72 rfl rfl
theorem Vc:aM Tryz.prog 73 Tryz.f73 X9:=ak Tryz.func73 rfl rfl
theorem Vb:aM Tryz.prog 74 Tryz.f74 X8:=ak Tryz.func74 rfl rfl
theorem Va:aM Tryz.prog 75 Tryz.f75 X7:=ak Tryz.func75 rfl rfl
theorem U_:aM Tryz.prog 76 Tryz.f76 X6:=ak Tryz.func76 rfl rfl
theorem UZ:aM Tryz.prog 77 Tryz.f77 X5:=ak Tryz.func77 rfl rfl
theorem UY:aM Tryz.prog 78 Tryz.f78 X4:=ak Tryz.func78 rfl rfl
theorem UX:aM Tryz.prog 79 Tryz.f79 X3:=ak Tryz.func79 rfl rfl
theorem UW:aM Tryz.prog 80 Tryz.f80 X2:=ak Tryz.func80 rfl rfl
theorem UU:aM Tryz.prog 81 Tryz.f81 X1:=ak Tryz.func81 rfl rfl
theorem UT:aM Tryz.prog 82 Tryz.f82 X0:=ak Tryz.func82 rfl rfl
theorem US:aM Tryz.prog 83 Tryz.f83 XZ:=ak Tryz.func83 rfl rfl
theorem UR:aM Tryz.prog 84 Tryz.f84 XY:=ak Tryz.func84 rfl rfl
theorem UQ:aM Tryz.prog 85 Tryz.f85 XX:=ak Tryz.func85 rfl rfl
theorem UP:aM Tryz.prog 86 Tryz.f86 XW:=ak Tryz.func86 rfl rfl
theorem UO:aM Tryz.prog 87 Tryz.f87 XV:=ak Tryz.func87 rfl rfl
theorem UN:aM Tryz.prog 88 Tryz.f88 XU:=ak Tryz.func88 rfl rfl
theorem UM:aM Tryz.prog 89 Tryz.f89 XT:=ak Tryz.func89 rfl rfl
theorem UL:aM Tryz.prog 90 Tryz.f90 XS:=ak Tryz.func90 rfl rfl
theorem UK:aM Tryz.prog 91 Tryz.f91 XR:=ak Tryz.func91 rfl rfl
theorem UJ:aM Tryz.prog 92 Tryz.f92 XQ:=ak Tryz.func92 rfl rfl
theorem UI:aM Tryz.prog 93 Tryz.f93 XP:=ak Tryz.func93 rfl rfl
theorem UH:aM Tryz.prog 94 Tryz.f94 XO:=ak Tryz.func94 rfl rfl
theorem UG:aM Tryz.prog 95 Tryz.f95 XN:=ak Tryz.func95 rfl rfl
theorem UF:aM Tryz.prog 96 Tryz.f96 XM:=ak Tryz.func96 rfl rfl
theorem UE:aM Tryz.prog 97 Tryz.f97 XL:=ak Tryz.func97 rfl rfl
theorem UD:aM Tryz.prog 98 Tryz.f98 XK:=ak Tryz.func98 rfl rfl
theorem UC:aM Tryz.prog 99 Tryz.f99 XJ:=ak Tryz.func99 rfl rfl
theorem PT:aM Tryz.prog 100 Tryz.f100 K9:=ak Tryz.func100 rfl rfl
theorem PS:aM Tryz.prog 101 Tryz.f101 K8:=ak Tryz.func101 rfl rfl
theorem PR:aM Tryz.prog 102 Tryz.f102 K7:=ak Tryz.func102 rfl rfl
theorem PQ:aM Tryz.prog 103 Tryz.f103 K6:=ak Tryz.func103 rfl rfl
theorem PO:aM Tryz.prog 104 Tryz.f104 K5:=ak Tryz.func104 rfl rfl
theorem PN:aM Tryz.prog 105 Tryz.f105 K4:=ak Tryz.func105 rfl rfl
theorem PM:aM Tryz.prog 106 Tryz.f106 K3:=ak Tryz.func106 rfl rfl
theorem PL:aM Tryz.prog 107 Tryz.f107 K2:=ak Tryz.func107 rfl rfl
theorem PK:aM Tryz.prog 108 Tryz.f108 K0:=ak Tryz.func108 rfl rfl
theorem PJ:aM Tryz.prog 109 Tryz.f109 KZ:=ak Tryz.func109 rfl rfl
theorem PI:aM Tryz.prog 110 Tryz.f110 KY:=ak Tryz.func110 rfl rfl
theorem PH:aM Tryz.prog 111 Tryz.f111 KX:=ak Tryz.func111 rfl rfl
theorem PG:aM Tryz.prog 112 Tryz.f112 KW:=ak Tryz.func112 rfl rfl
theorem PF:aM Tryz.prog 113 Tryz.f113 KV:=ak Tryz.func113 rfl rfl
theorem PE:aM Tryz.prog 114 Tryz.f114 KU:=ak Tryz.func114 rfl rfl
theorem PD:aM Tryz.prog 115 Tryz.f115 KS:=ak Tryz.func115 rfl rfl
theorem PB:aM Tryz.prog 116 Tryz.f116 KR:=ak Tryz.func116 rfl rfl
theorem PA:aM Tryz.prog 117 Tryz.f117 KQ:=ak Tryz.func117 rfl rfl
theorem Pz:aM Tryz.prog 118 Tryz.f118 KP:=ak Tryz.func118 rfl rfl
theorem Py:aM Tryz.prog 119 Tryz.f119 KO:=ak Tryz.func119 rfl rfl
theorem Px:aM Tryz.prog 120 Tryz.f120 KN:=ak Tryz.func120 rfl rfl
theorem Pw:aM Tryz.prog 121 Tryz.f121 KM:=ak Tryz.func121 rfl rfl
theorem Pv:aM Tryz.prog 122 Tryz.f122 KL:=ak Tryz.func122 rfl rfl
theorem Pu:aM Tryz.prog 123 Tryz.f123 KK:=ak Tryz.func123 rfl rfl
theorem Pt:aM Tryz.prog 124 Tryz.f124 KJ:=ak Tryz.func124 rfl rfl
theorem Ps:aM Tryz.prog 125 Tryz.f125 KI:=ak Tryz.func125 rfl rfl
theorem Pr:aM Tryz.prog 126 Tryz.f126 KH:=ak Tryz.func126 rfl rfl
theorem Pq:aM Tryz.prog 127 Tryz.f127 KG:=ak Tryz.func127 rfl rfl
theorem Pp:aM Tryz.prog 128 Tryz.f128 KF:=ak Tryz.func128 rfl rfl
theorem Po:aM Tryz.prog 129 Tryz.f129 KE:=ak Tryz.func129 rfl rfl
theorem Pn:aM Tryz.prog 130 Tryz.f130 KD:=ak Tryz.func130 rfl rfl
theorem Pm:aM Tryz.prog 131 Tryz.f131 KB:=ak Tryz.func131 rfl rfl
theorem Pk:aM Tryz.prog 132 Tryz.f132 KA:=ak Tryz.func132 rfl rfl
theorem Pj:aM Tryz.prog 133 Tryz.f133 Kz:=ak Tryz.func133 rfl rfl
theorem Ph:aM Tryz.prog 134 Tryz.f134 Ky:=ak Tryz.func134 rfl rfl
theorem Pg:aM Tryz.prog 135 Tryz.f135 Kx:=ak Tryz.func135 rfl rfl
theorem Pf:aM Tryz.prog 136 Tryz.f136 Kw:=ak Tryz.func136 rfl rfl
theorem Pe:aM Tryz.prog 137 Tryz.f137 Kv:=ak Tryz.func137 rfl rfl
theorem Pd:aM Tryz.prog 138 Tryz.f138 Ku:=ak Tryz.func138 rfl rfl
theorem Pb:aM Tryz.prog 139 Tryz.f139 Kt:=ak Tryz.func139 rfl rfl
theorem Pa:aM Tryz.prog 140 Tryz.f140 Ks:=ak Tryz.func140 rfl rfl
theorem O_:aM Tryz.prog 141 Tryz.f141 Kr:=ak Tryz.func141 rfl rfl
theorem O9:aM Tryz.prog 142 Tryz.f142 Kq:=ak Tryz.func142 rfl rfl
theorem O8:aM Tryz.prog 143 Tryz.f143 Ko:=ak Tryz.func143 rfl rfl
theorem O7:aM Tryz.prog 144 Tryz.f144 Kn:=ak Tryz.func144 rfl rfl
theorem O6:aM Tryz.prog 145 Tryz.f145 Km:=ak Tryz.func145 rfl rfl
theorem O5:aM Tryz.prog 146 Tryz.f146 Kl:=ak Tryz.func146 rfl rfl
theorem O4:aM Tryz.prog 147 Tryz.f147 Kk:=ak Tryz.func147 rfl rfl
theorem O3:aM Tryz.prog 148 Tryz.f148 Kj:=ak Tryz.func148 rfl rfl
theorem O2:aM Tryz.prog 149 Tryz.f149 Ki:=ak Tryz.func149 rfl rfl
theorem O1:aM Tryz.prog 150 Tryz.f150 Kh:=ak Tryz.func150 rfl rfl
theorem O0:aM Tryz.prog 151 Tryz.f151 Kg:=ak Tryz.func151 rfl rfl
theorem OZ:aM Tryz.prog 152 Tryz.f152 Ke:=ak Tryz.func152 rfl rfl
theorem OY:aM Tryz.prog 153 Tryz.f153 Kd:=ak Tryz.func153 rfl rfl
theorem OX:aM Tryz.prog 154 Tryz.f154 Kc:=ak Tryz.func154 rfl rfl
theorem OW:aM Tryz.prog 155 Tryz.f155 Kb:=ak Tryz.func155 rfl rfl
theorem OV:aM Tryz.prog 156 Tryz.f156 Ka:=ak Tryz.func156 rfl rfl
theorem OU:aM Tryz.prog 157 Tryz.f157 J_:=ak Tryz.func157 rfl rfl
theorem OT:aM Tryz.prog 158 Tryz.f158 J9:=ak Tryz.func158 rfl rfl
theorem OS:aM Tryz.prog 159 Tryz.f159 J8:=ak Tryz.func159 rfl rfl
theorem OR:aM Tryz.prog 160 Tryz.f160 J7:=ak Tryz.func160 rfl rfl
theorem OQ:aM Tryz.prog 161 Tryz.f161 J6:=ak Tryz.func161 rfl rfl
theorem wW:aM Tryz.prog 162 Tryz.f162 J5:=ak Tryz.func162 rfl rfl
theorem OP:aM Tryz.prog 163 Tryz.f163 J4:=ak Tryz.func163 rfl rfl
theorem BE:uG Tryz.prog fns:=IJ (.no (.no (.no (.yes fk7 (.no (.yes VV (.yes Vm (.yes Pq (.nil _ _) (.nil _ _)) (.nil _ _)) (.yes UG (.yes OS (.nil _ _) (.nil _ _)) (.nil _ _))) (.yes VE (.yes UX (.yes O8 (.nil _ _) (.nil _ _)) (.nil _ _)) (.yes PH (.nil _ _) (.nil _ _)))) (.yes V3 (.yes VN (.yes Ve (.yes Pg (.nil _ _) (.nil _ _)) (.nil _ _)) (.yes PQ (.nil _ _) (.nil _ _))) (.yes Vv (.yes UO (.yes O0 (.nil _ _) (.nil _ _)) (.nil _ _)) (.yes Py (.nil _ _) (.nil _ _))))) (.yes V_ (.yes V4 (.yes Em (.yes Vi (.yes Pm (.nil _ _) (.nil _ _)) (.nil _ _)) (.yes UC (.yes OP (.nil _ _) (.nil _ _)) (.nil _ _))) (.yes Vz (.yes US (.yes O4 (.nil _ _) (.nil _ _)) (.nil _ _)) (.yes PD (.nil _ _) (.nil _ _)))) (.yes VZ (.yes VI (.yes Va (.yes Pb (.nil _ _) (.nil _ _)) (.nil _ _)) (.yes PL (.nil _ _) (.nil _ _))) (.yes Vq (.yes UK (.yes OW (.nil _ _) (.nil _ _)) (.nil _ _)) (.yes Pu (.nil _ _) (.nil _ _)))))) (.no (.yes fk9 (.yes V6 (.yes VS (.yes Vk (.yes Po (.nil _ _) (.nil _ _)) (.nil _ _)) (.yes UE (.yes OQ (.nil _ _) (.nil _ _)) (.nil _ _))) (.yes VB (.yes UU (.yes O6 (.nil _ _) (.nil _ _)) (.nil _ _)) (.yes PF (.nil _ _) (.nil _ _)))) (.yes V1 (.yes VL (.yes Vc (.yes Pe (.nil _ _) (.nil _ _)) (.nil _ _)) (.yes PN (.nil _ _) (.nil _ _))) (.yes Vt (.yes UM (.yes OY (.nil _ _) (.nil _ _)) (.nil _ _)) (.yes Pw (.nil _ _) (.nil _ _))))) (.yes V8 (.no (.yes VQ (.yes Vg (.yes Pj (.nil _ _) (.nil _ _)) (.nil _ _)) (.yes PS (.nil _ _) (.nil _ _))) (.yes Vx (.yes UQ (.yes O2 (.nil _ _) (.nil _ _)) (.nil _ _)) (.yes PA (.nil _ _) (.nil _ _)))) (.yes VX (.yes VG (.yes UZ (.yes O_ (.nil _ _) (.nil _ _)) (.nil _ _)) (.yes PJ (.nil _ _) (.nil _ _))) (.yes Vo (.yes UI (.yes OU (.nil _ _) (.nil _ _)) (.nil _ _)) (.yes Ps (.nil _ _) (.nil _ _))))))) (.no (.no (.no (.no (.yes VU (.yes Vl (.yes Pp (.nil _ _) (.nil _ _)) (.nil _ _)) (.yes UF (.yes OR (.nil _ _) (.nil _ _)) (.nil _ _))) (.yes VC (.yes UW (.yes O7 (.nil _ _) (.nil _ _)) (.nil _ _)) (.yes PG (.nil _ _) (.nil _ _)))) (.yes V2 (.yes VM (.yes Vd (.yes Pf (.nil _ _) (.nil _ _)) (.nil _ _)) (.yes PO (.nil _ _) (.nil _ _))) (.yes Vu (.yes UN (.yes OZ (.nil _ _) (.nil _ _)) (.nil _ _)) (.yes Px (.nil _ _) (.nil _ _))))) (.yes V9 (.no (.yes Ek (.yes Vh (.yes Pk (.nil _ _) (.nil _ _)) (.nil _ _)) (.yes PT (.nil _ _) (.nil _ _))) (.yes Vy (.yes UR (.yes O3 (.nil _ _) (.nil _ _)) (.nil _ _)) (.yes PB (.nil _ _) (.nil _ _)))) (.yes VY (.yes VH (.yes U_ (.yes Pa (.nil _ _) (.nil _ _)) (.nil _ _)) (.yes PK (.nil _ _) (.nil _ _))) (.yes Vp (.yes UJ (.yes OV (.nil _ _) (.nil _ _)) (.nil _ _)) (.yes Pt (.nil _ _) (.nil _ _)))))) (.yes fk6 (.yes Wa (.yes V5 (.yes VR (.yes Vj (.yes Pn (.nil _ _) (.nil _ _)) (.nil _ _)) (.yes UD (.yes wW (.nil _ _) (.nil _ _)) (.nil _ _))) (.yes VA (.yes UT (.yes O5 (.nil _ _) (.nil _ _)) (.nil _ _)) (.yes PE (.nil _ _) (.nil _ _)))) (.yes V0 (.yes VJ (.yes Vb (.yes Pd (.nil _ _) (.nil _ _)) (.nil _ _)) (.yes PM (.nil _ _) (.nil _ _))) (.yes Vr (.yes UL (.yes OX (.nil _ _) (.nil _ _)) (.nil _ _)) (.yes Pv (.nil _ _) (.nil _ _))))) (.yes V7 (.no (.yes VO (.yes Vf (.yes Ph (.nil _ _) (.nil _ _)) (.nil _ _)) (.yes PR (.nil _ _) (.nil _ _))) (.yes Vw (.yes UP (.yes O1 (.nil _ _) (.nil _ _)) (.nil _ _)) (.yes Pz (.nil _ _) (.nil _ _)))) (.yes VW (.yes VF (.yes UY (.yes O9 (.nil _ _) (.nil _ _)) (.nil _ _)) (.yes PI (.nil _ _) (.nil _ _))) (.yes Vn (.yes UH (.yes OT (.nil _ _) (.nil _ _)) (.nil _ _)) (.yes Pr (.nil _ _) (.nil _ _))))))))
end Go.Proofs.YtfffmmahegdfiaaGreat
namespace Go.Proofs
open Go.Shelf
def Tryz.kr:Go.Shelf.Ren:=⟨fun | 4=>162 | n=>n,fun | 22=>43 | 25=>3 | 3=>3 | 4=>4 | 9=>9 | 20=>20 | 0=>0 | n=>n,fun | n=>n⟩
theorem Tryz.ub:Go.Proofs.Lays8.n4 Tryz.prog Tryz.kr where
 mixed:=by kernel_rfl
 f4:=⟨Tryz.f162.name,by kernel_rfl,Tryz.func162.trans (congrArg some (by kernel_rfl))⟩
 t0:=Tryz.underlying0
 a0:=Tryz.isAgg0
 z0:=Tryz.sizeOf0
 v0:=Tryz.zeroValue0
 t3:=Tryz.underlying3
 a3:=Tryz.isAgg3
 z3:=Tryz.sizeOf3
 v3:=Tryz.zeroValue3
 t4:=Tryz.underlying4
 a4:=Tryz.isAgg4
 z4:=Tryz.sizeOf4
 v4:=Tryz.zeroValue4
 t9:=Tryz.underlying9
 a9:=Tryz.isAgg9
 z9:=Tryz.sizeOf9
 v9:=Tryz.zeroValue9
 t20:=Tryz.underlying20
 a20:=Tryz.isAgg20
 z20:=Tryz.sizeOf20
 v20:=Tryz.zeroValue20
 t22:=Tryz.underlying43
 a22:=Tryz.isAgg43
 z22:=Tryz.sizeOf43
 v22:=Tryz.zeroValue43
end Go.Proofs
namespace Go.Proofs.YtfffmmahegdfiaaGreat
open Go.Bm Go.Shelf
abbrev yE:Ty:=(.pair (.int .i64) (.pair (.pair (.int .u8) (.pair (.int .u8) (.pair (.int .u8) (.pair (.int .u8) (.pair (.int .i64) (.pair (.int .i64) (.int .i64))))))) (.pair (.int .i64) (.pair (.int .i64) (.pair (.int .i64) (.pair (.int .i64) (.pair (.int .i64) (.aH (.int .i64)))))))))
theorem By:∃i,Tryz.prog.info? (Tryz.kr.t 25)=some i∧i.zero=some (.int .i64 0)∧i.size=1∧i.bytes=8:=by
 obtain ⟨i,t1,t2,t3,t4,t5,t6⟩:=SG.ti
 exact ⟨i,t1,t2,t3,t4⟩
theorem yf:sR Tryz.prog 162 (.int .i64):=⟨⟨_,wW.bg,wW.name,by rw [wW.body];rfl⟩,fun n w hn=>by
 obtain ⟨i,h1,h2,h3,h4⟩:=By
 rcases Nat.eq_zero_or_pos n with rfl | h0
 ·exact (Any8.slices_Grow_room Tryz.ub none 0 0 0 w (by omega) (by omega) (by omega) (by omega)).mono fun e w' h=>⟨_,h.1,.inl ⟨rfl,h.2⟩⟩
 ·refine (Any8.slices_Grow_grow Tryz.ub i _ h1 h2 (by omega) none 0 0 n [] w (by omega) (by omega) (by rw [h4];omega) (by omega) (by simp) (fun _=>rfl) (fun a h=>by cases h)).mono fun e w' h=>⟨_,h.1,.inr ⟨_,_,_,rfl,h.2,?_,?_⟩⟩
  ·have:=grownCap_ge w (0+n) 0 (Tryz.kr.t 25)
   show _*1≤_
   simp only [Array.size_append,size_zeroCells,Value.cells]
   simp
   omega
  ·exact grownCap_le_maxLen w _ _ _ (by unfold maxLen;omega)⟩
section
set_option maxHeartbeats 1000000
open Go.RowKit Go.Lib
theorem Ext.GL {S:Hp} {g:G} {w:World} (ob:Obj):Ext S g w S g (w.alloc ob):=⟨.refl g,rfl,rfl,rfl,by rw [show (w.alloc ob).heap.size=w.heap.size+1 from Array.size_push _];omega,fun k hk _=>Below.heap_alloc w _ k hk,fun _ h=>.inl h,fun _ _ h=>.inl h,fun _ h=>h,fun _ _ _ h=>.inl h,fun _ _ h=>.inl h⟩
theorem oO {P:Program} {ops:Array Oper} {o:Oper} {rest:List Oper} {a:Act} {w w':World} {v:Value} {Q:Exit→Act→World→Prop} (hg:o.guard=none) (h:(execOp a.eval o).run P w = .ok (.value v) w') (k:wpList P ops Q rest (a.put o.dst v) w'):wpList P ops Q (o::rest) a w:=by
 refine wpList_plain hg fun K hK=>?_
 unfold Oper.wp
 rw [h]
 exact hK _ _ k
theorem Jg (n c:Nat) (w:World):Calls Tryz.prog 36 #[.slice none n c] w fun e w'=>e = .returned (.slice none 0 0)∧w'=w:=by
 have SW:∀(w:World) (a:Option Addr) (n c n' c':Nat),(binOp .eql 43 (.slice a n c) (.slice none n' c')).run Tryz.prog w = .ok (.bool a.isNone) w:=fun w a n c n' c'=>Lib.run_eql_slice_nil w _ _ a n c n' c' CW.u
 go_enter Tryz.func36,Tryz.ntmps36
 go_wp2
 go_ret
 exact ⟨rfl,rfl⟩
theorem EB (g:G) (S:Hp) (q:Nat) (hf:S.fr q) (l:List Int) (hl:l.length≤16777216) (w:World) (hI:Inv g S w) (a:Addr) (n c:Nat) (hv:∀w2,Inv g S w2→Given g w2 (.slice (some a) n c) 1 l.length (l.flatMap (aA (.int .i64)))):Calls Tryz.prog 36 #[.slice (some a) n c] w fun e w'=>∃v g',e = .returned v∧V g' (.tw (.loc q) 1) v∧Inv g' (S.new q (.cells (l.flatMap (aA (.int .i64))))) w'∧Ext S g w (S.new q (.cells (l.flatMap (aA (.int .i64))))) g' w':=by
 have SW:∀(w:World) (a:Option Addr) (n c n' c':Nat),(binOp .eql 43 (.slice a n c) (.slice none n' c')).run Tryz.prog w = .ok (.bool a.isNone) w:=fun w a n c n' c'=>Lib.run_eql_slice_nil w _ _ a n c n' c' CW.u
 have hw:Inv g S (w.alloc (.cells #[] 3)):=hI.world (by rw [show (w.alloc (.cells #[] 3)).heap.size=w.heap.size+1 from Array.size_push _];omega) (fun k hk=>Below.heap_alloc w _ k hk)
 have sj:Given g (w.alloc (.cells #[] 3)) (.slice (some a) n c) 1 l.length (l.flatMap (aA (.int .i64))):=hv _ hw
 obtain ⟨v,g',w',dA,k1,k2,k3⟩:=gk (P:=Tryz.prog) (ty:=43) (some ⟨w.heap.size,0,none⟩) CW.u SG.ti hw sj hf (by show _*8≤_;omega) (by unfold maxLen;omega)
 have k3:=(Ext.GL (S:=S) (g:=g) (w:=w) (.cells #[] 3)).trans k3
 clear sj hw
 go_enter Tryz.func36,Tryz.ntmps36
 go_wp2_with (at_builtin;refine oO (v:=v) (w':=w') rfl (by simp [execOp,resolve,invoke,Act.eval,builtin,dA]) ?_)
 go_ret
 exact ⟨v,g',rfl,k1,k2,k3⟩
theorem yq:nr Tryz.prog 36 (.int .i64):=⟨⟨_,Ek.bg,Ek.name,by rw [Ek.body];rfl⟩,Jg,fun g S q hf l hl w hI a n c hv=>EB g S q hf l hl w hI a n c hv⟩
theorem B3 (n c:Nat) (w:World):Calls Tryz.prog 35 #[.slice none n c] w fun e w'=>e = .returned (.slice none 0 0)∧w'=w:=by
 have SW:∀(w:World) (a:Option Addr) (n c n' c':Nat),(binOp .eql 39 (.slice a n c) (.slice none n' c')).run Tryz.prog w = .ok (.bool a.isNone) w:=fun w a n c n' c'=>Lib.run_eql_slice_nil w _ _ a n c n' c' CX.u
 go_enter Tryz.func35,Tryz.ntmps35
 go_wp2
 go_ret
 exact ⟨rfl,rfl⟩
theorem yu (g:G) (S:Hp) (q:Nat) (hf:S.fr q) (l:List yE.T) (hl:l.length≤16777216) (w:World) (hI:Inv g S w) (a:Addr) (n c:Nat) (hv:∀w2,Inv g S w2→Given g w2 (.slice (some a) n c) 14 l.length (l.flatMap (aA yE))):Calls Tryz.prog 35 #[.slice (some a) n c] w fun e w'=>∃v g',e = .returned v∧V g' (.tw (.loc q) 14) v∧Inv g' (S.new q (.cells (l.flatMap (aA yE)))) w'∧Ext S g w (S.new q (.cells (l.flatMap (aA yE)))) g' w':=by
 have SW:∀(w:World) (a:Option Addr) (n c n' c':Nat),(binOp .eql 39 (.slice a n c) (.slice none n' c')).run Tryz.prog w = .ok (.bool a.isNone) w:=fun w a n c n' c'=>Lib.run_eql_slice_nil w _ _ a n c n' c' CX.u
 have hw:Inv g S (w.alloc (.cells #[] 47)):=hI.world (by rw [show (w.alloc (.cells #[] 47)).heap.size=w.heap.size+1 from Array.size_push _];omega) (fun k hk=>Below.heap_alloc w _ k hk)
 have sj:Given g (w.alloc (.cells #[] 47)) (.slice (some a) n c) 14 l.length (l.flatMap (aA yE)):=hv _ hw
 obtain ⟨v,g',w',dA,k1,k2,k3⟩:=gk (P:=Tryz.prog) (ty:=39) (some ⟨w.heap.size,0,none⟩) CX.u L2.ti hw sj hf (by show _*104≤_;omega) (by unfold maxLen;omega)
 have k3:=(Ext.GL (S:=S) (g:=g) (w:=w) (.cells #[] 47)).trans k3
 clear sj hw
 go_enter Tryz.func35,Tryz.ntmps35
 go_wp2_with (at_builtin;refine oO (v:=v) (w':=w') rfl (by simp [execOp,resolve,invoke,Act.eval,builtin,dA]) ?_)
 go_ret
 exact ⟨v,g',rfl,k1,k2,k3⟩
theorem yr:nr Tryz.prog 35 yE:=⟨⟨_,Em.bg,Em.name,by rw [Em.body];rfl⟩,B3,fun g S q hf l hl w hI a n c hv=>yu g S q hf l hl w hI a n c hv⟩
end
end Go.Proofs.YtfffmmahegdfiaaGreat