/- Texts of one proof, put together: see each part. -/
import Derived.LoopNIn
import Derived.Test.YtfffmmahegdfiaaGreatRows
import Derived.Shelf.Spec.SlicesGrow
import Derived.Shelf.RegionOpenPlain
import Derived.WalkKit
import Derived.Lib.Walk
import Derived.Lib.SliceRun
import Derived.KernelRfl
import Derived.Test.YtfffmmahegdfiaaGreatNB
set_option maxHeartbeats 2000000
noncomputable section
set_option linter.unusedVariables false
set_option linter.unusedSimpArgs false
namespace Go.Bm
section
open Go.RowKit
def vO {α:Type} (p:α→Bool):Option α→Bool
 | some x=>p x
 | none=>true
def sv {α:Type} (p:α→Bool) (t:Tr α):Bool:=
 Tr.rec (motive:=fun _=>Bool) true (fun _ v _ a b=>vO p v && a && b) t
theorem mG {α:Type} {p:α→Bool}:∀{t:Tr α} (_:sv p t=true) (i:Nat) (x:α),t.get i=some x→p x=true
 | .nil,_,i,x,e=>by rw [Tr.get_nil] at e;cases e
 | .node l v r,h,i,x,e=>by
  have h:(vO p v && sv p l && sv p r)=true:=h
  simp only [zC] at h
  cases i with
  | zero=>rw [Tr.j0] at e;subst e;exact h.1.1
  | succ i=>
   rw [Tr.g4] at e
   cases hb:Nat.beq (i%2) 0 with
   | true=>rw [hb] at e;exact mG h.1.2 _ x e
   | false=>rw [hb] at e;exact mG h.2 _ x e
def Jg (N:Nat):gw→Bool
 | .cells cs=>cs.all (tN N 6)
 | .one _ _=>true
 | .row _ _=>true
 | .cN (.map es)=>es.all fun e=>tN N 6 e.1 && tN N 6 e.2
 | .cN .zd=>true
 | .cN (.loop _ _)=>true
theorem B5 {N:Nat} {F:Tr A} (h:sv (tN N 6) F=true) (i:Nat):VP N (bf F.get i):=by
 unfold bf
 split
 ·rename_i p hp;exact gh 6 p (mG h i p hp)
 ·exact gh 1 _ rfl
theorem Gi {N:Nat} {x:gw} (h:Jg N x=true):E2 N x.low:=by
 cases x with
 | cells cs=>
  have h:cs.all (tN N 6)=true:=h
  rw [List.all_eq_true] at h
  exact fun c hc=>gh 6 c (h c hc)
 | one t x=>exact iO t x
 | row t l=>exact fun c hc=>by obtain ⟨y,_,hy⟩:=List.mem_flatMap.1 hc;exact iO t y c hy
 | cN x=>
  cases x with
  | map es=>
   have h:(es.all fun e=>tN N 6 e.1 && tN N 6 e.2)=true:=h
   rw [List.all_eq_true] at h
   exact fun e he=>by have:=h e he;rw [zC] at this;exact ⟨gh 6 _ this.1,gh 6 _ this.2⟩
  | zd=>trivial
  | loop=>trivial
def ckT (k:Bool×Ty):Bool×Ty:=(false,match k.1 with | true=>.aJ k.2 | false=>k.2)
def JN (l:List (Bool×Ty)):List (Bool×Ty):=l.map ckT
def CB:List ((Nat×Option Nat)×List (Bool×Ty))→Type
 | []=>Unit
 | p::l=>kb (JN p.2)×CB l
def nA:List (Bool×Ty)→Nat
 | []=>0
 | (true,_)::l=>nA l+1
 | (false,_)::l=>nA l
def pK:List ((Nat×Option Nat)×List (Bool×Ty))→Nat
 | []=>0
 | p::l=>nA p.2+pK l
def LH.S (H:LH):Type:=kb (H.np.map (·.2))×kb (H.grow.map fun p=>(false,Ty.aJ p.2))×kb (H.boxes.map fun p=>(false,p.2))×CB H.wy×rO H.iQ
def LH.m (H:LH):Nat:=H.grow.length+pK H.wy
section
variable {β:Type}
def Dc:List Nat→Tr A→(Tr A→Option β)→Option β
 | [],F,k=>k F
 | i::l,F,k=>ff F i (some .cI) (fun F=>Dc l F k)
def Uq:(l:List (Nat×Bool×Ty))→kb (l.map (·.2))→Tr A→(Tr A→Option β)→Option β
 | [],_,F,k=>k F
 | p::l,x,F,k=>Ms (bY p.2.1 p.2.2 x.1) (fun c=>ff F p.1 (some c) (fun F=>Uq l x.2 F k))
def Wl:List (Nat×Ty)→Nat→Tr A→(Tr A→Option β)→Option β
 | [],_,F,k=>k F
 | p::l,i,F,k=>ff F p.1 (some (.tw (.loc i) p.2.size)) (fun F=>Wl l (i+1) F k)
def Ee:List Nat→Tr gw→(Tr gw→Option β)→Option β
 | [],t,k=>k t
 | i::l,t,k=>ff t i none (fun t=>Ee l t k)
def Wo:(l:List ((Nat×Option Nat)×Ty))→List Nat→kb (l.map fun p=>(false,p.2))→Tr gw→(Tr gw→Option β)→Option β
 | [],_,_,t,k=>k t
 | p::l,b::bs,x,t,k=>ff t b (some (.one p.2 x.1)) (fun t=>Wo l bs x.2 t k)
 | _::_,[],_,_,_=>none
def Wm:(l:List (Nat×Ty))→Nat→kb (l.map fun p=>(false,Ty.aJ p.2))→Tr gw→(Tr gw→Option β)→Option β
 | [],_,_,t,k=>k t
 | p::l,i,x,t,k=>ff t i (some (.row p.2 x.1)) (fun t=>Wm l (i+1) x.2 t k)
def LM:(ks:List (Bool×Ty))→kb (JN ks)→Nat→List A
 | [],_,_=>[]
 | (true,t)::l,x,i=>.tw (.loc i) t.size::LM l x.2 (i+1)
 | (false,t)::l,x,i=>bY false t x.1::LM l x.2 i
def Ur:(ks:List (Bool×Ty))→kb (JN ks)→Nat→Tr gw→(Tr gw→Option β)→Option β
 | [],_,_,t,k=>k t
 | (true,u)::l,x,i,t,k=>ff t i (some (.row u x.1)) (fun t=>Ur l x.2 (i+1) t k)
 | (false,_)::l,x,i,t,k=>Ur l x.2 i t k
def Wn:(l:List ((Nat×Option Nat)×List (Bool×Ty)))→List Nat→Nat→CB l→Tr gw→(Tr gw→Option β)→Option β
 | [],_,_,_,t,k=>k t
 | p::l,b::bs,i,x,t,k=>ff t b (some (.cells (LM p.2 x.1 i))) (fun t=>Ur p.2 x.1 i t (fun t=>Wn l bs (i+nA p.2) x.2 t k))
 | _::_,[],_,_,_,_=>none
def AS (H:LH) (lf bs cs c_:List Nat) (Fe:Tr A) (he:Go.Bm.H) (s:H.S) (k:Tr A→Go.Bm.H→Option β):Option β:=
 Dc lf Fe (fun F=>Uq H.np s.1 F (fun F=>Wl H.grow he.aQ F (fun F=>Ee (c_++(bs++cs)) he.t (fun t=>Wo H.boxes bs s.2.2.1 t (fun t=>Wn H.wy cs (he.aQ+H.grow.length) s.2.2.2.1 t (fun t=>Wm H.grow he.aQ s.2.1 t (fun t=>k F ⟨t,he.aQ+H.m,kf H.iQ s.2.2.2.2 he.rg,he.lk⟩)))))))
def Ud (n:Nat):(l:List (Nat×Bool×Ty))→Tr A→Option (kb (l.map (·.2)))
 | [],_=>some ()
 | p::l,F=>bif Nat.blt p.1 n then (match kP p.2.1 p.2.2 (bf F.get p.1),Ud n l F with
  | some x,some y=>some (x,y)
  | _,_=>none) else none
def FF (t:Ty) (h:Tr gw):A→Option (List t.T×Option Nat)
 | .tw (.loc o) z=>match h.get o with
  | some (.row t' l)=>bif Nat.beq z t.size && Nat.blt o 16777216 then (match fK (.aJ t') (.aJ t) l with
   | some l=>some (l,some o)
   | none=>none) else none
  | _=>none
 | .e0=>some ([],none)
 | .v (.slice none 0 0)=>some ([],none)
 | _=>none
def Jb (n:Nat):(l:List (Nat×Ty))→Tr A→Tr gw→Option (kb (l.map fun p=>(false,Ty.aJ p.2))×List (Option Nat))
 | [],_,_=>some ((),[])
 | p::l,F,t=>bif Nat.blt p.1 n then (match FF p.2 t (bf F.get p.1),Jb n l F t with
  | some x,some y=>some ((x.1,y.1),x.2::y.2)
  | _,_=>none) else none
def Ue:(l:List ((Nat×Option Nat)×Ty))→List Nat→Tr gw→Option (kb (l.map fun p=>(false,p.2)))
 | [],_,_=>some ()
 | p::l,b::bs,t=>match t.get b with
  | some (.one t' x)=>match fK t' p.2 x,Ue l bs t with
   | some x,some y=>some (x,y)
   | _,_=>none
  | _=>none
 | _::_,[],_=>none
def Kh:(ks:List (Bool×Ty))→List A→Tr gw→Option (kb (JN ks)×List (Option Nat))
 | [],[],_=>some ((),[])
 | (true,u)::l,c::cs,t=>match FF u t c,Kh l cs t with
  | some x,some y=>some ((x.1,y.1),x.2::y.2)
  | _,_=>none
 | (false,u)::l,c::cs,t=>match kP false u c,Kh l cs t with
  | some x,some y=>some ((x,y.1),y.2)
  | _,_=>none
 | _,_,_=>none
def CC:(l:List ((Nat×Option Nat)×List (Bool×Ty)))→List Nat→Tr gw→Option (CB l×List (Option Nat))
 | [],_,_=>some ((),[])
 | p::l,b::bs,t=>match t.get b with
  | some (.cells cs)=>match Kh p.2 cs t,CC l bs t with
   | some x,some y=>some ((x.1,y.1),x.2++y.2)
   | _,_=>none
  | _=>none
 | _::_,[],_=>none
def Co (t:Tr gw) (q:Nat):Bool:=match t.get q with
 | some (.cN (.loop .ready none))=>true
 | _=>false
def LL (N:Nat) (bs c_:List Nat) (iQ:List (Nat×RK)) (ws:List Nat):Bool:=
 ws.all fun q=>bif Nat.beq (q%2) 0 then Nat.ble N (q / 2) || bs.any (Nat.beq (q / 2)) || c_.any (Nat.beq (q / 2)) else iQ.any fun p=>Nat.beq q (h_ p.1)
def UM:List Nat→List Nat→Bool
 | [],[]=>true
 | a::l,b::k=>Nat.beq a b && UM l k
 | _,_=>false
theorem D8:∀{l k:List Nat},UM l k=true→l=k
 | [],[],_=>rfl
 | a::l,b::k,h=>by
  have h:(Nat.beq a b && UM l k)=true:=h
  rw [zC] at h
  rw [beq_eq h.1,D8 h.2]
def CU (q:Nat):Option Nat→Bool
 | some o=>Nat.beq q o
 | none=>false
def AG (N:Nat) (c_:List Nat):List (Option Nat)→Bool
 | []=>true
 | none::l=>AG N c_ l
 | some o::l=>(Nat.ble N o || c_.any (Nat.beq o)) && !(l.any (CU o)) && AG N c_ l
def BA (H:LH) (n N:Nat) (bs cs qs c_ Mt:List Nat) (F:Tr A) (h:Go.Bm.H) (ds:List Nat) (T:Fp):Option H.S:=
 bif LL N (bs++cs++qs) c_ H.iQ T.ws && UM ds Mt && qs.all (Co h.t) then (match Ud n H.np F,Jb n H.grow F h.t,Ue H.boxes bs h.t,CC H.wy cs h.t,xB H.iQ h.rg with
 | some v,some g,some b,some e,some c=>bif AG N c_ (g.2++e.2) then some (v,g.1,b,e.1,c) else none
 | _,_,_,_,_=>none) else none
def JP:A→Option Nat
 | .tp (.loc b) []=>some b
 | .ptr b 0=>some b
 | _=>none
def UU (F:Tr A) (p:Nat×Option Nat):Option Nat:=match p.2 with
 | none=>JP (bf F.get p.1)
 | some j=>match bf F.get p.1 with
  | .rL _ _ F' _ _ _ _=>JP (bf F'.get j)
  | _=>none
def Lr:List (Nat×Option Nat)→Tr A→Option (List Nat)
 | [],_=>some []
 | p::l,F=>match UU F p,Lr l F with
  | some b,some bs=>some (b::bs)
  | _,_=>none
def SS:List Nat→Tr A→Option (List Nat)
 | [],_=>some []
 | p::l,F=>match bf F.get p,SS l F with
  | .rL q _ _ _ _ _ _,some bs=>some (q::bs)
  | _,_=>none
def Lo:List (Nat×Ty)→Tr A→List Nat
 | [],_=>[]
 | p::l,F=>match bf F.get p.1 with
  | .tw (.loc o) _=>o::Lo l F
  | _=>Lo l F
def Ln:List A→List Nat
 | []=>[]
 | .tw (.loc o) _::l=>o::Ln l
 | _::l=>Ln l
def Lq (t:Tr gw):List Nat→List Nat
 | []=>[]
 | b::l=>match t.get b with
  | some (.cells cs)=>Ln cs++Lq t l
  | _=>Lq t l
structure Fo where
 bs:List Nat
 cs:List Nat
 qs:List Nat
 c_:List Nat
def Hh (H:LH) (F:Tr A) (h:Go.Bm.H):Option Fo:=match Lr (H.boxes.map (·.1)) F,Lr (H.wy.map (·.1)) F,SS H.loops F with
 | some bs,some cs,some qs=>some ⟨bs,cs,qs,Lo H.grow F++Lq h.t cs⟩
 | _,_,_=>none
def y9 (H:LH) (E:Fo) (ds:List Nat) (F:Tr A) (h:Go.Bm.H):Bool:=
 sv (tN h.aQ 6) F && sv (Jg h.aQ) h.t && Nat.ble (h.aQ+H.m) 16777216 && (E.bs++E.cs).all (fun b=>Nat.blt b h.aQ) && E.c_.all (fun b=>Nat.blt b h.aQ) && ds.all (fun b=>Nat.blt b h.aQ) && (E.bs++E.cs).all (fun b=>!(E.c_.any (Nat.beq b))) && E.qs.all (fun q=>Co h.t q && !((E.c_++(E.bs++E.cs)).any (Nat.beq q))) && H.iQ.all fun p=>Option.isSome (bu h.rg p.1)
def jT (H:LH) (N:Nat) (E:Fo):Fp:=⟨true,[],true,((E.bs++E.cs).map dq++E.c_.map dq)++((List.range H.m).map (fun k=>dq (N+k))++H.iQ.map fun p=>h_ p.1)⟩
variable {r:β}
theorem nZ {F F':Tr A} {d:Nat} {p:A} (e:F'.get=fun m=>if m=d then some p else F.get m) (i:Nat):bf F'.get i=if i=d then p else bf F.get i:=by
 unfold bf
 rw [e]
 by_cases h:i=d
 ·simp [h]
 ·simp [h]
theorem sL:∀(l:List Nat) (F:Tr A) (k:Tr A→Option β),Dc l F k=some r→∃F',k F'=some r∧∀aX:Nat→A→Prop,(∀i∈l,aX i .cI)→(∀i,i∉l→aX i (bf F.get i))→∀i,aX i (bf F'.get i)
 | [],F,k,h=>⟨F,h,fun aX _ h2 i=>h2 i (by simp)⟩
 | d::l,F,k,h=>by
  obtain ⟨_,F1,k1,k2⟩:=bt h
  obtain ⟨F',q1,q2⟩:=sL l F1 k k1
  refine ⟨F',q1,fun aX h1 h2=>q2 aX (fun i hi=>h1 i (.tail _ hi)) (fun i hi=>?_)⟩
  rw [nZ k2]
  by_cases hd:i=d
  ·rw [if_pos hd];exact h1 i (by rw [hd];exact .head _)
  ·rw [if_neg hd];exact h2 i (by simp [hd,hi])
def ED (aX:Nat→A→Prop):(l:List (Nat×Bool×Ty))→kb (l.map (·.2))→Prop
 | [],_=>True
 | p::l,x=>aX p.1 (bY p.2.1 p.2.2 x.1)∧ED aX l x.2
def EC (aX:Nat→A→Prop):List (Nat×Ty)→Nat→Prop
 | [],_=>True
 | p::l,i=>aX p.1 (.tw (.loc i) p.2.size)∧EC aX l (i+1)
def EG (aX:Nat→Option Ob→Prop):(l:List ((Nat×Option Nat)×Ty))→List Nat→kb (l.map fun p=>(false,p.2))→Prop
 | [],_,_=>True
 | p::l,b::bs,x=>aX b (some (.cells (aA p.2 x.1)))∧EG aX l bs x.2
 | _::_,[],_=>True
def EE (aX:Nat→Option Ob→Prop):(l:List (Nat×Ty))→Nat→kb (l.map fun p=>(false,Ty.aJ p.2))→Prop
 | [],_,_=>True
 | p::l,i,x=>aX i (some (.cells (List.flatMap (α:=p.2.T) (aA p.2) x.1)))∧EE aX l (i+1) x.2
def Br (aX:Nat→Option Ob→Prop):(ks:List (Bool×Ty))→kb (JN ks)→Nat→Prop
 | [],_,_=>True
 | (true,u)::l,x,i=>aX i (some (.cells (List.flatMap (α:=u.T) (aA u) x.1)))∧Br aX l x.2 (i+1)
 | (false,_)::l,x,i=>Br aX l x.2 i
def EF (aX:Nat→Option Ob→Prop):(l:List ((Nat×Option Nat)×List (Bool×Ty)))→List Nat→Nat→CB l→Prop
 | [],_,_,_=>True
 | p::l,b::bs,i,x=>aX b (some (.cells (LM p.2 x.1 i)))∧Br aX p.2 x.1 i∧EF aX l bs (i+nA p.2) x.2
 | _::_,[],_,_=>True
theorem yM:∀(l:List (Nat×Bool×Ty)) (x:kb (l.map (·.2))) (F:Tr A) (k:Tr A→Option β),Uq l x F k=some r→∃F',k F'=some r∧∀aX:Nat→A→Prop,ED aX l x→(∀i,aX i (bf F.get i))→∀i,aX i (bf F'.get i)
 | [],_,F,k,h=>⟨F,h,fun aX _ h2=>h2⟩
 | p::l,x,F,k,h=>by
  unfold Uq at h
  rw [xI] at h
  obtain ⟨_,F1,k1,k2⟩:=bt h
  obtain ⟨F',q1,q2⟩:=yM l x.2 F1 k k1
  refine ⟨F',q1,fun aX h1 h2=>q2 aX h1.2 (fun i=>?_)⟩
  rw [nZ k2]
  by_cases hd:i=p.1
  ·rw [if_pos hd,hd];exact h1.1
  ·rw [if_neg hd];exact h2 i
theorem yL:∀(l:List (Nat×Ty)) (j:Nat) (F:Tr A) (k:Tr A→Option β),Wl l j F k=some r→∃F',k F'=some r∧∀aX:Nat→A→Prop,EC aX l j→(∀i,aX i (bf F.get i))→∀i,aX i (bf F'.get i)
 | [],_,F,k,h=>⟨F,h,fun aX _ h2=>h2⟩
 | p::l,j,F,k,h=>by
  obtain ⟨_,F1,k1,k2⟩:=bt h
  obtain ⟨F',q1,q2⟩:=yL l (j+1) F1 k k1
  refine ⟨F',q1,fun aX h1 h2=>q2 aX h1.2 (fun i=>?_)⟩
  rw [nZ k2]
  by_cases hd:i=p.1
  ·rw [if_pos hd,hd];exact h1.1
  ·rw [if_neg hd];exact h2 i
theorem yd {t t':Tr gw} {d:Nat} {x:Option gw} (e:t'.get=fun m=>if m=d then x else t.get m) (i:Nat):fG t' i=if i=d then x.map gw.low else fG t i:=by
 unfold fG
 rw [e]
 by_cases h:i=d
 ·simp only [if_pos h];cases x<;>rfl
 ·simp only [if_neg h]
theorem sV:∀(l:List Nat) (t:Tr gw) (k:Tr gw→Option β),Ee l t k=some r→∃t',k t'=some r∧∀aX:Nat→Option Ob→Prop,(∀i∈l,aX i none)→(∀i,i∉l→aX i (fG t i))→∀i,aX i (fG t' i)
 | [],t,k,h=>⟨t,h,fun aX _ h2 i=>h2 i (by simp)⟩
 | d::l,t,k,h=>by
  obtain ⟨_,t1,k1,k2⟩:=bt h
  obtain ⟨t',q1,q2⟩:=sV l t1 k k1
  refine ⟨t',q1,fun aX h1 h2=>q2 aX (fun i hi=>h1 i (.tail _ hi)) (fun i hi=>?_)⟩
  rw [yd k2]
  by_cases hd:i=d
  ·rw [if_pos hd];exact h1 i (by rw [hd];exact .head _)
  ·rw [if_neg hd];exact h2 i (by simp [hd,hi])
theorem FP {t t1:Tr gw} {d:Nat} {x:gw} {aX:Nat→Option Ob→Prop} (e:t1.get=fun m=>if m=d then some x else t.get m) (h1:aX d (some x.low)) (h2:∀i,aX i (fG t i)) (i:Nat):aX i (fG t1 i):=by
 rw [yd e]
 by_cases hd:i=d
 ·rw [if_pos hd,hd];exact h1
 ·rw [if_neg hd];exact h2 i
theorem yP:∀(l:List ((Nat×Option Nat)×Ty)) (bs:List Nat) (x:kb (l.map fun p=>(false,p.2))) (t:Tr gw) (k:Tr gw→Option β),Wo l bs x t k=some r→∃t',k t'=some r∧∀aX:Nat→Option Ob→Prop,EG aX l bs x→(∀i,aX i (fG t i))→∀i,aX i (fG t' i)
 | [],_,_,t,k,h=>⟨t,h,fun aX _ h2=>h2⟩
 | p::l,b::bs,x,t,k,h=>by
  obtain ⟨_,t1,k1,k2⟩:=bt h
  obtain ⟨t',q1,q2⟩:=yP l bs x.2 t1 k k1
  exact ⟨t',q1,fun aX h1 h2=>q2 aX h1.2 (FP k2 h1.1 h2)⟩
 | _::_,[],_,_,_,h=>by cases h
theorem yN:∀(l:List (Nat×Ty)) (j:Nat) (x:kb (l.map fun p=>(false,Ty.aJ p.2))) (t:Tr gw) (k:Tr gw→Option β),Wm l j x t k=some r→∃t',k t'=some r∧∀aX:Nat→Option Ob→Prop,EE aX l j x→(∀i,aX i (fG t i))→∀i,aX i (fG t' i)
 | [],_,_,t,k,h=>⟨t,h,fun aX _ h2=>h2⟩
 | p::l,j,x,t,k,h=>by
  obtain ⟨_,t1,k1,k2⟩:=bt h
  obtain ⟨t',q1,q2⟩:=yN l (j+1) x.2 t1 k k1
  exact ⟨t',q1,fun aX h1 h2=>q2 aX h1.2 (FP k2 h1.1 h2)⟩
theorem t_:∀(ks:List (Bool×Ty)) (x:kb (JN ks)) (j:Nat) (t:Tr gw) (k:Tr gw→Option β),Ur ks x j t k=some r→∃t',k t'=some r∧∀aX:Nat→Option Ob→Prop,Br aX ks x j→(∀i,aX i (fG t i))→∀i,aX i (fG t' i)
 | [],_,_,t,k,h=>⟨t,h,fun aX _ h2=>h2⟩
 | (true,u)::l,x,j,t,k,h=>by
  obtain ⟨_,t1,k1,k2⟩:=bt h
  obtain ⟨t',q1,q2⟩:=t_ l x.2 (j+1) t1 k k1
  exact ⟨t',q1,fun aX h1 h2=>q2 aX h1.2 (FP k2 h1.1 h2)⟩
 | (false,_)::l,x,j,t,k,h=>t_ l x.2 j t k h
theorem yO:∀(l:List ((Nat×Option Nat)×List (Bool×Ty))) (bs:List Nat) (j:Nat) (x:CB l) (t:Tr gw) (k:Tr gw→Option β),Wn l bs j x t k=some r→∃t',k t'=some r∧∀aX:Nat→Option Ob→Prop,EF aX l bs j x→(∀i,aX i (fG t i))→∀i,aX i (fG t' i)
 | [],_,_,_,t,k,h=>⟨t,h,fun aX _ h2=>h2⟩
 | p::l,b::bs,j,x,t,k,h=>by
  obtain ⟨_,t1,k1,k2⟩:=bt h
  obtain ⟨t2,k3,k4⟩:=t_ p.2 x.1 j t1 _ k1
  obtain ⟨t',q1,q2⟩:=yO l bs _ x.2 t2 k k3
  exact ⟨t',q1,fun aX h1 h2=>q2 aX h1.2.2 (k4 aX h1.2.1 (FP k2 h1.1 h2))⟩
 | _::_,[],_,_,_,_,h=>by cases h
structure oP (H:LH) (lf:List Nat) (E:Fo) (Fe:Tr A) (he:Go.Bm.H) (s:H.S) (Fc:Tr A) (hc:Go.Bm.H):Prop where
 F:∀aX:Nat→A→Prop,(∀i∈lf,aX i .cI)→(∀i,i∉lf→aX i (bf Fe.get i))→ED aX H.np s.1→EC aX H.grow he.aQ→∀i,aX i (bf Fc.get i)
 t:∀aX:Nat→Option Ob→Prop,(∀i∈E.c_++(E.bs++E.cs),aX i none)→(∀i,i∉E.c_++(E.bs++E.cs)→aX i (fG he.t i))→EG aX H.boxes E.bs s.2.2.1→EF aX H.wy E.cs (he.aQ+H.grow.length) s.2.2.2.1→EE aX H.grow he.aQ s.2.1→∀i,aX i (fG hc.t i)
 aQ:hc.aQ=he.aQ+H.m
 rg:hc.rg=kf H.iQ s.2.2.2.2 he.rg
theorem vM {H:LH} {lf:List Nat} {E:Fo} {Fe:Tr A} {he:Go.Bm.H} {s:H.S} {k:Tr A→Go.Bm.H→Option β} (h:AS H lf E.bs E.cs E.c_ Fe he s k=some r):∃Fc hc,k Fc hc=some r∧oP H lf E Fe he s Fc hc:=by
 obtain ⟨F1,k1,f1⟩:=sL _ _ _ h
 obtain ⟨F2,k2,f2⟩:=yM _ _ _ _ k1
 obtain ⟨F3,k3,f3⟩:=yL _ _ _ _ k2
 obtain ⟨t1,k4,e1⟩:=sV _ _ _ k3
 obtain ⟨t2,k5,e2⟩:=yP _ _ _ _ _ k4
 obtain ⟨t3,k6,e3⟩:=yO _ _ _ _ _ _ k5
 obtain ⟨t4,k7,e4⟩:=yN _ _ _ _ _ k6
 exact ⟨F3,_,k7,fun aX a b c d=>f3 aX d (f2 aX c (f1 aX a b)),fun aX a b c d e=>e4 aX e (e3 aX d (e2 aX c (e1 aX a b))),rfl,rfl⟩
end
end
section
open Go.RowKit
theorem any_beq {l:List Nat} {i:Nat}:l.any (Nat.beq i)=true↔i∈l:=by
 rw [List.any_eq_true]
 exact ⟨fun ⟨x,h1,h2⟩=>by rw [beq_eq h2];exact h1,fun h=>⟨i,h,Nat.beq_refl i⟩⟩
theorem wx {N:Nat} {bs c_:List Nat} {iQ:List (Nat×RK)} {T:Fp} (h:LL N bs c_ iQ T.ws=true) {i:Nat} (hl:i<cJ) (h1:i<N) (h2:i∉c_++bs):wt T i=false:=by
 cases hx:wt T i with
 | false=>rfl
 | true=>
  unfold wt at hx
  rw [zC] at hx
  obtain ⟨q,q1,q2⟩:=List.any_eq_true.1 hx.2
  obtain rfl:=beq_eq q2
  have:=List.all_eq_true.1 h _ q1
  rw [mI hl] at this
  unfold dq at this
  rw [show Nat.beq (2*i%2) 0=true by rw [show 2*i%2=0 by omega];rfl,show 2*i / 2=i by omega] at this
  simp only [cond_true,Bool.or_eq_true] at this
  rcases this with (this | this) | this
  ·have:=Nat.le_of_ble_eq_true this;omega
  ·exact absurd (zS _ (any_beq.1 this)) h2
  ·exact absurd (zQ _ (any_beq.1 this)) h2
theorem wv {N:Nat} {bs c_:List Nat} {iQ:List (Nat×RK)} {T:Fp} (h:LL N bs c_ iQ T.ws=true) {i:Nat} (hl:¬i<cJ) (h1:dh iQ (lT i)=false):wt T i=false:=by
 cases hx:wt T i with
 | false=>rfl
 | true=>
  unfold wt at hx
  rw [zC] at hx
  obtain ⟨q,q1,q2⟩:=List.any_eq_true.1 hx.2
  obtain rfl:=beq_eq q2
  have:=List.all_eq_true.1 h _ q1
  rw [o_ hl] at this
  unfold h_ at this
  rw [show Nat.beq ((2*lT i+1)%2) 0=false by rw [show (2*lT i+1)%2=1 by omega];rfl] at this
  simp only [cond_false] at this
  obtain ⟨p,p1,p2⟩:=List.any_eq_true.1 this
  have e:p.1=lT i:=by have:=beq_eq p2;unfold h_ at this;omega
  rw [show dh iQ (lT i)=true from List.any_eq_true.2 ⟨p,p1,by rw [e];exact Nat.beq_refl _⟩] at h1
  cases h1
theorem Cz {n:Nat} {F:Tr A} {aX:Nat→A→Prop} (hg:∀i a t x,i<n→kP a t (bf F.get i)=some x→aX i (bY a t x)):∀(l:List (Nat×Bool×Ty)) (x:kb (l.map (·.2))),Ud n l F=some x→ED aX l x
 | [],_,_=>trivial
 | p::l,x,h=>by
  unfold Ud at h
  obtain ⟨hn,h⟩:=ah h
  split at h
  ·rename_i y z h1 h2
   cases h
   exact ⟨hg _ _ _ _ (a_ hn) h1,Cz hg l z h2⟩
  ·cases h
def EJ (t:Ty) (tt:Tr gw) (l:List t.T):Option Nat→Prop
 | some o=>o<cJ∧fG tt o=some (.cells (l.flatMap (aA t)))
 | none=>l=[]
def wG (z:Nat) (a:A):Option Nat→Prop
 | some o=>a = .tw (.loc o) z
 | none=>∀g v,V g a v→∃ad,v = .slice ad 0 0
theorem tr {t:Ty} {tt:Tr gw} {a:A} {l:List t.T} {nm:Option Nat} (h:FF t tt a=some (l,nm)):EJ t tt l nm∧wG t.size a nm:=by
 unfold FF at h
 split at h
 ·rename_i o z
  split at h
  ·rename_i t' l' h1
   obtain ⟨h2,h⟩:=ah h
   rw [zC] at h2
   split at h
   ·rename_i l1 hl1
    obtain ⟨e,e2⟩:=cr hl1
    cases e
    cases e2
    simp only [zI,zU] at h
    obtain ⟨rfl,rfl⟩:=h
    refine ⟨⟨a_ h2.2,?_⟩,by rw [beq_eq h2.1];rfl⟩
    unfold fG
    rw [h1];rfl
   ·cases h
  ·cases h
 ·simp only [zI,zU] at h
  obtain ⟨rfl,rfl⟩:=h
  exact ⟨rfl,fun g v hv=>by cases hv;exact ⟨_,rfl⟩⟩
 ·simp only [zI,zU] at h
  obtain ⟨rfl,rfl⟩:=h
  exact ⟨rfl,fun g v hv=>by cases hv;exact ⟨_,rfl⟩⟩
 ·cases h
theorem CA {n:Nat} {F:Tr A} {tt:Tr gw}:∀(l:List (Nat×Ty)) (x:kb (l.map fun p=>(false,Ty.aJ p.2))) (names:List (Option Nat)),Jb n l F tt=some (x,names)→names.length=l.length ∧
  ∀(aX:Nat→A→Prop) (oD:Nat→Option Ob→Prop) (j:Nat),
   (∀(k:Nat) (nm:Option Nat) (i z:Nat),names[k]?=some nm→i<n→wG z (bf F.get i) nm→aX i (.tw (.loc (j+k)) z)) →
   (∀(k:Nat) (nm:Option Nat) (t:Ty) (l:List t.T),names[k]?=some nm→EJ t tt l nm→oD (j+k) (some (.cells (l.flatMap (aA t)))))→EC aX l j∧EE oD l j x
 | [],x,names,h=>by
  simp only [Jb,zI,zU] at h
  obtain ⟨_,rfl⟩:=h
  exact ⟨rfl,fun _ _ _ _ _=>⟨trivial,trivial⟩⟩
 | p::l,x,names,h=>by
  unfold Jb at h
  obtain ⟨hn,h⟩:=ah h
  split at h
  ·rename_i y z h1 h2
   simp only [zI,zU] at h
   obtain ⟨rfl,rfl⟩:=h
   obtain ⟨q1,q2⟩:=CA l z.1 z.2 h2
   obtain ⟨r1,r2⟩:=tr (l:=y.1) (nm:=y.2) h1
   refine ⟨by simp [q1],fun aX oD j k1 k2=>?_⟩
   obtain ⟨u1,u2⟩:=q2 aX oD (j+1) (fun k nm i z e=>by have:=k1 (k+1) nm i z (by simpa using e);rwa [show j+(k+1)=j+1+k by omega] at this) (fun k nm t l e=>by have:=k2 (k+1) nm t l (by simpa using e);rwa [show j+(k+1)=j+1+k by omega] at this)
   exact ⟨⟨k1 0 y.2 p.1 p.2.size rfl (a_ hn) r2,u1⟩,⟨k2 0 y.2 p.2 y.1 rfl r1,u2⟩⟩
  ·cases h
theorem Ck {n:Nat} {F:Tr A} {tt:Tr gw}:∀{l:List (Nat×Ty)} {x:kb (l.map fun p=>(false,Ty.aJ p.2))} {names:List (Option Nat)},Jb n l F tt=some (x,names)→∀(k o:Nat),names[k]?=some (some o)→o<cJ
 | [],x,names,h,k,o,e=>by
  simp only [Jb,zI,zU] at h
  obtain ⟨_,rfl⟩:=h
  simp at e
 | p::l,x,names,h,k,o,e=>by
  unfold Jb at h
  obtain ⟨hn,h⟩:=ah h
  split at h
  ·rename_i y z h1 h2
   simp only [zI,zU] at h
   obtain ⟨rfl,rfl⟩:=h
   cases k with
   | zero=>
    have e:y.2=some o:=by simpa using e
    have:=(tr (l:=y.1) (nm:=y.2) h1).1
    rw [e] at this
    exact this.1
   | succ k=>exact Ck (x:=z.1) (names:=z.2) h2 k o (by simpa using e)
  ·cases h
theorem CD {tt:Tr gw} {aX:Nat→Option Ob→Prop}:∀(l:List ((Nat×Option Nat)×Ty)) (bs:List Nat) (x:kb (l.map fun p=>(false,p.2))),(∀b t (y:t.T),b∈bs→fG tt b=some (.cells (aA t y))→aX b (some (.cells (aA t y))))→Ue l bs tt=some x→EG aX l bs x
 | [],_,_,_,_=>trivial
 | p::l,b::bs,x,hg,h=>by
  unfold Ue at h
  split at h
  ·rename_i t' y h1
   split at h
   ·rename_i y' z h2 h3
    cases h
    obtain ⟨e,e2⟩:=cr h2
    obtain ⟨p1,p2⟩:=p
    simp only at e
    subst e
    cases e2
    exact ⟨hg b t' y (.head _) (by unfold fG;rw [h1];rfl),CD l bs z (fun b t y hb=>hg b t y (.tail _ hb)) h3⟩
   ·cases h
  ·cases h
 | _::_,[],_,_,h=>by cases h
theorem Vs.BU {g:G} {c:A} {cs:List A} {vs:List Value} (h:Vs g (c::cs) vs):∃v us,vs=v::us∧V g c v∧v.oneCell'=true∧Vs g cs us:=by
 match vs,h with
 | [],h=>exact absurd h.1 (by simp)
 | v::us,h=>
  have h0:=h.2 0 c v rfl rfl
  exact ⟨v,us,rfl,h0.1,h0.2,by simpa using h.1,fun j c x e1 e2=>h.2 (j+1) c x (by simpa using e1) (by simpa using e2)⟩
theorem xb {tt:Tr gw}:∀(ks:List (Bool×Ty)) (cs:List A) (x:kb (JN ks)) (names:List (Option Nat)),Kh ks cs tt=some (x,names)→names.length=nA ks∧(∀(k o:Nat),names[k]?=some (some o)→o<cJ)∧∀j,(LM ks x j).length=cs.length ∧
  (∀(oD:Nat→Option Ob→Prop),(∀(k:Nat) (nm:Option Nat) (t:Ty) (l:List t.T),names[k]?=some nm→EJ t tt l nm→oD (j+k) (some (.cells (l.flatMap (aA t)))))→Br oD ks x j) ∧
  ∀(N:Nat) (g g':G),x6 N g g'→(∀(k:Nat) (nm:Option Nat) (z:Nat) (c:A),names[k]?=some nm→wG z c nm→∀v,V g c v→V g' (.tw (.loc (j+k)) z) v)→∀vs,Vs g cs vs→Vs g' (LM ks x j) vs
 | [],[],x,names,h=>by
  simp only [Kh,zI,zU] at h
  obtain ⟨_,rfl⟩:=h
  exact ⟨rfl,fun k o e=>by simp at e,fun j=>⟨rfl,fun _ _=>trivial,fun N g g' _ _ vs hv=>⟨hv.1,fun j c x e=>by simp [LM] at e⟩⟩⟩
 | (true,u)::l,c::cs,x,names,h=>by
  unfold Kh at h
  split at h
  ·rename_i y z h1 h2
   simp only [zI,zU] at h
   obtain ⟨rfl,rfl⟩:=h
   obtain ⟨q1,Qi,q2⟩:=xb l cs z.1 z.2 h2
   obtain ⟨r1,r2⟩:=tr (l:=y.1) (nm:=y.2) h1
   refine ⟨by simp [q1,nA],fun k o e=>?_,fun j=>?_⟩
   ·cases k with
    | zero=>
     have e:y.2=some o:=by simpa using e
     rw [e] at r1
     exact r1.1
    | succ k=>exact Qi k o (by simpa using e)
   ·obtain ⟨u1,u2,u3⟩:=q2 (j+1)
    refine ⟨congrArg Nat.succ u1,fun oD k2=>⟨k2 0 y.2 u y.1 rfl r1,u2 oD (fun k nm t l e=>by have:=k2 (k+1) nm t l (by simpa using e);rwa [show j+(k+1)=j+1+k by omega] at this)⟩,fun N g g' hs hk vs hv=>?_⟩
    obtain ⟨v,us,rfl,v1,v2,v3⟩:=hv.BU
    exact .cons (hk 0 y.2 u.size c rfl r2 v v1) v2 (u3 N g g' hs (fun k nm z c e=>by have:=hk (k+1) nm z c (by simpa using e);rwa [show j+(k+1)=j+1+k by omega] at this) us v3)
  ·cases h
 | (false,u)::l,c::cs,x,names,h=>by
  unfold Kh at h
  split at h
  ·rename_i y z h1 h2
   simp only [zI,zU] at h
   obtain ⟨rfl,rfl⟩:=h
   obtain ⟨q1,Qi,q2⟩:=xb l cs z.1 z.2 h2
   refine ⟨by simp [q1,nA],Qi,fun j=>?_⟩
   obtain ⟨u1,u2,u3⟩:=q2 j
   refine ⟨congrArg Nat.succ u1,u2,fun N g g' hs hk vs hv=>?_⟩
   obtain ⟨v,us,rfl,v1,v2,v3⟩:=hv.BU
   exact .cons (og false u y g g' v hs (jV h1 v1)) v2 (u3 N g g' hs hk us v3)
  ·cases h
 | [],_::_,_,_,h=>by cases h
 | (true,_)::_,[],_,_,h=>by cases h
 | (false,_)::_,[],_,_,h=>by cases h
theorem yp {tt:Tr gw}:∀(l:List ((Nat×Option Nat)×List (Bool×Ty))) (bs:List Nat) (x:CB l) (names:List (Option Nat)),CC l bs tt=some (x,names)→names.length=pK l∧(∀(k o:Nat),names[k]?=some (some o)→o<cJ) ∧
  ∀(N:Nat) (g g':G) (j:Nat) (aX:Nat→Option Ob→Prop),x6 N g g' →
   (∀(k:Nat) (nm:Option Nat) (z:Nat) (c:A),names[k]?=some nm→wG z c nm→∀v,V g c v→V g' (.tw (.loc (j+k)) z) v) →
   (∀(k:Nat) (nm:Option Nat) (t:Ty) (l:List t.T),names[k]?=some nm→EJ t tt l nm→aX (j+k) (some (.cells (l.flatMap (aA t))))) →
   (∀b cs hH,b∈bs→fG tt b=some (.cells cs)→hH.length=cs.length→(∀vs,Vs g cs vs→Vs g' hH vs)→aX b (some (.cells hH)))→EF aX l bs j x
 | [],_,x,names,h=>by
  simp only [CC,zI,zU] at h
  obtain ⟨_,rfl⟩:=h
  exact ⟨rfl,fun k o e=>by simp at e,fun _ _ _ _ _ _ _ _ _=>trivial⟩
 | p::l,b::bs,x,names,h=>by
  unfold CC at h
  split at h
  ·rename_i cs JB
   split at h
   ·rename_i y z h1 h2
    simp only [zI,zU] at h
    obtain ⟨rfl,rfl⟩:=h
    obtain ⟨q1,Qi,q2⟩:=xb p.2 cs y.1 y.2 h1
    obtain ⟨r1,r1',r2⟩:=yp l bs z.1 z.2 h2
    have ap:∀(k:Nat) (nm:Option Nat),y.2[k]?=some nm→(y.2++z.2)[k]?=some nm:=fun k nm e=>by rw [zK (zB.1 e).1];exact e
    have aq:∀(k:Nat) (nm:Option Nat),z.2[k]?=some nm→(y.2++z.2)[nA p.2+k]?=some nm:=fun k nm e=>by rw [zJ (by omega),q1,Nat.add_sub_cancel_left];exact e
    refine ⟨by simp [q1,r1,pK],fun k o e=>?_,fun N g g' j aX hs hk hr hb=>?_⟩
    ·by_cases hk:k<y.2.length
     ·rw [zK hk] at e;exact Qi k o e
     ·rw [zJ (by omega)] at e;exact r1' _ o e
    ·obtain ⟨u1,u2,u3⟩:=q2 j
     refine ⟨hb b cs _ (.head _) (by unfold fG;rw [JB];rfl) u1 (u3 N g g' hs (fun k nm zz c e=>hk k nm zz c (ap k nm e))),u2 aX (fun k nm t l e=>hr k nm t l (ap k nm e)),?_⟩
     exact r2 N g g' (j+nA p.2) aX hs (fun k nm zz c e=>by have:=hk (nA p.2+k) nm zz c (aq k nm e);rwa [←Nat.add_assoc] at this) (fun k nm t l e=>by have:=hr (nA p.2+k) nm t l (aq k nm e);rwa [←Nat.add_assoc] at this) (fun b cs hH hm=>hb b cs hH (.tail _ hm))
   ·cases h
  ·cases h
 | _::_,[],_,_,h=>by cases h
theorem tO {N:Nat} {c_:List Nat}:∀{names:List (Option Nat)},AG N c_ names=true→(∀(k o:Nat),names[k]?=some (some o)→N≤o∨o∈c_)∧∀(k k' o:Nat),names[k]?=some (some o)→names[k']?=some (some o)→k=k'
 | [],_=>⟨fun k o h=>by simp at h,fun k k' o h=>by simp at h⟩
 | none::l,h=>by
  obtain ⟨h1,h2⟩:=tO (show AG N c_ l=true from h)
  refine ⟨fun k o e=>?_,fun k k' o e e'=>?_⟩
  ·cases k with
   | zero=>cases e
   | succ k=>exact h1 k o (by simpa using e)
  ·cases k with
   | zero=>cases e
   | succ k=>
    cases k' with
    | zero=>cases e'
    | succ k'=>rw [h2 k k' o (by simpa using e) (by simpa using e')]
 | some q::l,h=>by
  have h:((Nat.ble N q || c_.any (Nat.beq q)) && !(l.any (CU q)) && AG N c_ l)=true:=h
  simp only [zC,Bool.or_eq_true,Bool.not_eq_true'] at h
  obtain ⟨⟨ha,hb⟩,hc⟩:=h
  obtain ⟨h1,h2⟩:=tO hc
  have far:∀k,l[k]?=some (some q)→False:=fun k e=>by
   have:l.any (CU q)=true:=List.any_eq_true.2 ⟨some q,zG e,Nat.beq_refl q⟩
   rw [hb] at this;cases this
  refine ⟨fun k o e=>?_,fun k k' o e e'=>?_⟩
  ·cases k with
   | zero=>
    simp only [List.getElem?_cons_zero,zI] at e
    subst e
    exact ha.imp Nat.le_of_ble_eq_true any_beq.1
   | succ k=>exact h1 k o (by simpa using e)
  ·cases k with
   | zero=>
    simp only [List.getElem?_cons_zero,zI] at e
    subst e
    cases k' with
    | zero=>rfl
    | succ k'=>exact (far k' (by simpa using e')).elim
   | succ k=>
    cases k' with
    | zero=>
     simp only [List.getElem?_cons_zero,zI] at e'
     subst e'
     exact (far k (by simpa using e)).elim
    | succ k'=>rw [h2 k k' o (by simpa using e) (by simpa using e')]
structure rK (H:LH) (E:Fo) (ds:List Nat) (F:Tr A) (h:Go.Bm.H):Prop where
 slot:∀i,VP h.aQ (bf F.get i)
 mem:∀i x,fG h.t i=some x→E2 h.aQ x
 top:h.aQ+H.m≤cJ
 bsl:∀b∈E.bs++E.cs,b<h.aQ
 del:∀b∈E.c_,b<h.aQ
 dsl:∀b∈ds,b<h.aQ
 apart:∀b∈E.bs++E.cs,b∉E.c_
 loop:∀q∈E.qs,Co h.t q=true∧q∉E.c_++(E.bs++E.cs)
 iQ:∀r,dh H.iQ r=true→∃x,bu h.rg r=some x
theorem wk {H:LH} {E:Fo} {ds:List Nat} {F:Tr A} {h:Go.Bm.H} (k:y9 H E ds F h=true):rK H E ds F h:=by
 unfold y9 at k
 rw [zC,zC,zC,zC,zC,zC,zC,zC] at k
 obtain ⟨⟨⟨⟨⟨⟨⟨⟨k1,k2⟩,k3⟩,k4⟩,k5⟩,k6⟩,k7⟩,k9⟩,k8⟩:=k
 rw [List.all_eq_true] at k4 k5 k6 k7 k8 k9
 refine ⟨B5 k1,fun i x e=>?_,Nat.le_of_ble_eq_true k3,fun b hb=>a_ (k4 b hb),fun b hb=>a_ (k5 b hb),fun b hb=>a_ (k6 b hb),fun b hb hd=>?_,fun q hq=>?_,fun r hr=>?_⟩
 ·unfold fG at e
  split at e
  ·rename_i m hm
   cases e
   exact Gi (mG k2 i m hm)
  ·cases e
 ·have:=k7 b hb
  rw [any_beq.2 hd] at this;cases this
 ·have:=k9 q hq
  rw [zC] at this
  refine ⟨this.1,fun hm=>?_⟩
  have h2:=this.2
  rw [any_beq.2 hm] at h2;cases h2
 ·obtain ⟨p,p1,p2⟩:=List.any_eq_true.1 hr
  have:=k8 p p1
  rw [beq_eq p2] at this
  exact Option.isSome_iff_exists.1 this
theorem yn {t:Tr gw} {q:Nat} (h:Co t q=true):fG t q=some (.cN (.loop .ready none)):=by
 unfold Co at h
 split at h
 ·rename_i hq;unfold fG;rw [hq];rfl
 ·cases h
section
variable {H:LH} {lf Mt:List Nat} {E:Fo} {Fe:Tr A} {he:Go.Bm.H} {s:H.S} {Fc:Tr A} {hc:Go.Bm.H}
theorem uF {aX:Nat→Option Ob→Prop}:∀(l:List ((Nat×Option Nat)×Ty)) (bs:List Nat) (x:kb (l.map fun p=>(false,p.2))),(∀b∈bs,∀ob,aX b ob)→EG aX l bs x
 | [],_,_,_=>trivial
 | _::_,[],_,_=>trivial
 | p::l,b::bs,x,h=>⟨h b (.head _) _,uF l bs x.2 (fun b hb=>h b (.tail _ hb))⟩
theorem uD {aX:Nat→Option Ob→Prop} {m:Nat}:∀(l:List (Nat×Ty)) (j:Nat) (x:kb (l.map fun p=>(false,Ty.aJ p.2))),j+l.length≤m→(∀i,j≤i→i<m→∀ob,aX i ob)→EE aX l j x
 | [],_,_,_,_=>trivial
 | p::l,j,x,hm,h=>by
  have hm:j+(l.length+1)≤m:=hm
  exact ⟨h j (Nat.le_refl _) (by omega) _,uD l (j+1) x.2 (by omega) (fun i h1 h2=>h i (by omega) h2)⟩
theorem uC {aX:Nat→Option Ob→Prop} {m:Nat}:∀(ks:List (Bool×Ty)) (x:kb (JN ks)) (j:Nat),j+nA ks≤m→(∀i,j≤i→i<m→∀ob,aX i ob)→Br aX ks x j
 | [],_,_,_,_=>trivial
 | (true,_)::l,x,j,hm,h=>by
  have hm:j+(nA l+1)≤m:=hm
  exact ⟨h j (Nat.le_refl _) (by omega) _,uC l x.2 (j+1) (by omega) (fun i h1 h2=>h i (by omega) h2)⟩
 | (false,_)::l,x,j,hm,h=>uC l x.2 j hm h
theorem uE {aX:Nat→Option Ob→Prop} {m:Nat}:∀(l:List ((Nat×Option Nat)×List (Bool×Ty))) (bs:List Nat) (j:Nat) (x:CB l),j+pK l≤m→(∀b∈bs,∀ob,aX b ob)→(∀i,j≤i→i<m→∀ob,aX i ob)→EF aX l bs j x
 | [],_,_,_,_,_,_=>trivial
 | _::_,[],_,_,_,_,_=>trivial
 | p::l,b::bs,j,x,hm,hb,h=>by
  have hm:j+(nA p.2+pK l)≤m:=hm
  exact ⟨hb b (.head _) _,uC p.2 x.1 j (by omega) h,uE l bs _ x.2 (by omega) (fun b qk=>hb b (.tail _ qk)) (fun i h1 h2=>h i (by omega) h2)⟩
theorem qX (EO:rK H E Mt Fe he) (J:oP H lf E Fe he s Fc hc):(∀i,i<he.aQ→i∉E.c_++(E.bs++E.cs)→(hp hc).ob i=(hp he).ob i) ∧
  (∀i,¬i<cJ→dh H.iQ (lT i)=false→(hp hc).ob i=(hp he).ob i∧((hp hc).fr i↔(hp he).fr i)) ∧
  ∀i,wt (jT H he.aQ E) i=false→(hp hc).ob i=(hp he).ob i∧((hp hc).fr i↔(hp he).fr i):=by
 have TT:=EO.top
 have hm:H.m=H.grow.length+pK H.wy:=rfl
 have Jz:∀i,i∉E.c_++(E.bs++E.cs)→(∀k,k<H.m→i≠he.aQ+k)→fG hc.t i=fG he.t i:=fun i h1 h2=>by
  have TH:∀b∈E.bs++E.cs,∀ob,b∉E.c_++(E.bs++E.cs)→(∀k,k<H.m→b≠he.aQ+k)→ob=fG he.t b:=fun b hb ob hn=>absurd (zS _ hb) hn
  have Cj:∀i,he.aQ≤i→i<he.aQ+H.m→∀ob,i∉E.c_++(E.bs++E.cs)→(∀k,k<H.m→i≠he.aQ+k)→ob=fG he.t i:=fun i q1 q2 ob _ hn=>absurd (show i=he.aQ+(i-he.aQ) by omega) (hn (i-he.aQ) (by omega))
  exact J.t (fun i ob=>i∉E.c_++(E.bs++E.cs)→(∀k,k<H.m→i≠he.aQ+k)→ob=fG he.t i) (fun i hi hn=>absurd hi hn) (fun i _ _ _=>rfl)
   (uF _ _ _ (fun b hb=>TH b (zQ _ hb))) (uE (m:=he.aQ+H.m) _ _ _ _ (by omega) (fun b hb=>TH b (zS _ hb)) (fun i q1 q2=>Cj i (by omega) q2)) (uD (m:=he.aQ+H.m) _ _ _ (by omega) Cj) i h1 h2
 have eF:∀i,¬i<cJ→dh H.iQ (lT i)=false→(hp hc).ob i=(hp he).ob i∧((hp hc).fr i↔(hp he).fr i):=fun i hl hk=>by
  rw [(fe hl).1,(fe hl).2,(fe hl).1,(fe hl).2]
  unfold dQ fU
  rw [J.rg,ln _ _ _ EO.iQ,hk,if_neg (by simp)]
  exact ⟨rfl,Iff.rfl⟩
 refine ⟨fun i h1 h2=>?_,eF,fun i hw=>?_⟩
 ·have hl:i<cJ:=by omega
  show (if i<cJ then fG hc.t i else _)=(if i<cJ then fG he.t i else _)
  rw [if_pos hl,if_pos hl]
  exact Jz i h2 (fun k _=>by omega)
 ·have hw:(((E.bs++E.cs).map dq++E.c_.map dq)++((List.range H.m).map (fun k=>dq (he.aQ+k))++H.iQ.map fun p=>h_ p.1)).any (Nat.beq (res i))=false:=hw
  rw [List.any_append,List.any_append,List.any_append] at hw
  simp only [Bool.or_eq_false_iff] at hw
  obtain ⟨⟨w1,w2⟩,w3,w4⟩:=hw
  by_cases hl:i<cJ
  ·have nin:∀l:List Nat,(l.map dq).any (Nat.beq (res i))=false→i∉l:=fun l h hm=>by
    rw [any_beq.2 (by rw [mI hl];exact List.mem_map.2 ⟨i,hm,rfl⟩)] at h;cases h
   have n3:∀k,k<H.m→i≠he.aQ+k:=fun k hk e=>by
    rw [any_beq.2 (by rw [mI hl,e];exact List.mem_map.2 ⟨k,List.mem_range.2 hk,rfl⟩)] at w3;cases w3
   refine ⟨?_,?_⟩
   ·show (if i<cJ then fG hc.t i else _)=(if i<cJ then fG he.t i else _)
    rw [if_pos hl,if_pos hl]
    exact Jz i (fun h=>(zX.1 h).elim (nin _ w2) (nin _ w1)) n3
   ·show (if i<cJ then hc.aQ≤i else _)↔(if i<cJ then he.aQ≤i else _)
    rw [if_pos hl,if_pos hl,J.aQ]
    refine ⟨fun h=>by omega,fun h=>?_⟩
    rcases Nat.lt_or_ge i (he.aQ+H.m) with h1 | h1
    ·exact absurd (show i=he.aQ+(i-he.aQ) by omega) (n3 (i-he.aQ) (by omega))
    ·exact h1
  ·refine eF i hl ?_
   rw [o_ hl,uB] at w4
   exact w4
theorem Ja {n:Nat} {F':Tr A} {h':Go.Bm.H} {iW:List Nat} {T:Fp} (EO:rK H E Mt Fe he) (oA:∀i,he.aQ≤i→i<cJ→fG he.t i=none) (Q0:∀i,i∉lf→bf F'.get i=bf Fe.get i)
  (QS:∀i,i<he.aQ→i∉E.c_++(E.bs++E.cs++E.qs)→(hp h').ob i=(hp he).ob i) (WE:∀i,¬i<cJ→dh H.iQ (lT i)=false→(hp h').ob i=(hp he).ob i∧((hp h').fr i↔(hp he).fr i))
  (GP:BA H n he.aQ E.bs E.cs E.qs E.c_ Mt F' h' iW T=some s) (J:oP H lf E Fe he s Fc hc) {S0:Hp} {g0:G} {w0 w:World} {a:Act} (hf:∀o,he.aQ≤o→o<cJ→S0.fr o∧g0.bm o=none)
  (hR:R S0 g0 w0 (fH n F' iW (hp h')) a w):R S0 g0 w0 (fH n Fc Mt (hp hc)) a w:=by
 have TT:=EO.top
 have hm:H.m=H.grow.length+pK H.wy:=rfl
 unfold BA at GP
 obtain ⟨BF,GO⟩:=ah GP
 clear GP
 rw [zC,zC] at BF
 obtain ⟨⟨_,UI⟩,hqs⟩:=BF
 rw [List.all_eq_true] at hqs
 obtain rfl:=D8 UI
 split at GO
 ·rename_i v gg b ee c hv hg hb hee Fg
  obtain ⟨Ml,WK⟩:=ah GO
  clear GO
  cases WK
  obtain ⟨gr,nG⟩:=gg
  obtain ⟨er,nC⟩:=ee
  obtain ⟨n1,n2⟩:=tO Ml
  obtain ⟨p1,p2⟩:=CA _ _ _ hg
  obtain ⟨c1,c2,c3⟩:=yp _ _ _ _ hee
  obtain ⟨g,hI,hE,hD,hs,hV⟩:=hR
  have hV:∀i,i<n→V g (bf F'.get i) (a.tmps.getD i undef):=hV
  have KX:(nG++nC).length=H.m:=by rw [zY,p1,c1];exact hm.symm
  have Jh:∀(k o:Nat),(nG++nC)[k]?=some (some o)→o<cJ:=fun k o e=>by
   by_cases hk:k<nG.length
   ·rw [zK hk] at e;exact Ck hg k o e
   ·rw [zJ (by omega)] at e;exact c2 _ o e
  have Xu:∀(k:Nat) (nm:Option Nat),nG[k]?=some nm→(nG++nC)[k]?=some nm:=fun k nm e=>by rw [zK (zB.1 e).1];exact e
  have cap:∀(k:Nat) (nm:Option Nat),nC[k]?=some nm→(nG++nC)[H.grow.length+k]?=some nm:=fun k nm e=>by rw [zJ (by omega),p1,Nat.add_sub_cancel_left];exact e
  have QX:∀(k o:Nat),(nG++nC)[k]?=some (some o)→he.aQ≤o∨o∈E.c_:=n1
  have QW:∀(k k' o:Nat),(nG++nC)[k]?=some (some o)→(nG++nC)[k']?=some (some o)→k=k':=n2
  generalize ud:nG++nC=names at KX Jh Xu cap QX QW
  have WV:he.aQ+names.length≤cJ:=by rw [KX];exact TT
  have kB:=DR he.aQ names g
  have Qd:∀(k:Nat) (nm:Option Nat) (z:Nat) (cc:A),names[k]?=some nm→wG z cc nm→∀v,V g cc v→V (gj he.aQ names g) (.tw (.loc (he.aQ+k)) z) v:=fun k nm z cc e E8 v Wv=>by
   cases nm with
   | some o=>
    have E8:cc = .tw (.loc o) z:=E8
    rw [E8] at Wv
    have bL:(gj he.aQ names g).bm (he.aQ+k)=g.bm o:=vX e WV
    cases Wv with
    | sr _ _ ad h1=>exact .sr (.loc (he.aQ+k)) z ad (bL.trans h1)
    | tw _ _ m b cap t h1 hn hx hp d hd=>exact .tw (.loc (he.aQ+k)) z m b cap t (bL.trans h1) hn hx hp d hd
   | none=>
    obtain ⟨ad,h1⟩:=E8 g _ Wv
    rw [h1]
    exact .sr (.loc (he.aQ+k)) z ad (vX e WV)
  have Qe:∀(k:Nat) (nm:Option Nat) (t:Ty) (l:List t.T),names[k]?=some nm→EJ t h'.t l nm→∀x,some (Ob.cells (l.flatMap (aA t)))=some x→(he.aQ+k<he.aQ→(((hp h').ob (he.aQ+k)=some x∧E2 he.aQ x)∨∃cs hH,(hp h').ob (he.aQ+k)=some (.cells cs)∧x = .cells hH∧hH.length=cs.length∧∀vs,Vs g cs vs→Vs (gj he.aQ names g) hH vs)) ∧
    (he.aQ≤he.aQ+k→he.aQ+k<cJ→∃k' nm,he.aQ+k=he.aQ+k'∧names[k']?=some nm∧(∀o,nm=some o→(hp h').ob o=some x∧E2 he.aQ x)∧(nm=none→x = .cells [])):=fun k nm t l e Dt x hx=>by
   cases hx
   refine ⟨fun dD=>by omega,fun _ dD=>⟨k,nm,rfl,e,fun o ho=>?_,fun ho=>?_⟩⟩
   ·subst ho
    have Dt:o<cJ∧fG h'.t o=some (.cells (l.flatMap (aA t))):=Dt
    refine ⟨?_,fun c hc=>by obtain ⟨y,_,hy⟩:=List.mem_flatMap.1 hc;exact iO t y c hy⟩
    show (if o<cJ then _ else _)=_
    rw [if_pos Dt.1];exact Dt.2
   ·subst ho
    have Dt:l=[]:=Dt
    subst Dt;rfl
  have eY:∀i,i<cJ→(hp h').ob i=fG h'.t i:=fun i hi=>if_pos hi
  have jP:=p2 (fun i c=>i<n→V (gj he.aQ names g) c (a.tmps.getD i undef)) (fun i ob=>∀x,ob=some x→(i<he.aQ→(((hp h').ob i=some x∧E2 he.aQ x)∨∃cs hH,(hp h').ob i=some (.cells cs)∧x = .cells hH∧hH.length=cs.length∧∀vs,Vs g cs vs→Vs (gj he.aQ names g) hH vs))∧(he.aQ≤i→i<cJ→∃k nm,i=he.aQ+k∧names[k]?=some nm∧(∀o,nm=some o→(hp h').ob o=some x∧E2 he.aQ x)∧(nm=none→x = .cells []))) he.aQ
   (fun k nm i z e hi E8 _=>Qd k nm z _ (Xu k nm e) E8 _ (hV i hi)) (fun k nm t l e Dt=>Qe k nm t l (Xu k nm e) Dt)
  have hF:=J.F (fun i c=>i<n→V (gj he.aQ names g) c (a.tmps.getD i undef)) (fun i _ _=>.cI _)
   (fun i hi hn=>by
    have:=hV i hn
    rw [Q0 i hi] at this
    exact EO.slot i g _ _ kB this)
   (Cz (fun i ag t x hi hx _=>og ag t x g _ _ kB (jV hx (hV i hi))) _ _ hv) jP.1
  have hT:=J.t _ (fun i _ x hx=>by cases hx)
   (fun i hi x hx=>by
    refine ⟨fun dD=>.inl ?_,fun h1 h2=>by rw [oA i h1 h2] at hx;cases hx⟩
    have he1:(hp h').ob i=fG he.t i:=by
     by_cases hq:i∈E.qs
     ·rw [eY i (by omega),yn (hqs i hq),yn (EO.loop i hq).1]
     ·rw [QS i dD (fun h=>by
       rcases zX.1 h with h | h
       ·exact hi (zQ _ h)
       ·rcases zX.1 h with h | h
        ·exact hi (zS _ h)
        ·exact hq h)]
      exact if_pos (by omega)
    exact ⟨he1.trans hx,EO.mem i x hx⟩)
   (CD (tt:=h'.t) _ _ _ (fun b t y Xj Xi x hx=>by
    cases hx
    have dD:=EO.bsl b (zQ _ Xj)
    exact ⟨fun _=>.inl ⟨by rw [eY b (by omega)];exact Xi,iO t y⟩,fun h=>by omega⟩) hb)
   (c3 he.aQ g (gj he.aQ names g) (he.aQ+H.grow.length) _ kB (fun k nm z cc e E8 v hv=>by have:=Qd (H.grow.length+k) nm z cc (cap k nm e) E8 v hv;rwa [←Nat.add_assoc] at this) (fun k nm t l e Dt=>by have:=Qe (H.grow.length+k) nm t l (cap k nm e) Dt;rwa [←Nat.add_assoc] at this)
    (fun b cs hH Xj Xi hl hcv x hx=>by
     cases hx
     have dD:=EO.bsl b (zS _ Xj)
     exact ⟨fun _=>.inr ⟨cs,hH,by rw [eY b (by omega)];exact Xi,rfl,hl,hcv⟩,fun h=>by omega⟩)) jP.2
  have hDl:∀i,i∈E.c_→fG hc.t i=none:=fun i hi=>by
   have Cj:∀i,he.aQ≤i→i<he.aQ+H.m→∀ob:Option Ob,i∈E.c_→ob=none:=fun i q1 _ ob hn=>by have:=EO.del _ hn;omega
   have TH:∀b∈E.bs++E.cs,∀ob:Option Ob,b∈E.c_→ob=none:=fun b hb ob hn=>absurd hn (EO.apart b hb)
   exact J.t (fun i ob=>i∈E.c_→ob=none) (fun _ _ _=>rfl) (fun i hn hd=>absurd (zQ _ hd) hn) (uF _ _ _ (fun b hb=>TH b (zQ _ hb))) (uE (m:=he.aQ+H.m) _ _ _ _ (by omega) (fun b hb=>TH b (zS _ hb)) (fun i q1 q2=>Cj i (by omega) q2)) (uD (m:=he.aQ+H.m) _ _ _ (by omega) Cj) i hi
  have Q6:=kW _ _ _ Fg
  have hRg:∀i,¬i<cJ→(hp hc).ob i=(hp h').ob i∧((hp hc).fr i↔(hp h').fr i):=fun i hl=>by
   cases hk:dh H.iQ (lT i) with
   | true=>
    obtain ⟨q1,_⟩:=Q6 _ hk
    rw [(fe hl).1,(fe hl).2,(fe hl).1,(fe hl).2]
    unfold dQ fU
    rw [J.rg,ln _ _ _ EO.iQ,hk,if_pos rfl,q1]
    exact ⟨rfl,Iff.rfl⟩
   | false=>
    have e1:=(qX EO J).2.1 i hl hk
    have e2:=WE i hl hk
    exact ⟨e1.1.trans e2.1.symm,e1.2.trans e2.2.symm⟩
  have K5:∀i,i<cJ→(hp hc).ob i=fG hc.t i:=fun i hi=>if_pos hi
  have yS:∀{i},¬stay he.aQ i→he.aQ≤i∧i<cJ:=fun {i} h=>by unfold stay at h;omega
  have hrj:=Ka (S':=hp hc) WV (fun i x hi e=>?_) (fun i x hi e=>?_) QW (fun k o e hi=>?_) (fun i e=>⟨fun hi=>?_,fun hi=>?_⟩) hf hI hE
  ·refine ⟨_,hrj.1,hrj.2,⟨hD.1,fun i d e e1 e2=>?_⟩,hs,fun i hi=>hF i hi⟩
   have Xa:=EO.dsl d (zG e1)
   refine ⟨fun hd=>?_,fun hd=>absurd hd (by have:cJ=16777216:=rfl;omega)⟩
   obtain ⟨b',s',q1,q2⟩:=(hD.2 i d e e1 e2).1 hd
   exact ⟨b',s',(kB.bm d (.inl Xa)).trans q1,q2⟩
  ·rcases hi with hi | hi
   ·rw [K5 i (by omega)] at e
    exact (hT i x e).1 hi
   ·refine .inl ⟨(hRg i hi).1.symm.trans e,?_⟩
    rw [(fe hi).1] at e
    unfold dQ at e
    split at e
    ·exact Cn e
    ·cases e
  ·obtain ⟨h1,h2⟩:=yS hi
   rw [K5 i h2] at e
   exact (hT i x e).2 h1 h2
  ·have hol:=Jh k o e
   rcases QX k o e with h1 | h1
   ·rcases hi with hi | hi
    ·omega
    ·exact absurd hol hi
   ·rw [K5 o hol];exact hDl o h1
  ·obtain ⟨h1,h2⟩:=yS hi
   have e:(if i<cJ then hc.aQ≤i else _):=e
   rw [if_pos h2,J.aQ] at e
   rw [KX];exact e
  ·rcases hi with hi | hi
   ·have e:(if i<cJ then hc.aQ≤i else _):=e
    rw [if_pos (show i<cJ by omega),J.aQ] at e
    omega
   ·exact (hRg i hi).2.1 e
 ·cases GO
end
end
section
open Go.RowKit
theorem Inv.Ca {g:G} {S:Hp} {w:World} (h:Inv g S w) {q b:Nat} {s:Nat×Nat} {st zx:LoopState} {pe Ki:Option Code} {rr:Loop} (ho:S.ob q=some (.cN (.loop st pe))) (hg:g.bm q=some (some b,s)) (hr:w.heap[b]?=some (.loop rr)) :
  Inv g (S.set q (.cN (.loop zx Ki))) (w.putObj b (.loop { rr with state:=zx,pending:=Ki }))∧Ext S g w (S.set q (.cN (.loop zx Ki))) g (w.putObj b (.loop { rr with state:=zx,pending:=Ki })):=by
 have hb:b<w.heap.size:=(Array.getElem?_eq_some_iff.1 hr).1
 refine h.BP ho hg (by simp) (fun k hk=>World.putObj_heap_other hk) rfl rfl rfl ⟨_,World.putObj_heap_same hb,_,rfl,rfl,rfl⟩ (fun l e=>⟨_,World.putObj_heap_same hb,?_⟩)
 obtain ⟨r,k1,k2⟩:=h.lp b l e
 rw [hr] at k1
 cases k1
 exact k2
theorem Inv.Qz {g:G} {S:Hp} {w:World} (h:Inv g S w) {q:Nat} (hf:S.fr q) (rr:Loop) :
  ∃g',Inv g' (S.new q (.cN (.loop rr.state rr.pending))) (w.alloc (.loop rr))∧Ext S g w (S.new q (.cN (.loop rr.state rr.pending))) g' (w.alloc (.loop rr))∧g'.bm q=some (some w.heap.size,(0,0))∧g'.lp w.heap.size=some (tT rr):=by
 obtain ⟨i1,x1⟩:=h.alloc (s:=(0,0)) hf (x:=.cN (.loop rr.state rr.pending)) (ob:=.loop rr) ⟨_,heap_alloc_new w _,rr,rfl,rfl,rfl⟩
 have Jv:(jB g q (some w.heap.size,(0,0))).lp w.heap.size=none:=by
  cases hl:(jB g q (some w.heap.size,(0,0))).lp w.heap.size with
  | none=>rfl
  | some l=>
   obtain ⟨r,k1,_⟩:=h.lp _ l hl
   have:=(Array.getElem?_eq_some_iff.1 k1).1
   omega
 have bL:=cn (g:=g) (o:=q) (p:=(some w.heap.size,(0,0)))
 generalize jB g q (some w.heap.size,(0,0))=g1 at i1 x1 Jv bL
 have hle:Le g1 ⟨g1.bm,g1.mem,fun k=>if k=w.heap.size then some (tT rr) else g1.lp k⟩:=⟨fun _ _ e=>e,fun _ _ _ e=>e,fun b l e=>by
  show (if b=w.heap.size then _ else g1.lp b)=some l
  split
  ·rename_i hb;rw [hb,Jv] at e;cases e
  ·exact e⟩
 refine ⟨⟨g1.bm,g1.mem,fun k=>if k=w.heap.size then some (tT rr) else g1.lp k⟩,⟨fun o cs e=>(i1.cells o cs e).imp id fun ⟨b,t,k1,cur,ty,k2,k3,k4⟩=>⟨b,t,k1,cur,ty,k2,k3,k4.mono hle⟩,fun o x e=>?_,i1.fresh,i1.lt,i1.inj,i1.mem,i1.lr,fun b l e=>?_⟩,⟨x1.le.trans hle,x1.os,x1.tape,x1.output,x1.size,x1.frame,fun k ⟨o,s,x,e1,e2⟩=>x1.own k ⟨o,s,x,e1,e2⟩,x1.JF,x1.fr,x1.tR,fun b l e=>?_⟩,bL,if_pos rfl⟩
 ·obtain ⟨b,s,ob,k1,k2,k3⟩:=i1.cN o x e
  exact ⟨b,s,ob,k1,k2,k3.mono hle⟩
 ·have e:(if b=w.heap.size then some (tT rr) else g1.lp b)=some l:=e
  split at e
  ·rename_i hb;cases e;exact ⟨rr,by rw [hb];exact heap_alloc_new w _,rfl⟩
  ·exact i1.lp b l e
 ·have e:(if b=w.heap.size then some (tT rr) else g1.lp b)=some l:=e
  split at e
  ·rename_i hb;exact .inr (by omega)
  ·exact x1.lpo b l e
section
variable {β:Type}
theorem yg {h:H} {q:Nat} {x:gw} {t':Tr gw} (hq:q<16777216) (ht:t'.get=fun m=>if m=q then some x else h.t.get m):nM h { h with t:=t' } (.wr [dq q])∧∀S,Agree (.wr [dq q]) (hp h) S→iS (.wr [dq q]) (hp { h with t:=t' }) S=S.set q x.low:=by
 have e:=po (h:=h) (x:=x) hq ht
 have hT:∀u∈[Up.set q x.low],aG (.wr [dq q]) u.id=true:=fun u hu=>by rcases zF.1 hu with rfl;exact aB (o:=q) hq (.head _)
 have out:∀i,aG (.wr [dq q]) i=false→(hp { h with t:=t' }).ob i=(hp h).ob i∧((hp { h with t:=t' }).fr i↔(hp h).fr i):=fun i hi=>by
  rw [e];exact dB _ _ i (fun u hu hh=>by rw [hh,hT u hu] at hi;cases hi)
 exact ⟨⟨out,fun i hi=>out i (sq hi)⟩,fun S hA=>by rw [e,ib hT hA];rfl⟩
theorem ze {h:H} {q:Nat} {t':Tr gw} (hq:q<16777216) (ht:t'.get=fun m=>if m=q then none else h.t.get m):nM h { h with t:=t' } (.wr [dq q])∧∀S,Agree (.wr [dq q]) (hp h) S→iS (.wr [dq q]) (hp { h with t:=t' }) S=S.del q:=by
 have e:hp { h with t:=t' }=app [.del q] (hp h):=Hp.ext' (fun i=>by
  show (if i<cJ then fG t' i else _)=if i=q then none else (if i<cJ then fG h.t i else _)
  unfold fG
  rw [ht]
  by_cases hi:i=q
  ·subst hi;rw [if_pos (show i<cJ from hq),if_pos rfl];simp
  ·simp only [if_neg hi]) (fun i=>Iff.rfl)
 have hT:∀u∈[Up.del q],aG (.wr [dq q]) u.id=true:=fun u hu=>by rcases zF.1 hu with rfl;exact aB (o:=q) hq (.head _)
 have out:∀i,aG (.wr [dq q]) i=false→(hp { h with t:=t' }).ob i=(hp h).ob i∧((hp { h with t:=t' }).fr i↔(hp h).fr i):=fun i hi=>by
  rw [e];exact dB _ _ i (fun u hu hh=>by rw [hh,hT u hu] at hi;cases hi)
 exact ⟨⟨out,fun i hi=>out i (sq hi)⟩,fun S hA=>by rw [e,ib hT hA];rfl⟩
theorem yz {h:H} {x:gw} {t':Tr gw} (hq:h.aQ<16777216) (ht:t'.get=fun m=>if m=h.aQ then some x else h.t.get m):nM h { h with t:=t',aQ:=h.aQ+1 } (.wr [dq h.aQ])∧∀S,Agree (.wr [dq h.aQ]) (hp h) S→iS (.wr [dq h.aQ]) (hp { h with t:=t',aQ:=h.aQ+1 }) S=S.new h.aQ x.low:=by
 have e:=Dv (h:=h) (x:=x) hq ht
 have hT:∀u∈[Up.new h.aQ x.low],aG (.wr [dq h.aQ]) u.id=true:=fun u hu=>by rcases zF.1 hu with rfl;exact aB (o:=h.aQ) hq (.head _)
 have out:∀i,aG (.wr [dq h.aQ]) i=false→(hp { h with t:=t',aQ:=h.aQ+1 }).ob i=(hp h).ob i∧((hp { h with t:=t',aQ:=h.aQ+1 }).fr i↔(hp h).fr i):=fun i hi=>by
  rw [e];exact dB _ _ i (fun u hu hh=>by rw [hh,hT u hu] at hi;cases hi)
 exact ⟨⟨out,fun i hi=>out i (sq hi)⟩,fun S hA=>by rw [e,ib hT hA];rfl⟩
theorem KF {h:H} {q:Nat} {x:gw} (hq:q<16777216) (hx:h.t.get q=some x):(hp h).ob q=some x.low:=by
 show (if q<cJ then _ else _)=_
 rw [if_pos (show q<cJ from hq)];unfold fG;rw [hx]
theorem zn {h:H} {q:Nat} {S:Hp} {x:gw} {l:List Nat} {w:Bool} {s:List Nat} (hq:q<16777216) (hx:h.t.get q=some x) (hA:Agree ⟨false,l,w,s⟩ (hp h) S) (hm:dq q∈l):S.ob q=some x.low:=(hA q (aB hq hm)).1.trans (KF hq hx)
def De:Option Code→Option Exit
 | none=>some .normal
 | some .ret=>some .ret
 | some (.exit id)=>some (.exit id)
 | _=>none
def KN:LoopState→Bool
 | .busy=>true
 | _=>false
def Qf:Exit→Option (Option Code)
 | .normal=>some none
 | .ret=>some (some .ret)
 | .exit id=>some (some (.exit id))
 | _=>none
def Cl:Option Code→LoopState
 | none=>.ready
 | some _=>.done
theorem Dd {pe:Option Code} {e:Exit} (h:De pe=some e):(pe=none∧e = .normal)∨(pe=some .ret∧e = .ret)∨∃id,pe=some (.exit id)∧e = .exit id:=by
 unfold De at h
 split at h
 ·cases h;exact .inl ⟨rfl,rfl⟩
 ·cases h;exact .inr (.inl ⟨rfl,rfl⟩)
 ·cases h;exact .inr (.inr ⟨_,rfl,rfl⟩)
 ·cases h
def w6:Tr A→List Tmp→List A→(Tr A→Option β)→Option β
 | F,[],[],k=>k F
 | F,t::ts,a::aa,k=>ff F t (some a) (fun F=>w6 F ts aa k)
 | _,_,_,_=>none
theorem sB {r:β}:∀(ps:List Tmp) (aa:List A) (F:Tr A) (k:Tr A→Option β),w6 F ps aa k=some r→∃F1,k F1=some r∧aa.length=ps.length∧∀(g:G) (n:Nat) (vs:List Value) (tmps:Array Value),aa.length=vs.length→(∀(i:Nat) (p:A) (v:Value),aa[i]?=some p→vs[i]?=some v→V g p v)→tmps.size=n→(∀i,i<n→V g (bf F.get i) (tmps.getD i undef)) →
  ((ps.zip vs).foldl (fun tmps x=>tmps.setIfInBounds x.1 x.2) tmps).size=n∧∀i,i<n→V g (bf F1.get i) (((ps.zip vs).foldl (fun tmps x=>tmps.setIfInBounds x.1 x.2) tmps).getD i undef)
 | [],[],F,k,h=>⟨F,h,rfl,fun g n vs tmps hl hv hs hF=>⟨by simpa using hs,by simpa using hF⟩⟩
 | t::ts,a::aa,F,k,h=>by
  obtain ⟨_,F',k1,k2⟩:=bt h
  obtain ⟨F1,q1,q2,q3⟩:=sB ts aa F' k k1
  refine ⟨F1,q1,by simp [q2],fun g n vs tmps hl hv hs hF=>?_⟩
  cases vs with
  | nil=>simp at hl
  | cons v vs=>
   refine q3 g n vs (tmps.setIfInBounds t v) (by simpa using hl) (fun i p v k1 k2=>hv (i+1) p v (by simpa using k1) (by simpa using k2)) (by simpa using hs) (fun i hi=>?_)
   rw [nZ k2]
   by_cases W3:i=t
   ·subst W3
    rw [if_pos rfl,show (tmps.setIfInBounds i v).getD i undef=v by simp [Array.getD,show i<tmps.size by omega]]
    exact hv 0 a v rfl rfl
   ·rw [if_neg W3,show (tmps.setIfInBounds t v).getD i undef=tmps.getD i undef by
     simp only [Array.getD_eq_getD_getElem?]
     rw [Array.getElem?_setIfInBounds_ne (fun h=>W3 h.symm)]]
    exact hF i hi
 | [],_::_,_,_,h=>by cases h
 | _::_,[],_,_,h=>by cases h
theorem QE {g:G} {fi ca:List A} {x:A} {fv cv:List Value} {v:Value} (hf:fi.length=fv.length) (h1:∀(i:Nat) (c:A) (x:Value),fi[i]?=some c→fv[i]?=some x→V g c x) (hx:V g x v) (h2:∀(i:Nat) (c:A) (x:Value),ca[i]?=some c→cv[i]?=some x→V g c x) :
  ∀(i:Nat) (p:A) (u:Value),(fi++x::ca)[i]?=some p→(fv++v::cv)[i]?=some u→V g p u:=by
 intro i p u k1 k2
 rcases Nat.lt_trichotomy i fi.length with c1 | c1 | c1
 ·rw [zK c1] at k1
  rw [zK (by omega)] at k2
  exact h1 i p u k1 k2
 ·rw [zJ (by omega)] at k1 k2
  rw [c1,Nat.sub_self] at k1
  rw [c1,hf,Nat.sub_self] at k2
  simp at k1 k2;subst k1 k2;exact hx
 ·rw [zJ (by omega)] at k1 k2
  rw [←hf] at k2
  obtain ⟨d,hd⟩:∃d,i-fi.length=d+1:=⟨i-fi.length-1,by omega⟩
  rw [hd] at k1 k2
  exact h2 d p u (by simpa using k1) (by simpa using k2)
end
end
section
open Go.RowKit
section
variable {P:Program} {E:Env} {cx:Cx} {n:Nat} {β:Type} {r:β}
abbrev KC (β:Type):=Exit→Tr A→H→List Nat→Fp→Option β
def J6 (K1:Tr A→H→List Nat→Fp→Option β) (K:KC β):KC β:=fun e F h ds U=>match e with
 | .normal=>K1 F h ds U
 | e=>K e F h ds U
def Zz (id:Nat) (K:KC β):KC β:=fun e F h ds U=>match e with
 | .exit i=>bif Nat.beq i id then K .normal F h ds U else K (.exit i) F h ds U
 | e=>K e F h ds U
def LI (n:Nat) (F:Tr A) (c:Operand) (k:Tr A→Bool→Option β):Option β:=match c with
 | .tmp d=>match yw n F (.tmp d) with
  | .v (.bool b)=>br b (ff F d (some (.v (.bool true))) (fun F'=>k F' true)) (ff F d (some (.v (.bool false))) (fun F'=>k F' false))
  | _=>none
 | .const (.bool b)=>k F b
 | _=>none
theorem Hn {F:Tr A} {c:Operand} {k:Tr A→Bool→Option β} (h:LI n F c k=some r):∃F' b,k F' b=some r∧(∀ds S,fH n F' ds S=fH n F ds S)∧yw n F c = .v (.bool b):=by
 unfold LI at h
 split at h
 ·rename_i d
  split at h
  ·rename_i b hb
   have same:∀(F':Tr A) (c:Bool),b=c→F'.get=(fun m=>if m=d then some (.v (.bool c)) else F.get m)→∀ds S,fH n F' ds S=fH n F ds S:=fun F' c hc e ds S=>by
    have:bf F'.get=bf F.get:=by
     funext i
     by_cases hi:i=d
     ·subst hi
      rw [yv hb (by intro h;cases h),hc]
      unfold bf
      rw [e];simp
     ·unfold bf
      rw [e];simp [hi]
    unfold fH
    rw [this]
   rcases pB h with ⟨rfl,h1⟩ | ⟨rfl,h1⟩
   ·obtain ⟨_,F',k1,k2⟩:=bt h1
    exact ⟨F',true,k1,same F' true rfl k2,hb⟩
   ·obtain ⟨_,F',k1,k2⟩:=bt h1
    exact ⟨F',false,k1,same F' false rfl k2,hb⟩
  ·cases h
 ·rename_i b
  exact ⟨F,b,h,fun ds S=>rfl,rfl⟩
 ·cases h
def mA:ay→List Nat
 | .region _ ops _=>pY ops
 | .seq x y=>mA x++mA y
 | .cut H x y=>(mA x++(H.np.map (·.1)++H.grow.map (·.1)))++mA y
 | .cond _ x y=>mA x++mA y
 | .block _ x=>mA x
 | .loop H x=>mA x++(H.np.map (·.1)++H.grow.map (·.1))
 | _=>[]
def xf {σ:Type} (pj:Tr A→H→List Nat→Fp→Option σ) (k:σ→Option β) (K:KC β):KC β:=fun e F h ds T=>match e with
 | .normal=>(match pj F h ds T with
  | some s=>k s
  | none=>none)
 | e=>K e F h ds T
def Bp (U:Fp) (K:KC β):KC β:=fun e F h ds T=>K e F h ds (U.cat T)
abbrev MA (β:Type):=Nat→List Oper→Tr A→H→Fp→(Tr A→H→Fp→Option β)→Option β
def yc (J:LH):Option Nat:=match J.loops with
 | [k]=>bif Nat.ble 1000000 k then some (k-1000000) else none
 | _=>none
def Mu:List Oper→Option (Nat×Nat×Nat)
 | [o1,o2]=>match o1.op,o1.dst,o1.guard,o2.op,o2.guard,o2.dst with
  | .move (.tmp s),some a,none,.defer c,none,none=>match c.callee,c.args.toList with
   | .value (.func f),[.tmp b]=>bif Nat.beq a b then some (s,a,f) else none
   | _,_=>none
  | _,_,_,_,_,_=>none
 | _=>none
def UN {β:Type} (n:Nat) (x:Nat×Nat×Nat) (F:Tr A) (h:H) (ds:List Nat) (U:Fp) (K:Tr A→H→List Nat→Fp→Option β):Option β:=match bf F.get x.1 with
 | .ptr q off=>bif Nat.beq off 0 && Nat.blt q 16777216 && Nat.blt x.1 n && Nat.blt x.2.1 n then ff F x.2.1 (some (.ptr q 0)) (fun F1=>K F1 h ((q+16777216*(x.2.2+1))::ds) U) else none
 | _=>none
def si (E:Env) (cx:Cx) (inr:Bool) (n:Nat) (dr:MA β):ay→Tr A→H→List Nat→Fp→KC β→Option β
 | .skip,F,h,ds,U,K=>K .normal F h ds U
 | .ret,F,h,ds,U,K=>K .ret F h ds U
 | .exit id,F,h,ds,U,K=>K (.exit id) F h ds U
 | .bad _,_,_,_,_,_=>none
 | .region id ops d,F,h,ds,U,K=>bif d then dr id ops F h U (fun F h U=>K .normal F h ds U) else match Mu ops with
  | some x=>bif inr then none else UN n x F h ds U (fun F h ds U=>K .normal F h ds U)
  | none=>ve E cx n ops ops F h U (fun F h U=>K .normal F h ds U)
 | .seq x y,F,h,ds,U,K=>si E cx inr n dr x F h ds U (J6 (fun F h ds U=>si E cx inr n dr y F h ds U K) K)
 | .cut J x y,F,h,ds,U,K=>match Hh J F h with
  | some e=>bif y9 J e ds F h then
    jn (fun k=>si E cx inr n dr x F h ds .no (xf (BA J n h.aQ e.bs e.cs e.qs e.c_ ds) k (Bp U K)))
     (fun s=>AS J (mA x++(J.np.map (·.1)++J.grow.map (·.1))) e.bs e.cs e.c_ F h s (fun Fc hc=>si E cx inr n dr y Fc hc ds .no (Bp (U.cat (jT J h.aQ e)) K)))
   else none
  | none=>none
 | .cond c x y,F,h,ds,U,K=>LI n F c (fun F b=>bif b then si E cx inr n dr x F h ds U K else si E cx inr n dr y F h ds U K)
 | .block id x,F,h,ds,U,K=>si E cx inr n dr x F h ds U (Zz id K)
 | .loop J x,F,h,ds,U,K=>match yc J with
  | some m=>Nat.rec (motive:=fun _=>Tr A→H→List Nat→Fp→Option β) (fun _ _ _ _=>none) (fun _ ih F h ds U=>si E cx inr n dr x F h ds U (J6 ih K)) m F h ds U
  | none=>match Hh J F h with
  | some e=>bif y9 J e ds F h then (match BA J n h.aQ e.bs e.cs e.qs e.c_ ds F h ds .no with
   | some s0=>loop (fun k s=>AS J (mA x++(J.np.map (·.1)++J.grow.map (·.1))) e.bs e.cs e.c_ F h s (fun Fc hc=>si E cx inr n dr x Fc hc ds .no (xf (BA J n h.aQ e.bs e.cs e.qs e.c_ ds) k (Bp (U.cat (jT J h.aQ e)) K)))) s0
   | none=>none) else none
  | none=>none
 | .range g ps J aa bd,F,h,ds,U,K=>bif inr then none else match yw n F g with
  | .fn f fi ca=>bif Nat.blt h.aQ 16777214 then ff h.t h.aQ (some (.cN .zd)) (fun t1=>ff t1 (h.aQ+1) (some (.cN (.loop .ready none))) (fun t2=>cx.call β f (fi ++ .rL (h.aQ+1) n F ps J aa bd::ca) { h with t:=t2,aQ:=h.aQ+1+1 } (fun _ h3 T3=>match h3.t.get (h.aQ+1) with
   | some (.cN (.loop st pe))=>bif KN st then none else ff h3.t (h.aQ+1) none (fun t4=>match De pe with
    | some e=>K e F { h3 with t:=t4 } (h.aQ::ds) (U.cat (((Fp.wr [dq h.aQ]).cat (.wr [dq (h.aQ+1)])).cat (T3.cat (.wr [dq (h.aQ+1)]))))
    | none=>none)
   | _=>none))) else none
  | _=>none
def HJ (P:Program) (inr:Bool) (n:Nat) (c:Code) (F:Tr A) (h:H) (ds:List Nat) (e:Exit) (F':Tr A) (h':H) (iW:List Nat) (T:Fp):Prop:=
 nM h h' T∧∀ro,(inr=false→ro=none)→∀S0 g0 w0,ES F h F' h' n T (fun Q st=>pw P ro S0 g0 w0 c Q st) e ds iW
def Bw (P:Program) (n:Nat) (dr:MA β):Prop:=
 ∀id ops F h U K (r:β),dr id ops F h U K=some r→∃F' h' T,K F' h' (U.cat T)=some r∧Kp (pY ops) F F'∧∀inr ds,HJ P inr n (.region id ops.toArray true) F h ds .normal F' h' ds T
theorem all_eq {S S2:Hp} {l m:List Nat} {w:Bool} (h:Agree ⟨true,l,w,m⟩ S S2):S2=S:=Hp.ext' (fun i=>(h i rfl).1) (fun i=>(h i rfl).2)
theorem yr {S S2:Hp} {l m:List Nat} {w:Bool}:iS ⟨true,l,w,m⟩ S S2=S:=Hp.ext' (fun i=>by
 show (if aG ⟨true,l,w,m⟩ i=true then S.ob i else S2.ob i)=S.ob i
 rw [if_pos (show aG ⟨true,l,w,m⟩ i=true from rfl)]) (fun i=>by
 show (if aG ⟨true,l,w,m⟩ i=true then S.fr i else S2.fr i)↔S.fr i
 rw [if_pos (show aG ⟨true,l,w,m⟩ i=true from rfl)])
theorem Dh (J:LH) (N:Nat) (e:Fo) (T:Fp):∃l m w,(jT J N e).cat T=⟨true,l,w,m⟩:=⟨_,_,_,rfl⟩
theorem R.entry {n:Nat} {F:Tr A} {h:H} {ds:List Nat} {S0:Hp} {g0:G} {w0 w:World} {a:Act} (hR:R S0 g0 w0 (fH n F ds (hp h)) a w):(∀i,h.aQ≤i→i<cJ→fG h.t i=none)∧∀o,h.aQ≤o→o<cJ→S0.fr o∧g0.bm o=none:=by
 obtain ⟨g,hI,hE,_⟩:=hR
 have hI:Inv g (hp h) w:=hI
 have hE:Ext S0 g0 w0 (hp h) g w:=hE
 have fr:∀o,h.aQ≤o→o<cJ→(hp h).fr o:=fun o h1 h2=>by show (if o<cJ then _ else _);rw [if_pos h2];exact h1
 refine ⟨fun i h1 h2=>?_,fun o h1 h2=>⟨hE.fr o (fr o h1 h2),?_⟩⟩
 ·cases hx:fG h.t i with
  | none=>rfl
  | some x=>
   have eY:(hp h).ob i=some x:=by show (if i<cJ then _ else _)=_;rw [if_pos h2];exact hx
   have bL:=hI.fresh i (fr i h1 h2)
   cases x with
   | cells cs=>
    rcases hI.cells i cs eY with ⟨k,_⟩ | ⟨b,t,k,_⟩
    ·rw [bL] at k;cases k
    ·rw [bL] at k;cases k
   | cN x=>
    obtain ⟨b,s,ob,k,_⟩:=hI.cN i x eY
    rw [bL] at k;cases k
 ·have bL:=hI.fresh o (fr o h1 h2)
  cases hx:g0.bm o with
  | none=>rfl
  | some p=>rw [hE.le.bm o p hx] at bL;cases bL
section
variable {J:LH} {lf ds:List Nat} {En:Fo} {F:Tr A} {h:H}
theorem xn {s:J.S} {Fc:Tr A} {hc:H} (k:oP J lf En F h s Fc hc) (hv:∀i,i∈J.np.map (·.1)++J.grow.map (·.1)→i∈lf):Kp lf F Fc:=by
 have aV:∀(l:List (Nat×Bool×Ty)) (x:kb (l.map (·.2))),(∀i∈l.map (·.1),i∈lf)→ED (fun i c=>i∉lf→c=bf F.get i) l x:=fun l=>by
  induction l with
  | nil=>exact fun _ _=>trivial
  | cons p l ih=>exact fun x hh=>⟨fun hn=>absurd (hh p.1 (.head _)) hn,ih x.2 (fun i hi=>hh i (.tail _ hi))⟩
 have aW:∀(l:List (Nat×Ty)) (j:Nat),(∀i∈l.map (·.1),i∈lf)→EC (fun i c=>i∉lf→c=bf F.get i) l j:=fun l=>by
  induction l with
  | nil=>exact fun _ _=>trivial
  | cons p l ih=>exact fun j hh=>⟨fun hn=>absurd (hh p.1 (.head _)) hn,ih (j+1) (fun i hi=>hh i (.tail _ hi))⟩
 exact k.F (fun i c=>i∉lf→c=bf F.get i) (fun i h1 h2=>absurd h1 h2) (fun i _ _=>rfl) (aV _ _ (fun i hi=>hv i (zQ _ hi))) (aW _ _ (fun i hi=>hv i (zS _ hi)))
theorem QD {n:Nat} {s s':J.S} {Fc Mz F1:Tr A} {hc Fg h1:H} {mu:List Nat} {T1:Fp} (E:rK J En ds F h) (k:oP J lf En F h s Fc hc) (k':oP J lf En F h s' Mz Fg) (hv:∀i,i∈J.np.map (·.1)++J.grow.map (·.1)→i∈lf)
  (WX:Kp lf Fc F1) (nR:nM hc h1 T1) (GP:BA J n h.aQ En.bs En.cs En.qs En.c_ ds F1 h1 mu T1=some s') {S0:Hp} {g0:G} {w0 w:World} {a:Act} (oA:∀i,h.aQ≤i→i<cJ→fG h.t i=none) (hf:∀o,h.aQ≤o→o<cJ→S0.fr o∧g0.bm o=none)
  (hR:R S0 g0 w0 (fH n F1 mu (hp h1)) a w):R S0 g0 w0 (fH n Mz ds (hp Fg)) a w:=by
 obtain ⟨j1,j2,_⟩:=qX E k
 have hw:=GP
 unfold BA at hw
 obtain ⟨BF,_⟩:=ah hw
 rw [zC,zC] at BF
 have Ww:=E.top
 exact Ja E oA (fun i hi=>(WX i hi).trans (xn k hv i hi)) (fun i hi hn=>(nR.rd i (wx BF.1.1 (by omega) hi hn)).1.trans (j1 i hi (fun h=>hn (by
   rcases zX.1 h with h | h
   ·exact zQ _ h
   ·exact zS _ (zQ _ h)))))
  (fun i hl hk=>by
   have e1:=nR.rd i (wv BF.1.1 hl hk)
   have e2:=j2 i hl hk
   exact ⟨e1.1.trans e2.1,e1.2.trans e2.2⟩) GP k' hf hR
theorem JE {n:Nat} {s':J.S} {Mz F1:Tr A} {Fg h1:H} {mu:List Nat} {T1:Fp} (E:rK J En ds F h) (k':oP J lf En F h s' Mz Fg)
  (WX:Kp lf F F1) (nR:nM h h1 T1) (GP:BA J n h.aQ En.bs En.cs En.qs En.c_ ds F1 h1 mu T1=some s') {S0:Hp} {g0:G} {w0 w:World} {a:Act} (oA:∀i,h.aQ≤i→i<cJ→fG h.t i=none) (hf:∀o,h.aQ≤o→o<cJ→S0.fr o∧g0.bm o=none)
  (hR:R S0 g0 w0 (fH n F1 mu (hp h1)) a w):R S0 g0 w0 (fH n Mz ds (hp Fg)) a w:=by
 have hw:=GP
 unfold BA at hw
 obtain ⟨BF,_⟩:=ah hw
 rw [zC,zC] at BF
 have Ww:=E.top
 exact Ja E oA (fun i hi=>WX i hi) (fun i hi hn=>(nR.rd i (wx BF.1.1 (by omega) hi hn)).1) (fun i hl hk=>nR.rd i (wv BF.1.1 hl hk)) GP k' hf hR
theorem Dk {s:J.S} {Fc:Tr A} {hc:H} (E:rK J En ds F h) (k:oP J lf En F h s Fc hc):nM h hc (jT J h.aQ En):=⟨fun i hi=>(by cases hi),(qX E k).2.2⟩
theorem vI {σ:Type} {pj:Tr A→H→List Nat→Fp→Option σ} {k:σ→Option β} {K:KC β} {e:Exit} {T:Fp} (hr:xf pj k K e F h ds T=some r):(e = .normal∧∃s,pj F h ds T=some s∧k s=some r)∨(e≠.normal∧K e F h ds T=some r):=by
 unfold xf at hr
 split at hr
 ·split at hr
  ·rename_i s hs;exact .inl ⟨rfl,s,hs,hr⟩
  ·cases hr
 ·rename_i j_;exact .inr ⟨j_,hr⟩
theorem yB {inr:Bool} {n:Nat} {x:ay} {dr:MA β} {E:Env} {cx:Cx} {K:KC β} {U:Fp} (hx:∀(F:Tr A) (h:H) (ds:List Nat) (U:Fp) (K:KC β),si E cx inr n dr x F h ds U K=some r→∃e F' h' iW T,K e F' h' iW (U.cat T)=some r∧Kp (mA x) F F'∧HJ P inr n x.code F h ds e F' h' iW T)
  (EO:rK J En ds F h) (hv:∀i,i∈J.np.map (·.1)++J.grow.map (·.1)→i∈lf) (ha:∀i,i∈mA x→i∈lf):∀(m:Nat) (s:J.S),iter (fun k s=>AS J lf En.bs En.cs En.c_ F h s (fun Fc hc=>si E cx inr n dr x Fc hc ds .no (xf (BA J n h.aQ En.bs En.cs En.qs En.c_ ds) k (Bp (U.cat (jT J h.aQ En)) K)))) m s=some r →
  ∃Fc hc,oP J lf En F h s Fc hc∧∃e F' h' iW T,K e F' h' iW (U.cat ((jT J h.aQ En).cat T))=some r∧Kp lf F F'∧nM h h' ((jT J h.aQ En).cat T) ∧
   ∀ro,(inr=false→ro=none)→∀S0 g0 w0,(∀i,h.aQ≤i→i<cJ→fG h.t i=none)→(∀o,h.aQ≤o→o<cJ→S0.fr o∧g0.bm o=none)→∀Q:Exit→St→Prop,Q e (fH n F' iW (hp h'))→∀a w,R S0 g0 w0 (fH n Fc ds (hp hc)) a w→Code.roundsIn (FR ro) 0 P x.code (lift S0 g0 w0 Q) m a w
 | 0,s,hr=>by cases hr
 | m+1,s,hr=>by
  obtain ⟨Fc,hc,k1,k2⟩:=vM (show AS J lf En.bs En.cs En.c_ F h s (fun Fc hc=>si E cx inr n dr x Fc hc ds .no (xf (BA J n h.aQ En.bs En.cs En.qs En.c_ ds) (iter (fun k s=>AS J lf En.bs En.cs En.c_ F h s (fun Fc hc=>si E cx inr n dr x Fc hc ds .no (xf (BA J n h.aQ En.bs En.cs En.qs En.c_ ds) k (Bp (U.cat (jT J h.aQ En)) K)))) m) (Bp (U.cat (jT J h.aQ En)) K)))=some r from hr)
  obtain ⟨e1,F1,h1,mu,T1,k3,k4,k5,k6⟩:=hx Fc hc ds .no _ k1
  rw [Fp.pf] at k3
  refine ⟨Fc,hc,k2,?_⟩
  rcases vI k3 with ⟨rfl,s',q1,q2⟩ | ⟨j_,q1⟩
  ·obtain ⟨Mz,Fg,u1,e,F',h',iW,T,u2,u3,u4,u5⟩:=yB hx EO hv ha m s' q2
   refine ⟨e,F',h',iW,T,u2,u3,u4,fun ro kT S0 g0 w0 oA hf Q hq a w hR=>?_⟩
   rw [roundsIn_succ]
   refine wpIn_mono (k6 ro kT S0 g0 w0 (hp hc) Agree.self (fun e st=>e = .normal∧st=fH n F1 mu (hp h1)) ⟨rfl,by rw [qd k5]⟩ a w hR) ?_
   rintro e2 a2 w2 ⟨st,K8,rfl,rfl⟩
   exact u5 ro kT S0 g0 w0 oA hf Q hq a2 w2 (QD EO k2 u1 hv (k4.mono ha) k5 q1 oA hf K8)
  ·refine ⟨e1,F1,h1,mu,T1,by rw [←Fp.jK];exact q1,(xn k2 hv).trans k4 (fun i hi=>hi) ha,(Dk EO k2).trans k5,fun ro kT S0 g0 w0 oA hf Q hq a w hR=>?_⟩
   rw [roundsIn_succ]
   refine wpIn_mono (k6 ro kT S0 g0 w0 (hp hc) Agree.self (fun e st=>e=e1∧st=fH n F1 mu (hp h1)) ⟨rfl,by rw [qd k5]⟩ a w hR) ?_
   rintro e2 a2 w2 ⟨st,K8,rfl,rfl⟩
   have hl:lift S0 g0 w0 Q e2 a2 w2:=⟨_,K8,hq⟩
   cases e2 with
   | normal=>exact absurd rfl j_
   | _=>exact hl
end
theorem BT {inr:Bool} {n:Nat} {x:ay} {dr:MA β} {E:Env} {cx:Cx} {K:KC β} {r:β} (hx:∀(F:Tr A) (h:H) (ds:List Nat) (U:Fp) (K:KC β),si E cx inr n dr x F h ds U K=some r→∃e F' h' iW T,K e F' h' iW (U.cat T)=some r∧Kp (mA x) F F'∧HJ P inr n x.code F h ds e F' h' iW T) :
  ∀(m:Nat) (F:Tr A) (h:H) (ds:List Nat) (U:Fp),Nat.rec (motive:=fun _=>Tr A→H→List Nat→Fp→Option β) (fun _ _ _ _=>none) (fun _ ih F h ds U=>si E cx inr n dr x F h ds U (J6 ih K)) m F h ds U=some r →
  ∃e F' h' iW T,K e F' h' iW (U.cat T)=some r∧Kp (mA x) F F'∧nM h h' T∧∀ro,(inr=false→ro=none)→∀S0 g0 w0 S2,Agree T (hp h) S2→∀Q:Exit→St→Prop,Q e (fH n F' iW (iS T (hp h') S2))→∀a w,R S0 g0 w0 (fH n F ds S2) a w→Code.roundsIn (FR ro) 0 P x.code (lift S0 g0 w0 Q) m a w
 | 0,F,h,ds,U,hr=>by cases hr
 | m+1,F,h,ds,U,hr=>by
  obtain ⟨e1,F1,h1,mu,T1,k1,kp,k2,k3⟩:=hx F h ds U _ hr
  by_cases j_:e1 = .normal
  ·subst j_
   obtain ⟨e,F2,h2,zc,T2,q1,qp,q2,q3⟩:=BT hx m F1 h1 mu _ k1
   refine ⟨e,F2,h2,zc,T1.cat T2,by rw [←Fp.jK];exact q1,kp.trans qp (fun i hi=>hi) (fun i hi=>hi),k2.trans q2,fun ro kT S0 g0 w0 S2 hA Q hq a w hR=>?_⟩
   rw [roundsIn_succ]
   refine wpIn_mono (k3 ro kT S0 g0 w0 S2 hA.left (fun e st=>e = .normal∧st=fH n F1 mu (iS T1 (hp h1) S2)) ⟨rfl,rfl⟩ a w hR) ?_
   rintro e2 a2 w2 ⟨st,K8,rfl,rfl⟩
   exact q3 ro kT S0 g0 w0 _ (Agree.right k2 hA) Q (by rw [gV q2];exact hq) a2 w2 K8
  ·have k4:K e1 F1 h1 mu (U.cat T1)=some r:=by
    cases e1 with
    | normal=>exact absurd rfl j_
    | _=>exact k1
   refine ⟨e1,F1,h1,mu,T1,k4,kp,k2,fun ro kT S0 g0 w0 S2 hA Q hq a w hR=>?_⟩
   rw [roundsIn_succ]
   refine wpIn_mono (k3 ro kT S0 g0 w0 S2 hA (fun e st=>e=e1∧st=fH n F1 mu (iS T1 (hp h1) S2)) ⟨rfl,rfl⟩ a w hR) ?_
   rintro e2 a2 w2 ⟨st,K8,rfl,rfl⟩
   have hl:lift S0 g0 w0 Q e2 a2 w2:=⟨_,K8,hq⟩
   cases e2 with
   | normal=>exact absurd rfl j_
   | _=>exact hl
theorem Lu {l:List Oper} {x:Nat×Nat×Nat} (h:Mu l=some x):∃o1 o2 c,l=[o1,o2]∧o1.op = .move (.tmp x.1)∧o1.dst=some x.2.1∧o1.guard=none∧o2.op = .defer c∧o2.guard=none∧o2.dst=none∧c.callee = .value (.func x.2.2)∧c.args.toList=[.tmp x.2.1]:=by
 unfold Mu at h
 split at h
 ·rename_i o1 o2
  split at h
  ·rename_i s a c e1 e2 e3 e4 e5 e6
   split at h
   ·rename_i f b e7 e8
    obtain ⟨e9,h⟩:=ah h
    have e9:=beq_eq e9
    cases h
    exact ⟨o1,o2,c,rfl,e1,e2,e3,e4,e5,e6,e7,by rw [e8,e9]⟩
   ·cases h
  ·cases h
 ·cases h
theorem Lv {P:Program} {n:Nat} (id:Nat) {ops:List Oper} {x:Nat×Nat×Nat} {F:Tr A} {h:H} {ds:List Nat} {U:Fp} {K:Tr A→H→List Nat→Fp→Option β} {r:β} (hd:Mu ops=some x) (hr:UN n x F h ds U K=some r) :
  ∃F' iW,K F' h iW U=some r∧Kp (pY ops) F F'∧∀S0 g0 w0 Q S2,Q .normal (fH n F' iW S2)→pw P none S0 g0 w0 (.region id ops.toArray false) Q (fH n F ds S2):=by
 obtain ⟨s,a,f⟩:=x
 obtain ⟨o1,o2,c,rfl,e1,e2,e3,e4,e5,e6,e7,e8⟩:=Lu hd
 simp only at e1 e2 e7 e8
 unfold UN at hr
 simp only at hr
 split at hr
 ·rename_i q off hs
  obtain ⟨hq,KU⟩:=ah hr
  clear hr
  simp only [zC] at hq
  have h0:=beq_eq hq.1.1.1
  have hq0:=a_ hq.1.1.2
  have E8:=a_ hq.1.2
  have han:=a_ hq.2
  subst h0
  obtain ⟨_,F1,hr,Dp⟩:=bt KU
  have pT:∀S2:Hp,(fH n F ds S2).put (some a) (.ptr q 0)=fH n F1 ds S2:=fun S2=>by
   simp only [St.put,fH]
   congr 1
   funext i
   simp only [bf,Dp]
   by_cases hi:i=a
   ·rw [if_pos hi,if_pos hi]
   ·rw [if_neg hi,if_neg hi]
  refine ⟨F1,_,hr,?_,fun S0 g0 w0 Q S2 hQ=>sD (vj (pv:=.ptr q 0) (S':=S2) 0 e3 ?_ ?_)⟩
  ·intro i hi
   have hi:i≠a:=fun hh=>hi (by subst hh;simp [pY,e2,e6])
   simp only [bf,Dp,if_neg hi]
  ·have e:(fH n F ds S2).uO 0 (.tmp s) = .ptr q 0:=(show (if s<n then bf F.get s else A.cI)=_ from (if_pos E8).trans hs)
   have:=vt (P:=P) (S:=S2) (ρ:=(fH n F ds S2).uO 0) e1
   rw [e] at this
   exact this.Je (by rw [e1];intro c e;cases e)
  ·intro act w hR
   rw [e2,pT] at hR
   have hR:R S0 g0 w0 (fH n F1 ds S2) act w:=hR
   obtain ⟨g,h0,h1,h2,h3,h4⟩:=hR
   refine wpListIn_plain e5 (fun K hK=>⟨fun _ _=>trivial,?_⟩)
   have hv:=h4 a (show a<n from han)
   have hv:V g (bf F1.get a) (act.tmps.getD a undef):=hv
   rw [show bf F1.get a = .ptr q 0 by simp only [bf,Dp,if_pos]] at hv
   have eQ:(Oper.semAt (FR none).round act.eval o2).run P w = .ok (.defer (xN (q+16777216*(f+1)) (act.tmps.getD a undef))) w:=by
    show (execOp act.eval o2).run P w=_
    have ed:(q+16777216*(f+1)) / 16777216-1=f:=by omega
    obtain ⟨cal,args,tys⟩:=c
    simp only at e7 e8
    subst e7
    have ea:args = #[.tmp a]:=by apply Array.ext';simpa using e8
    subst ea
    simp [execOp,e4,resolve,xN,ed,Act.eval,Deferred.ofValue]
   rw [eQ]
   refine hK _ _ ?_
   rw [e6]
   refine ⟨fH n F1 ((q+16777216*(f+1))::ds) S2,⟨g,h0,h1,⟨?_,fun i d e k1 k2=>?_⟩,h3,h4⟩,hQ⟩
   ·have:=h2.1;simp only [fH,Act.put,zR] at this ⊢;omega
   ·cases i with
    | zero=>
     simp [fH,Act.put] at k1 k2
     subst k1 k2
     refine ⟨fun hd=>absurd hd (by omega),fun _=>⟨_,?_,rfl⟩⟩
     rw [show (q+16777216*(f+1))%16777216=q by omega]
     simpa using hv
    | succ i=>exact h2.2 i d e (by simpa [fH] using k1) (by simpa [Act.put] using k2)
 ·cases hr
theorem iJ {inr:Bool} {dr:MA β} (hE:bW P E) (hx:ld P cx) (se:Bw P n dr):∀(c:ay) (F:Tr A) (h:H) (ds:List Nat) (U:Fp) (K:KC β),si E cx inr n dr c F h ds U K=some r →
  ∃e F' h' iW T,K e F' h' iW (U.cat T)=some r∧Kp (mA c) F F'∧HJ P inr n c.code F h ds e F' h' iW T
 | .skip,F,h,ds,U,K,hr=>⟨.normal,F,h,ds,.no,by rw [Fp.rD];exact hr,.refl _ F,.refl h,fun ro kT S0 g0 w0 S2 hA Q hq=>by rw [qQ] at hq;exact FM hq⟩
 | .ret,F,h,ds,U,K,hr=>⟨.ret,F,h,ds,.no,by rw [Fp.rD];exact hr,.refl _ F,.refl h,fun ro kT S0 g0 w0 S2 hA Q hq=>by rw [qQ] at hq;exact Kg hq⟩
 | .exit id,F,h,ds,U,K,hr=>⟨.exit id,F,h,ds,.no,by rw [Fp.rD];exact hr,.refl _ F,.refl h,fun ro kT S0 g0 w0 S2 hA Q hq=>by rw [qQ] at hq;exact FN hq⟩
 | .bad _,F,h,ds,U,K,hr=>by cases hr
 | .region id ops d,F,h,ds,U,K,hr=>by
  cases d with
  | true=>
   obtain ⟨F',h',T,k1,kp,k2⟩:=se id ops F h U _ r hr
   exact ⟨.normal,F',h',ds,T,k1,kp,k2 inr ds⟩
  | false=>
   have hr:(match Mu ops with
    | some x=>bif inr then none else UN n x F h ds U (fun F h ds U=>K .normal F h ds U)
    | none=>ve E cx n ops ops F h U (fun F h U=>K .normal F h ds U))=some r:=hr
   cases Xb:Mu ops with
   | some x=>
    rw [Xb] at hr
    cases inr with
    | true=>cases hr
    | false=>
     obtain ⟨F',iW,k1,kp,k3⟩:=Lv (P:=P) id Xb hr
     exact ⟨.normal,F',h,iW,.no,by rw [Fp.rD];exact k1,kp,.refl h,fun ro kT S0 g0 w0 S2 hA Q hq=>by
      rw [qQ] at hq
      obtain rfl:=kT rfl
      exact k3 S0 g0 w0 Q S2 hq⟩
   | none=>
   rw [Xb] at hr
   obtain ⟨F',h',T,k1,kp,k2,k3⟩:=tu hE hx ops F h U _ hr
   exact ⟨.normal,F',h',ds,T,k1,kp,k2,fun ro kT S0 g0 w0 S2 hA Q hq=>sD (k3 ro S0 g0 w0 ds S2 hA Q hq)⟩
 | .seq x y,F,h,ds,U,K,hr=>by
  obtain ⟨e,F1,h1,mu,T1,k1,kp,k2,k3⟩:=iJ hE hx se x F h ds U _ hr
  cases e with
  | normal=>
   obtain ⟨e,F2,h2,zc,T2,q1,qp,q2,q3⟩:=iJ hE hx se y F1 h1 mu _ K k1
   refine ⟨e,F2,h2,zc,T1.cat T2,by rw [←Fp.jK];exact q1,kp.trans qp (fun i hi=>zQ _ hi) (fun i hi=>zS _ hi),k2.trans q2,fun ro kT S0 g0 w0 S2 hA Q hq=>?_⟩
   refine tA (k3 ro kT S0 g0 w0 S2 hA.left _ ?_)
   refine q3 ro kT S0 g0 w0 _ (Agree.right k2 hA) Q ?_
   rw [gV q2];exact hq
  | _=>exact ⟨_,F1,h1,mu,T1,k1,kp.mono (fun i hi=>zQ _ hi),k2,fun ro kT S0 g0 w0 S2 hA Q hq=>tA (k3 ro kT S0 g0 w0 S2 hA _ hq)⟩
 | .cut J x y,F,h,ds,U,K,hr=>by
  have hr:(match Hh J F h with | some e=>_ | none=>none)=some r:=hr
  split at hr
  ·rename_i En Rb
   obtain ⟨ho,hr⟩:=ah hr
   have EO:=wk ho
   have hv:∀i,i∈J.np.map (·.1)++J.grow.map (·.1)→i∈mA x++(J.np.map (·.1)++J.grow.map (·.1)):=fun i hi=>zS _ hi
   obtain ⟨e1,F1,h1,mu,T1,k1,kp,k2,k3⟩:=iJ hE hx se x F h ds .no _ (show si E cx inr n dr x F h ds .no _=some r from (gE _ _).symm.trans hr)
   rw [Fp.pf] at k1
   rcases vI k1 with ⟨rfl,s,q1,q2⟩ | ⟨j_,q1⟩
   ·obtain ⟨Fc,hc,u1,u2⟩:=vM q2
    obtain ⟨e,F2,h2,zc,T2,u3,u4,u5,u6⟩:=iJ hE hx se y Fc hc ds .no _ u1
    rw [Fp.pf] at u3
    have u3:K e F2 h2 zc ((U.cat (jT J h.aQ En)).cat T2)=some r:=u3
    refine ⟨e,F2,h2,zc,(jT J h.aQ En).cat T2,by rw [←Fp.jK];exact u3,(xn u2 hv).trans u4 (fun i hi=>zQ _ hi) (fun i hi=>zS _ hi),(Dk EO u2).trans u5,fun ro kT S0 g0 w0 S2 hA Q hq=>?_⟩
    obtain ⟨l,m,w,ej⟩:=Dh J h.aQ En T2
    rw [ej] at hA hq
    rw [yr] at hq
    rw [all_eq hA]
    intro a w hR
    obtain ⟨oA,hf⟩:=hR.entry
    refine tA (k3 ro kT S0 g0 w0 (hp h) Agree.self _ ?_) a w hR
    rw [qd k2]
    intro a1 w1 Xl
    refine u6 ro kT S0 g0 w0 (hp hc) Agree.self Q ?_ a1 w1 (JE EO u2 (kp.mono (fun i hi=>zQ _ hi)) k2 q1 oA hf Xl)
    rw [qd u5];exact hq
   ·refine ⟨e1,F1,h1,mu,T1,q1,kp.mono (fun i hi=>zQ _ (zQ _ hi)),k2,fun ro kT S0 g0 w0 S2 hA Q hq=>tA (k3 ro kT S0 g0 w0 S2 hA _ ?_)⟩
    cases e1 with
    | normal=>exact absurd rfl j_
    | _=>exact hq
  ·cases hr
 | .cond c x y,F,h,ds,U,K,hr=>by
  obtain ⟨F1,b,k1,k2,k3⟩:=Hn hr
  cases b with
  | true=>
   obtain ⟨e,F2,h2,zc,T2,q1,qp,q2,q3⟩:=iJ hE hx se x F1 h ds U K k1
   refine ⟨e,F2,h2,zc,T2,q1,(Kp.of (l:=[]) k2).trans qp (fun i hi=>by cases hi) (fun i hi=>zQ _ hi),q2,fun ro kT S0 g0 w0 S2 hA Q hq=>?_⟩
   refine yo (b:=true) (by rw [←pb];exact k3) (fun _=>?_) (fun h=>by cases h)
   rw [←k2]
   exact q3 ro kT S0 g0 w0 S2 hA Q hq
  | false=>
   obtain ⟨e,F2,h2,zc,T2,q1,qp,q2,q3⟩:=iJ hE hx se y F1 h ds U K k1
   refine ⟨e,F2,h2,zc,T2,q1,(Kp.of (l:=[]) k2).trans qp (fun i hi=>by cases hi) (fun i hi=>zS _ hi),q2,fun ro kT S0 g0 w0 S2 hA Q hq=>?_⟩
   refine yo (b:=false) (by rw [←pb];exact k3) (fun h=>by cases h) (fun _=>?_)
   rw [←k2]
   exact q3 ro kT S0 g0 w0 S2 hA Q hq
 | .block id x,F,h,ds,U,K,hr=>by
  obtain ⟨e,F1,h1,mu,T1,k1,kp,k2,k3⟩:=iJ hE hx se x F h ds U _ hr
  cases e with
  | exit i=>
   have kk:(bif Nat.beq i id then K .normal F1 h1 mu (U.cat T1) else K (.exit i) F1 h1 mu (U.cat T1))=some r:=k1
   cases hb:Nat.beq i id with
   | true=>
    rw [hb] at kk
    obtain rfl:=beq_eq hb
    refine ⟨.normal,F1,h1,mu,T1,kk,kp,k2,fun ro kT S0 g0 w0 S2 hA Q hq=>qN (k3 ro kT S0 g0 w0 S2 hA _ ?_)⟩
    show (if i=i then Q .normal _ else _)
    rw [if_pos rfl];exact hq
   | false=>
    rw [hb] at kk
    refine ⟨.exit i,F1,h1,mu,T1,kk,kp,k2,fun ro kT S0 g0 w0 S2 hA Q hq=>qN (k3 ro kT S0 g0 w0 S2 hA _ ?_)⟩
    show (if i=id then _ else Q (.exit i) _)
    rw [if_neg (fun e=>by rw [e,Nat.beq_refl] at hb;cases hb)];exact hq
  | _=>exact ⟨_,F1,h1,mu,T1,k1,kp,k2,fun ro kT S0 g0 w0 S2 hA Q hq=>qN (k3 ro kT S0 g0 w0 S2 hA _ hq)⟩
 | .loop J x,F,h,ds,U,K,hr=>by
  have hr:(match yc J with | some m=>_ | none=>(match Hh J F h with | some e=>_ | none=>none))=some r:=hr
  split at hr
  ·rename_i m _
   obtain ⟨e,F',h',iW,T,u2,u3,u4,u5⟩:=BT (P:=P) (fun F h ds U K hr=>iJ hE hx se x F h ds U K hr) m F h ds U hr
   exact ⟨e,F',h',iW,T,u2,u3.mono (fun i hi=>zQ _ hi),u4,fun ro kT S0 g0 w0 S2 hA Q hq a w hR=>wpIn_loop_rounds m (u5 ro kT S0 g0 w0 S2 hA Q hq a w hR)⟩
  split at hr
  ·rename_i En Rb
   obtain ⟨ho,hr⟩:=ah hr
   split at hr
   ·rename_i s0 hs0
    have EO:=wk ho
    have hv:∀i,i∈J.np.map (·.1)++J.grow.map (·.1)→i∈mA x++(J.np.map (·.1)++J.grow.map (·.1)):=fun i hi=>zS _ hi
    obtain ⟨Fc,hc,u1,e,F',h',iW,T,u2,u3,u4,u5⟩:=yB (P:=P) (fun F h ds U K hr=>iJ hE hx se x F h ds U K hr) EO hv (fun i hi=>zQ _ hi) lQ s0 ((qf _ _).symm.trans hr)
    refine ⟨e,F',h',iW,_,u2,u3,u4,fun ro kT S0 g0 w0 S2 hA Q hq=>?_⟩
    obtain ⟨l,m,w,ej⟩:=Dh J h.aQ En T
    rw [ej] at hA hq
    rw [yr] at hq
    rw [all_eq hA]
    intro a w hR
    obtain ⟨oA,hf⟩:=hR.entry
    exact wpIn_loop_rounds lQ (u5 ro kT S0 g0 w0 oA hf Q hq a w (JE (T1:=.no) EO u1 (.refl _ F) (.refl h) hs0 oA hf hR))
   ·cases hr
  ·cases hr
 | .range g ps J aa bd,F,h,ds,U,K,hr=>by
  have hr:(bif inr then none else _)=some r:=hr
  obtain ⟨W4,hr⟩:=iY hr
  split at hr
  ·rename_i f fi ca hf
   obtain ⟨hn,hr⟩:=ah hr
   have hn:=a_ hn
   obtain ⟨_,t1,hr,QQ⟩:=bt hr
   obtain ⟨_,t2,hr,Wx⟩:=bt hr
   obtain ⟨pv,h3,T3,hr,k2⟩:=hx.call β f _ _ _ r hr
   split at hr
   ·rename_i st pe h3q
    obtain ⟨hb,hr⟩:=iY hr
    obtain ⟨_,t4,hr,ht4⟩:=bt hr
    split at hr
    ·rename_i e hj
     obtain ⟨f1,v1⟩:=yz (h:=h) (x:=.cN .zd) (by omega) QQ
     obtain ⟨f2,v2⟩:=yz (h:={ h with t:=t1,aQ:=h.aQ+1 }) (x:=.cN (.loop .ready none)) (show h.aQ+1<16777216 by omega) Wx
     have f3:nM { h with t:=t2,aQ:=h.aQ+1+1 } h3 T3:=⟨k2.out,k2.rd⟩
     obtain ⟨f4,v4⟩:=ze (h:=h3) (q:=h.aQ+1) (by omega) ht4
     have f12:=f1.trans f2
     have f34:=f3.trans f4
     refine ⟨e,F,{ h3 with t:=t4 },h.aQ::ds,_,hr,.refl _ F,f12.trans f34,fun ro kT S0 g0 w0 S2 hA Q hq=>?_⟩
     obtain rfl:=kT W4
     have DN:=hA.left
     have xy:=Agree.right f12 hA
     rw [←gV f34,←gV f4] at hq
     rw [←gV f2] at xy hq
     have A1:=DN.left
     have A2:=Agree.right f1 DN
     have A3:=xy.left
     have A4:=Agree.right f3 xy
     have GW:S2.fr h.aQ:=(A1 h.aQ (aB (o:=h.aQ) (by omega) (.head _))).2.2 (by show (if h.aQ<cJ then h.aQ≤h.aQ else _);rw [if_pos (show h.aQ<cJ by unfold cJ;omega)];exact Nat.le_refl _)
     have Q5:(iS (.wr [dq h.aQ]) (hp { h with t:=t1,aQ:=h.aQ+1 }) S2).fr (h.aQ+1):=(A2 (h.aQ+1) (aB (o:=h.aQ+1) (by omega) (.head _))).2.2 (by show (if h.aQ+1<cJ then h.aQ+1≤h.aQ+1 else _);rw [if_pos (show h.aQ+1<cJ by unfold cJ;omega)];exact Nat.le_refl _)
     have vS:=zn (x:=.cN (.loop st pe)) (by omega) h3q A4 (.head _)
     rw [v2 _ A2] at A3 A4 vS hq
     rw [v4 _ A4] at hq
     rw [v1 _ A1] at Q5 A3 A4 vS hq
     rintro a w ⟨gg,hI,hxx,hd,hs,hv⟩
     have hI:Inv gg S2 w:=hI
     have hs:a.tmps.size=n:=hs
     refine wpIn_rangeFunc (fun fn _=>?_)
     obtain ⟨i1,x1⟩:=hI.alloc (s:=(0,0)) GW (x:=.cN .zd) (ob:=.deferred (some [])) ⟨_,heap_alloc_new w _,rfl⟩
     have q1:=cn (g:=gg) (o:=h.aQ) (p:=(some w.heap.size,(0,0)))
     generalize jB gg h.aQ (some w.heap.size,(0,0))=g1 at i1 x1 q1
     obtain ⟨rr,Dq⟩:∃rr:Loop,rr={ state:=.ready,pending:=none,fn,tmps:=a.tmps,params:=ps.toArray,assign:=aa.code,body:=bd.code,defers:=w.heap.size }:=⟨_,rfl⟩
     obtain ⟨g2,i2,x2,q2,l2⟩:=i1.Qz Q5 rr
     have oV:(w.alloc (.deferred (some []))).heap.size=w.heap.size+1:=Array.size_push _
     rw [oV] at q2 l2
     have hu:=wE (st:=fH n F ds S2) hs hv 0 g
     rw [←pb,hf] at hu
     generalize hev:a.eval g=u at hu
     cases hu with
     | fn _ _ _ fv cv K3 Mq h1 h2=>
     obtain ⟨w1,Jq⟩:∃w1,w1=(w.alloc (.deferred (some []))).alloc (.loop rr):=⟨_,rfl⟩
     rw [←Jq] at i2 x2
     rw [show rr.state = .ready by rw [Dq],show rr.pending=none by rw [Dq]] at i2 x2
     refine ⟨w.heap.size+1,[{ target:=.collected w.heap.size,args:=#[] }],w1,{ target:=.fn (.func f) cv,args:=fv ++ #[.func (.yield (w.heap.size+1)) #[] #[]] },w1,f,(fv.toList ++ .func (.yield (w.heap.size+1)) #[] #[]::cv.toList).toArray,w1,?_,?_,fun f' _=>trivial,?_,fun h=>by simp [FR,Fence.wide] at h,rE ?_⟩
     ·rw [Jq,Dq];exact run_enterLoop_outer fn a.tmps ps.toArray aa.code bd.code
     ·simp only [resolve,hev,Deferred.ofValue,Sem.run_pure]
      congr 3
      simp [Act.eval]
     ·have h2:=k2.fn.run ((fv.toList ++ .func (.yield (w.heap.size+1)) #[] #[]::cv.toList).toArray) w1
      simp only [invoke]
      rw [show fv ++ #[.func (.yield (w.heap.size+1)) #[] #[]]++cv=(fv.toList ++ .func (.yield (w.heap.size+1)) #[] #[]::cv.toList).toArray by apply Array.ext';simp]
      exact h2
     ·have hle:=x1.le.trans x2.le
      refine (k2.ok _ A3 g2 w1 (fv.toList ++ .func (.yield (w.heap.size+1)) #[] #[]::cv.toList) i2 (by simp [K3,Mq]) (QE (by simp [K3]) (fun i c x e1 e2=>(h1 i c x e1 (by simpa using e2)).mono hle)
       (.rL _ n F ps J aa bd _ _ _ q2 l2 (by rw [Dq];rfl) (by rw [Dq];rfl) (by rw [Dq];rfl) (by rw [Dq];exact hs) (fun i hi=>by rw [Dq];exact (hv i hi).mono hle)) (fun i c x e1 e2=>(h2 i c x e1 (by simpa using e2)).mono hle))).mono ?_
      rintro e1 w3 ⟨v,g3,rfl,_,i3,x3⟩
      obtain ⟨b3,s3,ob3,k1,oU,k3⟩:=i3.cN (h.aQ+1) _ vS
      have hb3:=x3.le.bm _ _ q2
      rw [k1] at hb3
      obtain ⟨rfl,rfl⟩:b3=w.heap.size+1∧s3=(0,0):=by simpa using hb3
      obtain ⟨r3,rfl,r1,r2⟩:=k3
      have xv:=run_endLoop (P:=P) oU (by rw [r1];intro hh;rw [hh] at hb;cases hb)
      obtain ⟨i4,x4⟩:=i3.Ca (zx:=.exhausted) (Ki:=r3.pending) vS k1 oU
      have vV:∀(S:Hp) o ob,(S.del (h.aQ+1)).ob o=some ob→(S.set (h.aQ+1) (.cN (.loop .exhausted r3.pending))).ob o=some ob:=fun S o ob e=>by
       have e:(if o=h.aQ+1 then none else S.ob o)=some ob:=e
       show (if o=h.aQ+1 then _ else S.ob o)=some ob
       by_cases ho:o=h.aQ+1
       ·rw [if_pos ho] at e;cases e
       ·rw [if_neg ho] at e;rw [if_neg ho];exact e
      have i4:=i4.less (vV _) (fun _ e=>e)
      have x4:=x4.trans (Ext.less (vV _) (fun _ e=>e))
      have xp:=((x1.trans (Jq▸x2)).trans x3).trans x4
      have hR:∀S5,Inv g3 S5 (w3.putObj (w.heap.size+1) (.loop { r3 with state:=.exhausted,pending:=r3.pending }))→Ext S2 gg w S5 g3 (w3.putObj (w.heap.size+1) (.loop { r3 with state:=.exhausted,pending:=r3.pending }))→R S0 g0 w0 (fH n F (h.aQ::ds) S5) { a with defers:=[{ target:=.collected w.heap.size,args:=#[] }]++a.defers } (w3.putObj (w.heap.size+1) (.loop { r3 with state:=.exhausted,pending:=r3.pending })):=by
       intro S5 i4 xp
       refine ⟨g3,i4,hxx.trans xp,⟨by have:=hd.1;simp [fH] at this ⊢;exact this,fun i d el e1 e2=>?_⟩,hs,fun i hi=>(hv i hi).mono xp.le⟩
       cases i with
       | zero=>
        simp [fH] at e1 e2;subst e1 e2
        exact ⟨fun _=>⟨w.heap.size,(0,0),(x2.le.trans x3.le).bm _ _ q1,rfl⟩,fun hd=>absurd hd (by omega)⟩
       | succ i=>exact (hd.mono xp.le).2 i d el (by simpa [fH] using e1) (by simpa using e2)
      have hR:=hR _ i4 xp
      have xv:(Instr.endLoop (w.heap.size+1)).run P w3 = .ok r3.pending (w3.putObj (w.heap.size+1) (.loop { r3 with state:=.exhausted,pending:=r3.pending })):=xv
      generalize w3.putObj (w.heap.size+1) (.loop { r3 with state:=.exhausted,pending:=r3.pending })=w4 at hR xv
      refine ⟨r3.pending,_,xv,?_⟩
      rw [r2]
      rcases Dd hj with ⟨h5,h6⟩ | ⟨h5,h6⟩ | ⟨id,h5,h6⟩
      ·rw [h6] at hq;rw [h5];exact ⟨_,hR,hq⟩
      ·rw [h6] at hq;rw [h5];exact wpIn_ret ⟨_,hR,hq⟩
      ·rw [h6] at hq;rw [h5];exact wpIn_exit ⟨_,hR,hq⟩
    ·cases hr
   ·cases hr
  ·cases hr
end
end
section
open Go.RowKit
abbrev JW:=(β:Type)→MA β
def sX:Nat→List A→Option (Tr A)
 | _,[]=>some .nil
 | i,p::ps=>match sX (i+1) ps with
  | some F=>Ms p (fun p=>ff F i (some p) some)
  | none=>none
def rT {β:Type} (E:Env) (n:Nat) (F:Tr A) (h:H):List ResultVar→(List A→List Nat→Option β)→Option β
 | [],k=>k [] []
 | .tmp i::r,k=>bif Nat.blt i n then rT E n F h r (fun ps l=>k (bf F.get i::ps) l) else none
 | .cell a T::r,k=>bif Nat.blt a n then KJ E T (bf F.get a) h (fun v _ T1=>rT E n F h r (fun ps l=>k (v::ps) (T1.rs++l))) else none
def wq {β:Type}:Tr gw→List Nat→(Tr gw→Option β)→Option β
 | t,[],k=>k t
 | t,d::ds,k=>match t.get d with
  | some (.cN .zd)=>bif Nat.blt d 16777216 then ff t d none (fun t=>wq t ds k) else none
  | _=>none
def yH:Exit→Bool
 | .normal=>true
 | .ret=>true
 | _=>false
abbrev FT:=Nat→Option (Func×ay)
structure aN (P:Program) (f:Nat) (fn:Func) (x:ay):Prop where
 bm:P.funcs[f]?=some fn
 body:fn.body=some x.code
 name : (fn.name == "runtime.NumGoroutine") = false
def wI (P:Program) (fns:FT):Prop:=∀f fn x,fns f=some (fn,x)→aN P f fn x
def Lt (E:Env) (fns:FT) (dr:Cx→Nat→JW) (cx:Cx) {β:Type} (fn:Func) (F:Tr A) (h:H) (ds:List Nat) (U:Fp) (K:A→H→Fp→Option β):Option β:=match ds with
 | []=>rT E fn.ntmps F h fn.results.toList (fun ps l=>K (w_ ps) h (U.cat (.rd l)))
 | [d]=>bif Nat.ble 16777216 d then (match fns (d / 16777216-1) with
  | some (gn,x)=>match sX 0 [.ptr (d%16777216) 0],fn.results.toList,gn.results.toList with
   | some G,[],[]=>bif Nat.ble 1 gn.ntmps then si E cx false gn.ntmps (dr cx gn.ntmps β) x G h [] U (fun e _ h' iW U'=>bif yH e && iW.isEmpty then K (w_ []) h' U' else none) else none
   | _,_,_=>none
  | none=>none) else wq h.t [d] (fun t'=>rT E fn.ntmps F { h with t:=t' } fn.results.toList (fun ps l=>K (w_ ps) { h with t:=t' } ((U.cat (.wr ([d].map dq))).cat (.rd l))))
 | ds=>wq h.t ds (fun t'=>rT E fn.ntmps F { h with t:=t' } fn.results.toList (fun ps l=>K (w_ ps) { h with t:=t' } ((U.cat (.wr (ds.map dq))).cat (.rd l))))
def Xw (E:Env) (fns:FT) (dr:Cx→Nat→JW) (cx:Cx) (β:Type) (f:FuncId) (aa:List A) (h:H) (K:A→H→Fp→Option β):Option β:=match fns f with
 | some (fn,x)=>match sX 0 aa with
  | some F=>bif Nat.ble aa.length fn.ntmps then si E cx false fn.ntmps (dr cx fn.ntmps β) x F h [] .no (fun e F' h' ds U=>bif yH e then Lt E fns dr cx fn F' h' ds U K else none) else none
  | none=>none
 | none=>none
def J_ (E:Env) (dr:Cx→Nat→JW) (cx:Cx) (β:Type) (y:A) (aa:List A) (h:H) (K:A→H→Fp→Option β):Option β:=match y with
 | .rL q n F ps _ lf bd=>match h.t.get q with
  | some (.cN (.loop .ready _))=>bif Nat.blt q 16777216 then w6 F ps aa (fun F1=>si E cx true n (dr cx n β) lf F1 h [] .no (fun e1 Fa ha mu T1=>match e1 with
   | .normal=>match ha.t.get q with
    | some (.cN (.loop .ready pe))=>ff ha.t q (some (.cN (.loop .busy pe))) (fun t2=>si E cx true n (dr cx n β) bd Fa { ha with t:=t2 } mu .no (fun e2 _ hb _ T2=>match hb.t.get q,Qf e2 with
     | some (.cN (.loop _ _)),some jump=>ff hb.t q (some (.cN (.loop (Cl jump) jump))) (fun t3=>K (.v (.bool jump.isNone)) { hb with t:=t3 } ((T1.cat (.wr [dq q])).cat (T2.cat (.wr [dq q]))))
     | _,_=>none))
    | _=>none
   | _=>none)) else none
  | _=>none
 | _=>none
def wW (E:Env) (fns:FT) (dr:Cx→Nat→JW) (hm:List (Nat×Nat)) (cx:Cx):Cx:=⟨Xw E fns dr cx,hm,J_ E dr cx⟩
def BM (hm:List (Nat×Nat)):Cx:=⟨fun _ _ _ _ _=>none,hm,fun _ _ _ _ _=>none⟩
section
variable {P:Program} {E:Env} {n:Nat}
theorem wC:∀(aa:List A) (i:Nat) (F:Tr A),sX i aa=some F→∀j,bf F.get j=if i≤j then aa.getD (j-i) .un else .un
 | [],i,F,h,j=>by
  cases h
  simp [bf,Tr.get_nil]
 | p::ps,i,F,h,j=>by
  simp only [sX] at h
  split at h
  ·rename_i F1 h1
   have ih:=wC ps (i+1) F1 h1 j
   rw [xI] at h
   obtain ⟨_,F2,hF,hg⟩:=bt h
   cases hF
   have e:bf F.get j=if j=i then p else bf F1.get j:=by
    simp only [bf,hg]
    by_cases hj:j=i
    ·rw [if_pos hj,if_pos hj]
    ·rw [if_neg hj,if_neg hj]
   rw [e,ih]
   by_cases hj:j=i
   ·subst hj;simp
   ·rw [if_neg hj]
    by_cases hk:i≤j
    ·rw [if_pos hk,if_pos (by omega),show j-i=(j-(i+1))+1 by omega,List.getD_cons_succ]
    ·rw [if_neg hk,if_neg (by omega)]
  ·cases h
theorem C4 {P:Program} {T:Nat} {u v:Value} {ad:Addr} {w w':World} {a:Act} {o:Oper} (ho:o.op = .load T (.const u)) (hu:u = .pointer (some ad)) (h:(execOp a.eval o).run P w = .ok (.value v) w'):(loadVar T ad).run P w = .ok v w':=by
 simp only [execOp,ho,Act.eval,hu,Instr.loadAt,Instr.sureAddr,pure_bind] at h
 simp only [Sem.run_bind] at h
 generalize (loadVar T ad).run P w=res at h
 cases res with
 | ok x w1=>
  simp only [Result.andThen_ok,Sem.run_pure,Result.ok.injEq,Next.value.injEq] at h
  obtain ⟨rfl,rfl⟩:=h
  rfl
 | halt x w1=>cases h
theorem GB {β:Type} {E:Env} {T:Nat} {px:A} {h:H} {K:A→H→Fp→Option β} {r:β} (hr:KJ E T px h K=some r) {g:G} {u:Value} (hv:V g px u):∃ad,u = .pointer (some ad):=by
 unfold KJ at hr
 split at hr
 ·split at hr
  ·cases hv;exact ⟨_,rfl⟩
  ·cases hv;exact ⟨_,rfl⟩
  ·cases hv;exact ⟨_,rfl⟩
  ·cases hr
 ·cases hr
theorem qa {β:Type} {r:β} (hE:bW P E) {F:Tr A} {h:H}:∀(Mb:List ResultVar) (k:List A→List Nat→Option β),rT E n F h Mb k=some r →
  ∃ps l,k ps l=some r∧∀S2,Agree (.rd l) (hp h) S2→∀(g:G) (w:World) (tmps:Array Value),Inv g S2 w→(∀i,i<n→V g (bf F.get i) (tmps.getD i undef)) →
   ∃vs:List Value,(Mb.mapM (fun rv=>vb rv tmps)).run P w = .ok vs w∧ps.length=vs.length∧∀(i:Nat) (p:A) (v:Value),ps[i]?=some p→vs[i]?=some v→V g p v
 | [],k,hk=>⟨[],[],hk,fun S2 _ g w tmps _ _=>⟨[],rfl,rfl,by simp⟩⟩
 | .tmp i::Mb,k,hk=>by
  simp only [rT] at hk
  obtain ⟨hi,hk⟩:=ah hk
  obtain ⟨ps,l,k1,k2⟩:=qa hE Mb _ hk
  refine ⟨_,l,k1,fun S2 hA g w tmps hI hv=>?_⟩
  obtain ⟨vs,q1,q2,q3⟩:=k2 S2 hA g w tmps hI hv
  refine ⟨tmps.getD i undef::vs,?_,by simp [q2],fun k q x e1 e2=>?_⟩
  ·have:(vb (.tmp i) tmps).run P w = .ok (tmps.getD i undef) w:=rfl
   rw [List.mapM_cons]
   simp only [Sem.run_bind,this,Result.andThen_ok]
   rw [q1]
   simp only [Result.andThen_ok,Sem.run_pure]
  ·cases k with
   | zero=>
    simp only [List.getElem?_cons_zero,zI] at e1 e2
    subst e1 e2
    exact hv i (a_ hi)
   | succ k=>exact q3 k q x (by simpa using e1) (by simpa using e2)
 | .cell a T::Mb,k,hk=>by
  simp only [rT] at hk
  obtain ⟨hi,hk⟩:=ah hk
  obtain ⟨v,l1,k0,kv⟩:=C5 hE hk
  obtain ⟨ps,l,k1,k2⟩:=qa hE Mb _ k0
  refine ⟨_,_,k1,fun S2 hA g w tmps hI hv=>?_⟩
  have hA:Agree (.rd (l1++l)) (hp h) S2:=hA
  obtain ⟨vs,q1,q2,q3⟩:=k2 S2 (hA.mono fun i hi=>zS _ hi) g w tmps hI hv
  have hva:=hv a (a_ hi)
  obtain ⟨ad,had⟩:=GB hk hva
  obtain ⟨x, u1, u2⟩ := kv S2 (hA.mono fun i hi => zQ _ hi) { dst := none, op := .load T (.const (tmps.getD a undef)), type := 0, pos := "", after := #[], guard := none } (fun _ => bf F.get a) (.const (tmps.getD a undef)) rfl rfl g w { tmps := #[], defers := [] } hI (fun y hy => by
   simp only [Op.operands,Array.mem_singleton] at hy
   subst hy;exact hva)
  have eQ:(vb (.cell a T) tmps).run P w = .ok x w:=by
   have:=C4 rfl had u1
   show (do loadVar T (←asAddr (tmps.getD a undef)):Sem Value).run P w=_
   rw [had]
   exact this
  refine ⟨x::vs,?_,by simp [q2],fun k q y e1 e2=>?_⟩
  ·rw [List.mapM_cons]
   simp only [Sem.run_bind,eQ,Result.andThen_ok]
   rw [q1]
   simp only [Result.andThen_ok,Sem.run_pure]
  ·cases k with
   | zero=>
    simp only [List.getElem?_cons_zero,zI] at e1 e2
    subst e1 e2
    exact u2
   | succ k=>exact q3 k q y (by simpa using e1) (by simpa using e2)
theorem Inv.drop {g:G} {S:Hp} {w:World} (h:Inv g S w) {d b:Nat} {s:Nat×Nat} (ho:S.ob d=some (.cN .zd)) (hg:g.bm d=some (some b,s)) :
  w.heap[b]?=some (.deferred (some []))∧Inv g (S.del d) (w.putObj b (.deferred none))∧Ext S g w (S.del d) g (w.putObj b (.deferred none)):=by
 obtain ⟨b1,s1,ob,k1,k2,k3⟩:=h.cN d _ ho
 rw [hg] at k1
 obtain ⟨rfl,rfl⟩:b=b1∧s=s1:=by simpa using k1
 have k3:ob = .deferred (some []):=k3
 subst k3
 have kB:∀{i x},(S.del d).ob i=some x→i≠d∧S.ob i=some x:=fun {i x} e=>by
  have e:(if i=d then none else S.ob i)=some x:=e
  split at e
  ·cases e
  ·exact ⟨by assumption,e⟩
 have Dx:∀k,k≠b→(w.putObj b (.deferred none)).heap[k]?=w.heap[k]?:=fun k j_=>World.putObj_heap_other j_
 refine ⟨k2,⟨fun i cs e=>?_,fun i x e=>?_,fun i e=>h.fresh i e,fun i b' s' e=>by rw [World.putObj_size];exact h.lt i b' s' e,fun i j x y b1 s1 s2 e1 e2=>h.inj i j _ _ b1 s1 s2 (kB e1).2 (kB e2).2,fun b' i x e=>?_,fun i b' s' j x e k=>h.lr i b' s' j _ (kB e).2 k,fun b' l e=>?_⟩,
  ⟨.refl g,rfl,rfl,rfl,by rw [World.putObj_size];exact Nat.le_refl _,fun k _ hn=>Dx k (fun hh=>hn ⟨d,s,_,ho,by rw [hh];exact hg⟩),fun k ⟨i,s',x,e1,e2⟩=>.inl ⟨i,s',x,(kB e1).2,e2⟩,fun _ _ e=>.inl e,fun _ e=>e,fun _ _ _ e=>.inl e,fun _ _ e=>.inl e⟩⟩
 ·obtain ⟨j_,e⟩:=kB e
  refine (h.cells i cs e).imp id fun ⟨b1,t,q1,cur,ty,q2,q3⟩=>⟨b1,t,q1,cur,ty,?_,q3⟩
  rw [Dx b1 (fun hb=>by subst hb;rw [k2] at q2;cases q2)];exact q2
 ·obtain ⟨j_,e⟩:=kB e
  obtain ⟨b1,s1,o1,q1,q2,q3⟩:=h.cN i x e
  exact ⟨b1,s1,o1,q1,by rw [Dx b1 (fun hb=>by subst hb;exact j_ (h.inj i d _ _ b1 s1 s e ho q1 hg))];exact q2,q3⟩
 ·obtain ⟨cur,ty,fz,q1,q2⟩:=h.mem b' i x e
  exact ⟨cur,ty,fz,by rw [Dx b' (fun hb=>by subst hb;rw [k2] at q1;cases q1)];exact q1,q2⟩
 ·obtain ⟨r,q1,q2⟩:=h.lp b' l e
  exact ⟨r,by rw [Dx b' (fun hb=>by subst hb;rw [k2] at q1;cases q1)];exact q1,q2⟩
theorem wo {β:Type} {r:β} {h:H}:∀(ds:List Nat) (t:Tr gw) (k:Tr gw→Option β),wq t ds k=some r→∃t',k t'=some r∧nM { h with t:=t } { h with t:=t' } (.wr (ds.map dq)) ∧
  ∀(fn:Func) (tmps:Array Value) (Rr:Ending→World→Prop) S2,Agree (.wr (ds.map dq)) (hp { h with t:=t }) S2→∀(g:G) (w:World) (l:List Deferred),Inv g S2 w→nk g ds l →
   (∀w',Inv g (iS (.wr (ds.map dq)) (hp { h with t:=t' }) S2) w'→Ext S2 g w (iS (.wr (ds.map dq)) (hp { h with t:=t' }) S2) g w'→∃v,(results fn tmps).run P w' = .ok v w'∧Rr (.returned v) w')→LeavesInM (FR none) 0 P fn tmps Rr l .returning w
 | [],t,k,hk=>⟨t,hk,⟨fun _ _=>⟨rfl,Iff.rfl⟩,fun _ _=>⟨rfl,Iff.rfl⟩⟩,fun fn tmps Rr S2 hA g w l hI hd K=>by
  obtain rfl:l=[]:=List.length_eq_zero_iff.1 (by have:=hd.1;simpa using this.symm)
  have e:iS (.wr (List.map dq [])) (hp { h with t:=t }) S2=S2:=l9 hA
  rw [e] at K
  exact K w hI (.refl _ g w)⟩
 | d::ds,t,k,hk=>by
  have hk:(match t.get d with | some (.cN .zd)=>_ | _=>none)=some r:=hk
  split at hk
  ·rename_i eY
   obtain ⟨Q_,hk⟩:=ah hk
   have Q_:=a_ Q_
   obtain ⟨_,t1,k1,QQ⟩:=bt hk
   obtain ⟨t',q1,q2,q3⟩:=wo (h:=h) ds t1 k k1
   obtain ⟨f1,v1⟩:=ze (h:={ h with t:=t }) Q_ QQ
   have ec:(Fp.wr [dq d]).cat (.wr (ds.map dq)) = .wr ((d::ds).map dq):=rfl
   have f1:nM { h with t:=t } { h with t:=t1 } (.wr [dq d]):=f1
   refine ⟨t',q1,ec▸f1.trans q2,fun fn tmps Rr S2 hA g w l hI hd K=>?_⟩
   rw [←ec] at hA K
   rw [←gV q2] at K
   have A1:=hA.left
   have A2:=Agree.right f1 hA
   have v1:=v1 S2 A1
   have v1:iS (.wr [dq d]) (hp { h with t:=t1 }) S2=S2.del d:=v1
   rw [v1] at A2 K
   cases l with
   | nil=>have:=hd.1;simp at this
   | cons el l=>
    obtain ⟨b,s,hg,rfl⟩:=(hd.2 0 d el rfl rfl).1 Q_
    obtain ⟨u1,u2,u3⟩:=hI.drop (zn (x:=.cN .zd) Q_ eY A1 (.head _)) hg
    refine ⟨by simp,.inl ⟨b,_,rfl,run_takeDeferred u1,?_⟩⟩
    exact q3 fn tmps Rr _ A2 g _ l u2 ⟨by have:=hd.1;simpa using this,fun i d el e1 e2=>hd.2 (i+1) d el (by simpa using e1) (by simpa using e2)⟩ (fun w' z1 z2=>K w' z1 (u3.trans z2))
  ·cases hk
theorem TL {g:G} {aa:List A} {vs:List Value} {F:Tr A} {N:Nat} (Xp:sX 0 aa=some F) (hl:aa.length=vs.length) (hn:aa.length≤N) (hv:∀(i:Nat) (p:A) (v:Value),aa[i]?=some p→vs[i]?=some v→V g p v) {S2:Hp} {w:World} (hI:Inv g S2 w) :
  R S2 g w (fH N F [] S2) { tmps:=vs.toArray++Array.replicate (N-vs.toArray.size) undef,defers:=[] } w:=by
 have oV:(vs.toArray++Array.replicate (N-vs.toArray.size) undef).size=N:=by simp;omega
 refine ⟨g,hI,.refl _ g w,⟨rfl,fun i d el e1=>by simp [fH] at e1⟩,oV,fun i hi=>?_⟩
 show V g (bf F.get i) ((vs.toArray++Array.replicate (N-vs.toArray.size) undef).getD i undef)
 rw [wC aa 0 F Xp i,if_pos (Nat.zero_le i),Nat.sub_zero,Array.getD_eq_getD_getElem?]
 by_cases hia:i<aa.length
 ·rw [Array.getElem?_append_left (by simp;omega)]
  have h1:aa[i]?=some aa[i]:=zD hia
  have h2 : vs[i]? = some (vs[i]'(by omega)) := zD (by omega)
  have:=hv i _ _ h1 h2
  simpa [List.getD,h1,h2] using this
 ·rw [Array.getElem?_append_right (by simp;omega)]
  have h1:aa[i]?=none:=zb (by omega)
  have h2:(Array.replicate (N-vs.toArray.size) undef)[i-vs.toArray.size]?.getD undef=undef:=by
   cases hx:(Array.replicate (N-vs.toArray.size) undef)[i-vs.toArray.size]? with
   | none=>rfl
   | some x=>
    obtain ⟨dD,nQ⟩:=Array.getElem?_eq_some_iff.1 hx
    rw [←nQ];simp
  rw [h2]
  simp only [List.getD,h1,Option.getD_none]
  exact .un
structure EV (P:Program) (fn:Func) (F:Tr A) (h:H) (ds:List Nat) (h':H) (T:Fp) (pv:A):Prop where
 fr:nM h h' T
 ok:∀S2,Agree T (hp h) S2→∀(g:G) (w:World) (a:Act),Inv g S2 w→nk g ds a.defers→(∀i,i<fn.ntmps→V g (bf F.get i) (a.tmps.getD i undef)) →
  LeavesInM (FR none) 0 P fn a.tmps (fun e w2=>∃v g',e = .returned v∧V g' pv v∧Inv g' (iS T (hp h') S2) w2∧Ext S2 g w (iS T (hp h') S2) g' w2) a.defers .returning w
theorem Ea (hE:bW P E) {β:Type} {fn:Func} {F':Tr A} {h':H} {iW:List Nat} {U:Fp} {K:A→H→Fp→Option β} {r:β}
  (k1:wq h'.t iW (fun t'=>rT E fn.ntmps F' { h' with t:=t' } fn.results.toList (fun ps l=>K (w_ ps) { h' with t:=t' } ((U.cat (.wr (iW.map dq))).cat (.rd l))))=some r) :
  ∃pv h2 T,K pv h2 (U.cat T)=some r∧EV P fn F' h' iW h2 T pv:=by
 obtain ⟨t',k5,k6,k7⟩:=wo (P:=P) (h:=h') iW h'.t _ k1
 obtain ⟨ps,l,k8,k9⟩:=qa (P:=P) hE _ _ k5
 have f3:nM { h' with t:=t' } { h' with t:=t' } (.rd l):=⟨fun _ _=>⟨rfl,Iff.rfl⟩,fun _ _=>⟨rfl,Iff.rfl⟩⟩
 have k6:nM h' { h' with t:=t' } (.wr (iW.map dq)):=k6
 refine ⟨_,_,(Fp.wr (iW.map dq)).cat (.rd l),by rw [←Fp.jK];exact k8,k6.trans f3,fun S2 hA g w a hI hd hv=>?_⟩
 have A2:Agree (.wr (iW.map dq)) (hp h') S2:=hA.left
 have A3:=Agree.right k6 hA
 rw [←gV f3,l9 A3]
 refine k7 fn a.tmps _ _ A2 g w a.defers hI hd (fun w2 i2 x2=>?_)
 obtain ⟨us,u1,u2,u3⟩:=k9 _ A3 g w2 a.tmps i2 hv
 have eQ:=ke (P:=P) (fn:=fn) u1
 refine ⟨_,eQ,_,g,rfl,?_,i2,x2⟩
 match ps,us,u2,u3 with
 | [p],[u],_,u3=>exact u3 0 p u rfl rfl
 | [],[],_,_=>exact .jt [] #[] rfl (by simp)
 | p::q::ps,u::v::us,u2,u3=>
  rw [dif_neg (by simp)]
  exact .jt _ _ (by simpa using u2) (fun i c x e1 e2=>u3 i c x e1 (by simpa using e2))
theorem Ls (hE:bW P E) {β:Type} {fn:Func} {F':Tr A} {h':H} {U:Fp} {K:A→H→Fp→Option β} {r:β}
  (k1:rT E fn.ntmps F' h' fn.results.toList (fun ps l=>K (w_ ps) h' (U.cat (.rd l)))=some r) :
  ∃pv h2 T,K pv h2 (U.cat T)=some r∧EV P fn F' h' [] h2 T pv:=by
 obtain ⟨ps,l,k8,k9⟩:=qa (P:=P) hE _ _ k1
 have f3:nM h' h' (.rd l):=⟨fun _ _=>⟨rfl,Iff.rfl⟩,fun _ _=>⟨rfl,Iff.rfl⟩⟩
 refine ⟨_,_,.rd l,k8,f3,fun S2 hA g w a hI hd hv=>?_⟩
 rw [l9 hA]
 have sN:a.defers=[]:=List.length_eq_zero_iff.1 (by have:=hd.1;simpa using this.symm)
 rw [sN]
 obtain ⟨us,u1,u2,u3⟩:=k9 _ hA g w a.tmps hI hv
 have eQ:=ke (P:=P) (fn:=fn) u1
 refine ⟨_,eQ,_,g,rfl,?_,hI,.refl _ g w⟩
 match ps,us,u2,u3 with
 | [p],[u],_,u3=>exact u3 0 p u rfl rfl
 | [],[],_,_=>exact .jt [] #[] rfl (by simp)
 | p::q::ps,u::v::us,u2,u3=>
  rw [dif_neg (by simp)]
  exact .jt _ _ (by simpa using u2) (fun i c x e1 e2=>u3 i c x e1 (by simpa using e2))
theorem Hi (hE:bW P E) {fns:FT} (hF:wI P fns) {dr:Cx→Nat→JW} {cx:Cx} (hx:ld P cx) (se:∀n β,Bw P n (dr cx n β)) {β:Type} {fn:Func} {F':Tr A} {h':H} {iW:List Nat} {U:Fp} {K:A→H→Fp→Option β} {r:β}
  (k1:Lt E fns dr cx fn F' h' iW U K=some r):∃pv h2 T,K pv h2 (U.cat T)=some r∧EV P fn F' h' iW h2 T pv:=by
 unfold Lt at k1
 split at k1
 ·exact Ls hE k1
 ·rename_i d
  cases hb:Nat.ble 16777216 d with
  | false=>rw [hb] at k1;exact Ea hE k1
  | true=>
   rw [hb] at k1
   have hb:=Nat.le_of_ble_eq_true hb
   simp only [cond_true] at k1
   split at k1
   ·rename_i gn x hg
    have Q4:=hF _ gn x hg
    split at k1
    ·rename_i Gt hGa KU WH
     obtain ⟨hn,k1⟩:=ah k1
     have hn:=Nat.le_of_ble_eq_true hn
     obtain ⟨e,F2,h2,zc,T,k2,_,k3,k4⟩:=iJ hE hx (se gn.ntmps β) x Gt h' [] _ _ k1
     obtain ⟨k5,k6⟩:=ah k2
     clear k2
     simp only [zC] at k5
     obtain rfl:zc=[]:=by simpa using k5.2
     refine ⟨_,_,T,k6,k3,fun S2 hA g w a hI hd hv=>?_⟩
     match aek:a.defers,hd with
     | [el],hd=>
      obtain ⟨v,v1,v2⟩:=(hd.2 0 d el rfl rfl).2 hb
      subst v2
      refine ⟨by simp,.inr ⟨fun h=>by simp [FR,Fence.wide] at h,.func (d / 16777216-1),#[],d / 16777216-1,#[v],rfl,?_,fun _ _=>trivial,?_⟩⟩
      ·have W8:uK P (d / 16777216-1):=⟨gn,Q4.bm,Q4.name,by rw [Q4.body];rfl⟩
       show (callFunc (d / 16777216-1) (#[v] ++ #[])).run P w=_
       exact W8.run _ w
      ·refine CallsDIn.mono (callsDIn_of_wp (R:=fun e w2=>e = .returned (.tuple #[])∧∃g',Inv g' (iS T (hp h2) S2) w2∧Ext S2 g w (iS T (hp h2) S2) g' w2) Q4.bm Q4.body trivial ?_) ?_
       ·have d0:=k4 none (fun _=>rfl) S2 g w S2 hA (fun e1 st=>e1=e∧st=fH gn.ntmps F2 [] (iS T (hp h2) S2)) ⟨rfl,rfl⟩
        have Xm:=TL (g:=g) (vs:=[v]) hGa rfl (by simpa using hn) (fun i p u e1 e2=>by
         cases i with
         | zero=>cases e1;cases e2;exact v1
         | succ i=>cases e1) hI
        refine wpIn_mono (d0 _ w Xm) ?_
        rintro e1 a2 w2 ⟨st,hR,rfl,rfl⟩
        obtain ⟨g1,i1,x1,d1,s1,_⟩:=hR
        have sN:a2.defers=[]:=List.length_eq_zero_iff.1 (by have:=d1.1;simpa [fH] using this.symm)
        have GM:(results gn a2.tmps).run P w2 = .ok (.tuple #[]) w2:=by
         have:=ke (P:=P) (fn:=gn) (tmps:=a2.tmps) (vs:=[]) (w:=w2) (by rw [WH];rfl)
         exact this
        cases e1 with
        | normal=>exact ⟨sN,_,GM,rfl,g1,i1,x1⟩
        | ret=>exact ⟨sN,_,GM,rfl,g1,i1,x1⟩
        | _=>exact absurd k5.1 (by simp [yH])
       ·rintro e1 u' w2 ⟨rfl,rfl,g',i1,x1⟩
        have GM:(results fn a.tmps).run P w2 = .ok (.tuple #[]) w2:=by
         have:=ke (P:=P) (fn:=fn) (tmps:=a.tmps) (vs:=[]) (w:=w2) (by rw [KU];rfl)
         exact this
        exact ⟨_,GM,_,g',rfl,.jt [] #[] rfl (by simp),i1,x1⟩
     | [],hd=>exact absurd hd.1 (by simp)
     | _::_::_,hd=>exact absurd hd.1 (by simp)
    ·cases k1
   ·cases k1
 ·exact Ea hE k1
theorem ig {F:Fence} {n:Nat} {fn:Func} {tmps:Array Value} {R R':Ending→World→Prop} (hr:∀e w,R e w→R' e w):∀(ds:List Deferred) (u:FrameMode) (w:World),LeavesInM F n P fn tmps R ds u w→LeavesInM F n P fn tmps R' ds u w
 | [],u,w,h=>by
  cases u with
  | run=>exact h
  | returning=>obtain ⟨v,h1,h2⟩:=h;exact ⟨v,h1,hr _ _ h2⟩
  | panicking c=>exact hr _ _ h
 | d::ds,u,w,h=>by
  obtain ⟨h0,h⟩:=h
  refine ⟨h0,?_⟩
  rcases h with ⟨r,w',h1,h2,h3⟩ | ⟨h1,fv,cap,f,args,h2,h3,h4,h5⟩
  ·exact .inl ⟨r,w',h1,h2,ig hr ds u w' h3⟩
  ·refine .inr ⟨h1,fv,cap,f,args,h2,h3,h4,h5.mono ?_⟩
   intro e u' w' he
   cases e with
   | returned v=>exact ig hr ds _ _ he
   | panicked c=>exact ig hr ds _ _ he
   | outgrown=>exact hr _ _ he
theorem Lc (hE:bW P E) {fns:FT} (hF:wI P fns) {dr:Cx→Nat→JW} {cx:Cx} (hx:ld P cx) (se:∀n β,Bw P n (dr cx n β)) {β:Type} {f:FuncId} {aa:List A} {h:H} {K:A→H→Fp→Option β} {r:β} (hr:Xw E fns dr cx β f aa h K=some r) :
  ∃pv h' T,K pv h' T=some r∧s_ P f aa h h' T pv:=by
 unfold Xw at hr
 split at hr
 ·rename_i fn x hf
  have GV:=hF f fn x hf
  split at hr
  ·rename_i F Xp
   obtain ⟨hn,hr⟩:=ah hr
   have hn:=Nat.le_of_ble_eq_true hn
   obtain ⟨e,F',h',iW,T0,k1,_,k2,k3⟩:=iJ hE hx (se fn.ntmps β) x F h [] .no _ hr
   rw [Fp.pf] at k1
   obtain ⟨k4,k1⟩:=ah k1
   obtain ⟨pv,h2,T,k8,k6,k7⟩:=Hi (P:=P) hE hF hx se k1
   have f12:nM h h2 (T0.cat T):=k2.trans k6
   refine ⟨_,_,_,k8,f12.out,f12.rd,⟨fn,GV.bm,GV.name,by rw [GV.body];rfl⟩,fun S2 hA g w vs hI hl hv=>?_⟩
   have A1:=hA.left
   have A2:Agree T (hp h') _:=Agree.right k2 hA
   rw [←gV k6]
   have d:=k3 none (fun _=>rfl) S2 g w S2 A1 (fun e1 st=>e1=e∧st=fH fn.ntmps F' iW (iS T0 (hp h') S2)) ⟨rfl,rfl⟩
   refine (callsIn_wide (n:=0)).1 (callsIn_of_wp_marks (F:=FR none) GV.bm GV.body trivial ?_)
   refine wpIn_mono (d _ w (TL Xp hl hn hv hI)) ?_
   rintro e1 a w' ⟨st,hR,rfl,rfl⟩
   obtain ⟨g1,i1,x1,d1,s1,v1⟩:=hR
   have key:LeavesInM (FR none) 0 P fn a.tmps (fun e w2=>∃v g',e = .returned v∧V g' pv v∧Inv g' (iS T (hp h2) (iS T0 (hp h') S2)) w2∧Ext S2 g w (iS T (hp h2) (iS T0 (hp h') S2)) g' w2) a.defers .returning w':=by
    refine ig ?_ _ _ _ (k7 _ A2 g1 w' a i1 d1 v1)
    rintro e w2 ⟨v,g',q1,q2,q3,q4⟩
    exact ⟨v,g',q1,q2,q3,x1.trans q4⟩
   cases e1 with
   | normal=>exact key
   | ret=>exact key
   | _=>exact absurd k4 (by simp [yH])
  ·cases hr
 ·cases hr
theorem FG (hE:bW P E) {dr:Cx→Nat→JW} {cx:Cx} (hx:ld P cx) (se:∀n β,Bw P n (dr cx n β)) {β:Type} {y:A} {aa:List A} {h:H} {K:A→H→Fp→Option β} {r:β} (hr:J_ E dr cx β y aa h K=some r) :
  ∃pv h' T,K pv h' T=some r∧JR P y aa h h' T pv:=by
 unfold J_ at hr
 split at hr
 ·rename_i q n F ps j lf bd
  split at hr
  ·rename_i pe0 hq0
   obtain ⟨hq,hr⟩:=ah hr
   have hq:=a_ hq
   obtain ⟨F1,hr,hlen,Dp⟩:=sB _ _ _ _ hr
   obtain ⟨e1,Fa,ha,mu,T1,hr,_,f1,d1⟩:=iJ hE hx (se n β) lf F1 h [] .no _ hr
   rw [Fp.pf] at hr
   split at hr
   ·split at hr
    ·rename_i pe hqa
     obtain ⟨_,t2,hr,Wx⟩:=bt hr
     obtain ⟨e2,Fb,hb,zc,T2,hr,_,f3,d2⟩:=iJ hE hx (se n β) bd Fa _ mu .no _ hr
     rw [Fp.pf] at hr
     split at hr
     ·rename_i st3 pe3 jump hqb hj
      obtain ⟨_,t3,hr,ht3⟩:=bt hr
      obtain ⟨f2,v2⟩:=yg (h:=ha) hq Wx
      obtain ⟨f4,v4⟩:=yg (h:=hb) hq ht3
      have f12:=f1.trans f2
      have f34:=f3.trans f4
      have ft:=f12.trans f34
      refine ⟨_,_,_,hr,ft.out,ft.rd,fun S2 hA g w u vs hI hu hl hv=>?_⟩
      have DN:=hA.left
      have xy:=Agree.right f12 hA
      rw [←gV f34,←gV f4]
      rw [←gV f2] at xy ⊢
      have A1:=DN.left
      have A2:=Agree.right f1 DN
      have A3:=xy.left
      have A4:=Agree.right f3 xy
      have dX:=zn (x:=.cN (.loop .ready pe)) hq hqa A2 (.head _)
      have vS:=zn (x:=.cN (.loop st3 pe3)) hq hqb A4 (.head _)
      have GS:S2.ob q=some (.cN (.loop .ready pe0))∨True:=.inr trivial
      rw [v4 _ A4]
      rw [v2 _ A2] at A3 A4 vS ⊢
      cases hu with
      | rL _ _ _ _ _ _ _ b s lp h0 WT h1 h2 h3 h4 h5=>
      obtain ⟨rr,r1,r2⟩:=hI.lp b lp WT
      subst r2
      refine ⟨b,rr,rfl,r1,?_,?_⟩
      ·rw [←hl,hlen,←h1];simp [tT]
      have SU:(rr.params.zip vs.toArray).foldl (fun tmps (t,a)=>tmps.setIfInBounds t a) rr.tmps=(ps.zip vs).foldl (fun tmps x=>tmps.setIfInBounds x.1 x.2) rr.tmps:=by
       rw [←Array.foldl_toList,Array.toList_zip,←h1];rfl
      rw [SU]
      obtain ⟨z1,z2⟩:=Dp g n vs rr.tmps hl hv h4 h5
      generalize (ps.zip vs).foldl (fun tmps x=>tmps.setIfInBounds x.1 x.2) rr.tmps=T at z1 z2
      have h2:rr.assign=lf.code:=h2
      have h3:rr.body=bd.code:=h3
      rw [h2,h3]
      refine roundIn_of_wpIn trivial ?_
      show lf.code.wpIn (FR (some b)) 0 P _ _ _
      have Xm:R S2 g w (fH n F1 [] S2) { tmps:=T,defers:=[] } w:=⟨g,hI,.refl _ g w,⟨rfl,fun i d el e1=>by simp [fH] at e1⟩,z1,z2⟩
      refine wpIn_mono (d1 (some b) (fun h=>by cases h) S2 g w S2 A1 (fun e st=>e = .normal∧st=fH n Fa mu (iS T1 (hp ha) S2)) ⟨rfl,rfl⟩ _ w Xm) ?_
      rintro e1 a1 w1 ⟨st,Xl,rfl,rfl⟩
      obtain ⟨g1,i1,x1,Xc,KS,E7⟩:=Xl
      have i1:Inv g1 (iS T1 (hp ha) S2) w1:=i1
      obtain ⟨b1,s1,ob1,q1,q2,q3⟩:=i1.cN q _ dX
      have Re:=x1.le.bm _ _ h0
      rw [q1] at Re
      obtain ⟨rfl,rfl⟩:b1=b∧s1=s:=by simpa using Re
      obtain ⟨Uc,rfl,u1,u2⟩:=q3
      obtain ⟨i2,x2⟩:=i1.Ca (zx:=.busy) (Ki:=Uc.pending) dX q1 q2
      rw [u2] at i2 x2
      refine ⟨_,run_beginRound q2 u1,?_⟩
      show bd.code.wpIn (FR (some b1)) 0 P _ _ _
      have eb:({ Uc with state:=.busy }:Loop)={ Uc with state:=.busy,pending:=pe }:=by rw [←u2]
      rw [eb]
      refine wpIn_mono (d2 (some b1) (fun h=>by cases h) S2 g w _ A3 (fun e st=>e=e2∧st=fH n Fb zc (iS T2 (hp hb) ((iS T1 (hp ha) S2).set q (.cN (.loop .busy pe))))) ⟨rfl,rfl⟩ a1 _ ⟨g1,i2,x1.trans x2,Xc,KS,E7⟩) ?_
      rintro SV a2 w3 ⟨st,hR3,rfl,rfl⟩
      obtain ⟨g3,i3,x3,_,_,_⟩:=hR3
      obtain ⟨b3,s3,ob3,p1,p2,p3⟩:=i3.cN q _ vS
      have Rd:=x3.le.bm _ _ h0
      rw [p1] at Rd
      obtain ⟨rfl,rfl⟩:b3=b1∧s3=s1:=by simpa using Rd
      obtain ⟨rr3,rfl,w1',w2'⟩:=p3
      have fin:∀jc:Option Code,Qf SV=some jc→∃v w4,(Instr.endRound b3 jc).run P w3 = .ok v w4∧∃v' g',Ending.returned v = .returned v'∧V g' (.v (.bool jump.isNone)) v'∧Inv g' ((iS T2 (hp hb) ((iS T1 (hp ha) S2).set q (.cN (.loop .busy pe)))).set q (gw.cN (.loop (Cl jump) jump)).low) w4∧Ext S2 g w ((iS T2 (hp hb) ((iS T1 (hp ha) S2).set q (.cN (.loop .busy pe)))).set q (gw.cN (.loop (Cl jump) jump)).low) g' w4:=by
       intro jc hj'
       rw [hj] at hj'
       obtain rfl:=Option.some.inj hj'
       have xv:=run_endRound (P:=P) jump p2
       have est:(if jump.isNone=true then LoopState.ready else LoopState.done)=Cl jump:=by cases jump<;>rfl
       rw [est] at xv
       obtain ⟨i4,x4⟩:=i3.Ca (zx:=Cl jump) (Ki:=jump) vS p1 p2
       exact ⟨_,_,xv,_,g3,rfl,.v _,i4,x3.trans x4⟩
      cases SV with
      | normal=>exact fin none rfl
      | ret=>exact fin _ rfl
      | exit id=>exact fin _ rfl
      | goto l=>cases hj
      | panic c=>cases hj
      | outgrown=>cases hj
     ·cases hr
    ·cases hr
   ·cases hr
  ·cases hr
 ·cases hr
theorem sA (hE:bW P E) {fns:FT} (hF:wI P fns) {dr:Cx→Nat→JW} {hm:List (Nat×Nat)} {cx:Cx} (hx:ld P cx) (se:∀n β,Bw P n (dr cx n β)):ld P (wW E fns dr hm cx):=
 ⟨fun _ _ _ _ _ _ h=>Lc hE hF hx se h,fun _ _ _ _ _ _ h=>FG hE hx se h⟩
theorem zq (hm:List (Nat×Nat)):ld P (BM hm):=⟨fun _ _ _ _ _ r h=>(by have h:(none:Option _)=some r:=h;cases h),fun _ _ _ _ _ r h=>(by have h:(none:Option _)=some r:=h;cases h)⟩
end
end
section
open Go.RowKit
def cf (T U:Fp):Bool:=(T.w || U.w) && (T.all || U.all || T.rs.any fun a=>U.rs.any (Nat.beq a))
def Kc (ops:Array Oper):Nat→Nat→Nat→Bool
 | 0,_,_=>false
 | f+1,i,j=>dep ops i j || (List.range i).any fun m=>dep ops i m && Kc ops f m j
theorem qL {ops:Array Oper} {L:Nat→Bool} (hd:∀k j,L k=true→dep ops k j=true→L j=true):∀(f k j:Nat),L k=true→Kc ops f k j=true→L j=true
 | 0,_,_,_,h=>by cases h
 | f+1,k,j,hk,h=>by
  simp only [Kc,Bool.or_eq_true,List.any_eq_true,zC] at h
  rcases h with h | ⟨m,_,h1,h2⟩
  ·exact hd k j hk h
  ·exact qL hd f m j (hd k m hk h1) h2
theorem FJ {ops:Array Oper} {L:Nat→Bool} {i:Nat} (h:Fq ops i L):∀(f j:Nat),Kc ops f i j=true→L j=true
 | 0,_,h=>by cases h
 | f+1,j,hr=>by
  simp only [Kc,Bool.or_eq_true,List.any_eq_true,zC] at hr
  rcases hr with hr | ⟨m,_,h1,h2⟩
  ·exact h.Hk j hr
  ·exact qL h.down f m j (h.Hk m h1) h2
def indep (ops:Array Oper) (m:Nat) (Ts:List Fp):Bool:=(List.range m).all fun i=>(List.range i).all fun j=>!(cf (Ts.getD j .no) (Ts.getD i .no)) || Kc ops m i j
theorem JM {T U:Fp} {x:Nat} (h1:aG T x=true) (h2:aG U x=true) (hw:T.w=true∨U.w=true):cf T U=true:=by
 unfold cf
 rw [zC]
 refine ⟨by rcases hw with h | h<;>simp [h],?_⟩
 unfold aG at h1 h2
 simp only [Bool.or_eq_true,List.any_eq_true] at h1 h2 ⊢
 rcases h1 with h1 | ⟨a,ha,h1⟩
 ·exact .inl (.inl h1)
 ·rcases h2 with h2 | ⟨b,hb,h2⟩
  ·exact .inl (.inr h2)
  ·exact .inr ⟨a,ha,b,hb,by rw [←beq_eq h1,←beq_eq h2];exact Nat.beq_refl _⟩
def m0 (S:Hp) (x:Nat):Option Ob×Prop:=(S.ob x,S.fr x)
theorem qo {S S':Hp} (h:∀x,m0 S x=m0 S' x):S=S':=Hp.ext' (fun i=>congrArg Prod.fst (h i)) (fun i=>by have:=congrArg Prod.snd (h i);exact Iff.of_eq this)
def wR (T:Fp) (H S:Hp):Hp:=bif T.w then iS T H S else S
theorem zl (T:Fp) (H S:Hp) (x:Nat):m0 (wR T H S) x=if (T.w && aG T x)=true then m0 H x else m0 S x:=by
 unfold wR
 cases hw:T.w with
 | false=>simp
 | true=>
  simp only [cond_true,Bool.true_and]
  show (if aG T x=true then H.ob x else S.ob x,if aG T x=true then H.fr x else S.fr x)=_
  cases aG T x<;>rfl
def lI (L:Nat→Bool):List (Fp×Hp)→Nat→Hp→Hp
 | [],_,S=>S
 | (T,H)::r,j,S=>lI L r (j+1) (bif L j then wR T H S else S)
def fx (L:Nat→Bool) (x:Nat):List (Fp×Hp)→Nat→Option Ob×Prop→Option Ob×Prop
 | [],_,v=>v
 | (T,H)::r,j,v=>fx L x r (j+1) (if (L j && (T.w && aG T x))=true then m0 H x else v)
theorem iL (L:Nat→Bool) (x:Nat):∀(r:List (Fp×Hp)) (j:Nat) (S:Hp),m0 (lI L r j S) x=fx L x r j (m0 S x)
 | [],_,_=>rfl
 | (T,H)::r,j,S=>by
  unfold lI fx
  rw [iL L x r]
  congr 1
  cases hl:L j with
  | true=>simp only [cond_true,Bool.true_and];exact zl T H S x
  | false=>simp
theorem mj {L L':Nat→Bool} {x:Nat}:∀(r:List (Fp×Hp)) (j:Nat) (v:Option Ob×Prop),(∀m T H,r[m]?=some (T,H)→(T.w && aG T x)=true→L (j+m)=L' (j+m))→fx L x r j v=fx L' x r j v
 | [],_,_,_=>rfl
 | (T,H)::r,j,v,h=>by
  unfold fx
  have e:(if (L j && (T.w && aG T x))=true then m0 H x else v)=(if (L' j && (T.w && aG T x))=true then m0 H x else v):=by
   cases hw:(T.w && aG T x) with
   | false=>simp
   | true=>rw [show L j=L' j from h 0 T H rfl hw]
  rw [e]
  exact mj r (j+1) _ (fun m T' H' hm hw=>by have:=h (m+1) T' H' (by simpa using hm) hw;rwa [show j+(m+1)=j+1+m by omega] at this)
def zo (H0:Hp) (rs:List (Fp×Hp)):Nat→Hp
 | 0=>H0
 | m+1=>match rs[m]? with
  | some q=>q.2
  | none=>H0
def kt (H0:Hp) (rs:List (Fp×Hp)):Prop:=∀m T H,rs[m]?=some (T,H)→(∀x,aG T x=false→m0 H x=m0 (zo H0 rs m) x)∧(T.w=false→H=zo H0 rs m)
theorem j8 {H0:Hp} {q:Fp×Hp} {rs:List (Fp×Hp)} (m:Nat) (hm:m≤rs.length):zo H0 (q::rs) (m+1)=zo q.2 rs m:=by
 cases m with
 | zero=>rfl
 | succ m=>
  show (match (q::rs)[m+1]? with | some q=>q.2 | none=>H0)=(match rs[m]? with | some q'=>q'.2 | none=>q.2)
  rw [List.getElem?_cons_succ,zD (show m<rs.length by omega)]
theorem kt.tail {H0:Hp} {q:Fp×Hp} {rs:List (Fp×Hp)} (h:kt H0 (q::rs)):kt q.2 rs:=fun m T H hm=>by
 have:=h (m+1) T H (by simpa using hm)
 rw [j8 m (Nat.le_of_lt (zB.1 hm).1)] at this
 exact this
theorem ql {x:Nat}:∀(rs:List (Fp×Hp)) (H0:Hp) (j i:Nat),kt H0 rs→i≤rs.length→fx (fun k=>decide (k<j+i)) x rs j (m0 H0 x)=m0 (zo H0 rs i) x
 | [],H0,j,i,_,hi=>by
  have:i=0:=by simpa using hi
  subst this;rfl
 | (T,H)::rs,H0,j,0,hc,_=>by
  have Qw:∀(r:List (Fp×Hp)) (k:Nat) (v:Option Ob×Prop),j≤k→fx (fun k=>decide (k<j+0)) x r k v=v:=by
   intro r
   induction r with
   | nil=>intro k v _;rfl
   | cons q r ih=>
    intro k v hk
    obtain ⟨T,H⟩:=q
    unfold fx
    rw [show (decide (k<j+0))=false by simpa using hk]
    simp only [Bool.false_and,Bool.false_eq_true,if_false]
    exact ih (k+1) v (by omega)
  exact Qw _ j _ (Nat.le_refl _)
 | (T,H)::rs,H0,j,i+1,hc,hi=>by
  unfold fx
  rw [show (decide (j<j+(i+1)))=true by simp]
  simp only [Bool.true_and]
  have h0:=hc 0 T H rfl
  have e:(if (T.w && aG T x)=true then m0 H x else m0 H0 x)=m0 H x:=by
   cases hw:T.w with
   | false=>rw [h0.2 hw];simp [zo]
   | true=>
    cases ht:aG T x with
    | true=>simp
    | false=>simp only [Bool.and_false,Bool.false_eq_true,if_false];exact (h0.1 x ht).symm
  rw [e,j8 i (by simpa using hi)]
  have:=ql (x:=x) rs H (j+1) i hc.tail (by simpa using hi)
  rw [show j+1+i=j+(i+1) by omega] at this
  exact this
theorem vN {ops:Array Oper} {H0 S2:Hp} {rs:List (Fp×Hp)} (hc:kt H0 rs) (hi:indep ops rs.length (rs.map (·.1))=true) (hA:∀T H,(T,H)∈rs→Agree T H0 S2) {i:Nat} {T:Fp} {H:Hp} (hr:rs[i]?=some (T,H)) {L:Nat→Bool} (ha:Fq ops i L) :
  Agree T (zo H0 rs i) (lI L rs 0 S2)∧lI (ins L i) rs 0 S2=wR T H (lI L rs 0 S2):=by
 have dD:=(zB.1 hr).1
 have JD:∀(a b:Nat) (Ta Tb:Fp) (Ha Hb:Hp),b<rs.length→a<b→rs[a]?=some (Ta,Ha)→rs[b]?=some (Tb,Hb)→cf Ta Tb=true→Kc ops rs.length b a=true:=fun a b Ta Tb Ha Hb h1 h2 h3 h4 h5=>by
  unfold indep at hi
  have:=List.all_eq_true.1 (List.all_eq_true.1 hi b (List.mem_range.2 h1)) a (List.mem_range.2 h2)
  have ga:(rs.map (·.1)).getD a .no=Ta:=by simp [zA,zL,h3]
  have gb:(rs.map (·.1)).getD b .no=Tb:=by simp [zA,zL,h4]
  rw [ga,gb,h5] at this
  simpa using this
 have seg:∀x,aG T x=true→∀m T' H',rs[m]?=some (T',H')→(T'.w && aG T' x)=true→m≠i→L m=decide (m<i):=fun x hx m T' H' hm hw j_=>by
  simp only [zC] at hw
  have hml:=(zB.1 hm).1
  rcases Nat.lt_or_ge m i with xt | xt
  ·rw [show decide (m<i)=true by simpa using xt]
   exact FJ ha _ m (JD m i T' T H' H dD xt hm hr (JM hw.2 hx (.inl hw.1)))
  ·have xt:i<m:=by omega
   rw [show decide (m<i)=false by simp;omega]
   cases hl:L m with
   | false=>rfl
   | true=>
    have:=qL ha.down _ m i hl (JD i m T T' H H' hml xt hr hm (JM hx hw.2 (.inr hw.1)))
    rw [ha.new] at this;cases this
 have base:∀x,aG T x=true→m0 S2 x=m0 H0 x:=fun x hx=>by
  have:=hA T H (zG hr) x hx
  exact Prod.ext this.1 (propext this.2)
 have pre:∀x,aG T x=true→m0 (lI L rs 0 S2) x=m0 (zo H0 rs i) x:=fun x hx=>by
  rw [iL,base x hx,←ql rs H0 0 i hc (Nat.le_of_lt dD)]
  refine mj rs 0 _ (fun m T' H' hm hw=>?_)
  simp only [Nat.zero_add]
  by_cases xt:m=i
  ·subst xt;rw [ha.new];simp
  ·exact seg x hx m T' H' hm hw xt
 refine ⟨fun x hx=>?_,qo fun x=>?_⟩
 ·have:=pre x hx
  exact ⟨congrArg Prod.fst this,Iff.of_eq (congrArg Prod.snd this)⟩
 ·rw [zl]
  by_cases hw:(T.w && aG T x)=true
  ·rw [if_pos hw]
   simp only [zC] at hw
   have e:zo H0 rs (i+1)=H:=by
    show (match rs[i]? with | some q=>q.2 | none=>H0)=H
    rw [hr]
   rw [←e,iL,base x hw.2,←ql rs H0 0 (i+1) hc dD]
   refine mj rs 0 _ (fun m T' H' hm Wq=>?_)
   simp only [Nat.zero_add]
   by_cases xt:m=i
   ·subst xt;simp [ins]
   ·have:=seg x hw.2 m T' H' hm Wq xt
    show (m == i || L m)=decide (m<i+1)
    rw [this,show (m == i)=false by simpa using xt,Bool.false_or]
    by_cases h1:m<i
    ·rw [show decide (m<i)=true by simpa using h1,show decide (m<i+1)=true by simp;omega]
    ·rw [show decide (m<i)=false by simpa using h1,show decide (m<i+1)=false by simp;omega]
  ·rw [if_neg hw,iL,iL]
   refine mj rs 0 _ (fun m T' H' hm Wq=>?_)
   simp only [Nat.zero_add]
   by_cases xt:m=i
   ·subst xt;rw [hr] at hm;cases hm;exact absurd Wq hw
   ·show (m == i || L m)=L m
    rw [show (m == i)=false by simpa using xt,Bool.false_or]
end
section
open Go.RowKit
section
variable {P:Program} {E:Env} {cx:Cx} {n:Nat} {β:Type} {r:β}
def lS:List Fp→Fp
 | []=>.no
 | T::r=>T.cat (lS r)
def xM (E:Env) (cx:Cx) (n:Nat) (l0:List Oper):List Oper→Tr A→H→List Fp→(Tr A→H→List Fp→Option β)→Option β
 | [],F,h,acc,K=>K F h acc
 | o::l,F,h,acc,K=>match o.guard with
  | none=>Kx E cx n o.op F h (fun F pv h' T=>tF F o.dst pv (fun F'=>xM E cx n l0 l F' h' (acc++[T]) K))
  | some (j,want)=>G2 l0 n F j want (fun F b=>bif b then Kx E cx n o.op F h (fun F pv h' T=>tF F o.dst pv (fun F'=>xM E cx n l0 l F' h' (acc++[T]) K)) else tF F o.dst .un (fun F'=>xM E cx n l0 l F' h (acc++[.no]) K))
def YY (E:Env) (cx:Cx) (n:Nat) (β:Type) (_id:Nat) (ops:List Oper) (F:Tr A) (h:H) (U:Fp) (K:Tr A→H→Fp→Option β):Option β:=
 bif TG ops.toArray then xM E cx n ops ops F h [] (fun F h Ts=>bif indep ops.toArray ops.length Ts then K F h (U.cat (lS Ts)) else none) else none
def oM (ops:Array Oper) (H0:Hp) (rs:List (Fp×Hp)) (Sf:(Nat→Bool)→Hp) (k:Nat):Prop:=
 ∀m T H,rs[m]?=some (T,H)→∀L,Fq ops (k+m) L→Agree T (zo H0 rs m) (Sf L)∧Sf (ins L (k+m))=wR T H (Sf L)
theorem oM.tail {ops:Array Oper} {H0:Hp} {q:Fp×Hp} {rs:List (Fp×Hp)} {Sf:(Nat→Bool)→Hp} {k:Nat} (h:oM ops H0 (q::rs) Sf k):oM ops q.2 rs Sf (k+1):=fun m T H hm L ha=>by
 have:=h (m+1) T H (by simpa using hm) L (by rwa [show k+(m+1)=k+1+m by omega])
 rw [j8 m (Nat.le_of_lt (zB.1 hm).1),show k+(m+1)=k+1+m by omega] at this
 exact this
theorem kt.cons {H0:Hp} {T:Fp} {H:Hp} {rs:List (Fp×Hp)} (h1:∀x,aG T x=false→m0 H x=m0 H0 x) (h2:T.w=false→H=H0) (h:kt H rs):kt H0 ((T,H)::rs):=fun m T' H' hm=>by
 cases m with
 | zero=>simp at hm;obtain ⟨rfl,rfl⟩:=hm;exact ⟨h1,h2⟩
 | succ m=>
  have KY:rs[m]?=some (T',H'):=by simpa using hm
  rw [j8 m (Nat.le_of_lt (zB.1 KY).1)]
  exact h m T' H' KY
theorem ur (hE:bW P E) (hx:ld P cx) {l0:List Oper}:∀(l:List Oper) (F:Tr A) (h:H) (acc:List Fp) (K:Tr A→H→List Fp→Option β),xM E cx n l0 l F h acc K=some r →
  ∃F' h' rs,K F' h' (acc++rs.map (·.1))=some r∧Kp (pY l) F F'∧rs.length=l.length∧kt (hp h) rs∧(∀x,wt (lS (rs.map (·.1))) x=false→m0 (hp h') x=m0 (hp h) x)∧zo (hp h) rs rs.length=hp h'∧∀Sf k,oM l0.toArray (hp h) rs Sf k→∀ds S (Kf:St→Prop),Kf (fH n F' ds S)→rq P l0.toArray Sf l k (fH n F ds S) Kf
 | [],F,h,acc,K,hr=>⟨F,h,[],by have hr:K F h acc=some r:=hr;simpa using hr,.refl _ F,rfl,fun m T H hm=>by simp at hm,fun _ _=>rfl,rfl,fun Sf k _ ds S Kf hk=>hk⟩
 | o::l,F,h,acc,K,hr=>by
  have yes:∀(F:Tr A),Kx E cx n o.op F h (fun F pv h' T=>tF F o.dst pv (fun F'=>xM E cx n l0 l F' h' (acc++[T]) K))=some r →
    (∀ds S,o.guard=none∨∃j want,o.guard=some (j,want)∧mh l0.toArray (fH n F ds S) j want=some true) →
    ∃F' h' rs,K F' h' (acc++rs.map (·.1))=some r∧Kp (pY (o::l)) F F'∧rs.length=(o::l).length∧kt (hp h) rs∧(∀x,wt (lS (rs.map (·.1))) x=false→m0 (hp h') x=m0 (hp h) x)∧zo (hp h) rs rs.length=hp h'∧∀Sf k,oM l0.toArray (hp h) rs Sf k→∀ds S (Kf:St→Prop),Kf (fH n F' ds S)→rq P l0.toArray Sf (o::l) k (fH n F ds S) Kf:=fun F hr hg=>by
   obtain ⟨F0,e0,pv,h1,T1,k1,k2⟩:=CN hE hx hr
   obtain ⟨F1,k3,KK,k4⟩:=qb k1
   obtain ⟨F2,h2,rs,k5,Wf,k6,k7,kw,k8,k9⟩:=ur hE hx l F1 h1 (acc++[T1]) K k3
   have hg:∀ds S,o.guard=none∨∃j want,o.guard=some (j,want)∧mh l0.toArray (fH n F0 ds S) j want=some true:=fun ds S=>by rw [e0];exact hg ds S
   refine ⟨F2,h2,(T1,hp h1)::rs,by simpa using k5,(Kp.of (l:=[]) e0).trans (m:=pY (o::l)) (KK.trans Wf (fun i hi=>zQ _ hi) (fun i hi=>zS _ hi)) (fun i hi=>by cases hi) (fun i hi=>hi),by simp [k6],kt.cons (fun x hx=>Prod.ext (k2.out x hx).1 (propext (k2.out x hx).2)) (fun hw=>qo fun x=>Prod.ext (k2.rd x (Ft hw)).1 (propext (k2.rd x (Ft hw)).2)) k7,fun x hx=>(kw x (qq hx).2).trans (Prod.ext (k2.rd x (qq hx).1).1 (propext (k2.rd x (qq hx).1).2)),by rw [zR,j8 _ (Nat.le_refl _)];exact k8,fun Sf k hs ds S Kf hk=>?_⟩
   rw [←e0 ds S]
   refine ⟨pv,?_,?_⟩
   ·have mf:∀L,Fq l0.toArray k L→Bu P o ((fH n F0 ds S).uO 0) (Sf L) (Sf (ins L k)) pv:=fun L ha=>by
     obtain ⟨q1,q2⟩:=hs 0 T1 (hp h1) rfl L ha
     have q1:Agree T1 (hp h) (Sf L):=q1
     have q2:Sf (ins L k)=wR T1 (hp h1) (Sf L):=q2
     rw [←pb,q2]
     have:=k2.ok (Sf L) q1
     unfold wR
     cases hw:T1.w with
     | true=>exact this
     | false=>
      rw [show hp h1=hp h from qo fun x=>Prod.ext (k2.rd x (Ft hw)).1 (propext (k2.rd x (Ft hw)).2),l9 q1] at this
      exact this
    unfold sy
    rcases hg ds S with hg | ⟨j,want,hg,hv⟩
    ·rw [hg];exact ⟨0,mf⟩
    ·rw [hg];exact .inl ⟨hv,0,mf⟩
   ·have:=k9 Sf (k+1) hs.tail ds S Kf hk
    rw [←k4 n ds S S,show ((fH n F0 ds S).put o.dst pv).to S=(fH n F0 ds S).put o.dst pv from tB _ _] at this
    exact this
  unfold xM at hr
  split at hr
  ·rename_i hg
   exact yes F hr (fun _ _=>.inl hg)
  ·rename_i j want hg
   obtain ⟨F1,b,k1,k2,k3⟩:=yV hr
   cases b with
   | true=>
    simp only [cond_true] at k1
    obtain ⟨F',h',rs,q1,qp,q2,q3,qw,q4,q5⟩:=yes F1 k1 (fun ds S=>.inr ⟨j,want,hg,by rw [k2];exact k3 ds S⟩)
    refine ⟨F',h',rs,q1,(Kp.of (l:=[]) k2).trans qp (fun i hi=>by cases hi) (fun i hi=>hi),q2,q3,qw,q4,fun Sf k hs ds S Kf hk=>?_⟩
    rw [←k2]
    exact q5 Sf k hs ds S Kf hk
   | false=>
    simp only [cond_false] at k1
    obtain ⟨F2,k4,KK,k5⟩:=qb k1
    obtain ⟨F',h',rs,q1,qp,q2,q3,qw,q4,q5⟩:=ur hE hx l F2 h (acc++[.no]) K k4
    refine ⟨F',h',(.no,hp h)::rs,by simpa using q1,(Kp.of (l:=[]) k2).trans (m:=pY (o::l)) (KK.trans qp (fun i hi=>zQ _ hi) (fun i hi=>zS _ hi)) (fun i hi=>by cases hi) (fun i hi=>hi),by simp [q2],.cons (fun _ _=>rfl) (fun _=>rfl) q3,fun x hx=>qw x (qq hx).2,by rw [zR,j8 _ (Nat.le_refl _)];exact q4,fun Sf k hs ds S Kf hk=>⟨.un,?_,?_⟩⟩
    ·unfold sy
     rw [hg]
     exact .inr ⟨k3 ds S,fun g=>.un,fun L ha=>(hs 0 .no (hp h) rfl L ha).2⟩
    ·have:=q5 Sf (k+1) hs.tail ds S Kf hk
     rw [←k5 n ds S S,show ((fH n F1 ds S).put o.dst .un).to S=(fH n F1 ds S).put o.dst .un from tB _ _] at this
     rw [←k2]
     exact this
theorem nr {x:Nat}:∀(Ts:List Fp),aG (lS Ts) x=Ts.any fun T=>aG T x
 | []=>rfl
 | T::r=>by
  show aG (T.cat (lS r)) x=_
  rw [iD,nr r,List.any_cons]
theorem Bk {H0:Hp}:∀(rs:List (Fp×Hp)),kt H0 rs→(∀x,aG (lS (rs.map (·.1))) x=false→m0 (zo H0 rs rs.length) x=m0 H0 x)∧((lS (rs.map (·.1))).w=false→zo H0 rs rs.length=H0):=fun rs=>by
 induction rs generalizing H0 with
 | nil=>exact fun _=>⟨fun _ _=>rfl,fun _=>rfl⟩
 | cons q rs ih=>
  intro hc
  obtain ⟨T,H⟩:=q
  obtain ⟨i1,i2⟩:=ih hc.tail
  have h0:=hc 0 T H rfl
  rw [zR,j8 _ (Nat.le_refl _)]
  refine ⟨fun x hx=>?_,fun hw=>?_⟩
  ·have hx:aG (T.cat (lS (rs.map (·.1)))) x=false:=hx
   rw [iD,Bool.or_eq_false_iff] at hx
   exact (i1 x hx.2).trans (h0.1 x hx.1)
  ·have hw:(T.w || (lS (rs.map (·.1))).w)=false:=hw
   rw [Bool.or_eq_false_iff] at hw
   exact (i2 hw.2).trans (h0.2 hw.1)
theorem Ed (hE:bW P E) (hx:ld P cx) (hm:P.follows .mixedOrders=true) (n:Nat) (β:Type):Bw P n (YY E cx n β):=fun id ops F h U K r hr=>by
 obtain ⟨hch,hr⟩:=ah hr
 obtain ⟨F',h',rs,k1,kp,k2,k3,kw,k4,k5⟩:=ur hE hx ops F h [] _ hr
 rw [List.nil_append] at k1
 obtain ⟨hi,k1⟩:=ah k1
 rw [←k2] at hi
 refine ⟨F',h',lS (rs.map (·.1)),k1,kp,fun inr ds=>?_⟩
 obtain ⟨e1,e2⟩:=Bk rs k3
 rw [k4] at e1 e2
 refine ⟨⟨fun x hx=>⟨congrArg Prod.fst (e1 x hx),Iff.of_eq (congrArg Prod.snd (e1 x hx))⟩,fun x hx=>⟨congrArg Prod.fst (kw x hx),Iff.of_eq (congrArg Prod.snd (kw x hx))⟩⟩,fun ro _ S0 g0 w0 S2 hA Q hq=>?_⟩
 have sf:∀T H,(T,H)∈rs→Agree T (hp h) S2:=fun T H AV x hx=>hA x (by
  rw [nr,List.any_eq_true]
  exact ⟨T,List.mem_map.2 ⟨_,AV,rfl⟩,hx⟩)
 have zero:∀(r:List (Fp×Hp)) (j:Nat) (S:Hp),lI (fun _=>false) r j S=S:=fun r=>by
  induction r with
  | nil=>exact fun _ _=>rfl
  | cons q r ih=>exact fun j S=>ih (j+1) S
 refine FO (fun L=>lI L rs 0 S2) hm hch (zero rs 0 S2) ?_
 refine k5 (fun L=>lI L rs 0 S2) 0 (fun m T H WQ L ha=>?_) ds S2 _ ?_
 ·rw [Nat.zero_add] at ha ⊢
  exact vN k3 hi sf WQ ha
 ·have e:lI (fun j=>decide (j<ops.length)) rs 0 S2=iS (lS (rs.map (·.1))) (hp h') S2:=qo fun x=>by
   rw [iL]
   cases ht:aG (lS (rs.map (·.1))) x with
   | true=>
    have b:m0 S2 x=m0 (hp h) x:=Prod.ext (hA x ht).1 (propext (hA x ht).2)
    have:=ql (x:=x) rs (hp h) 0 rs.length k3 (Nat.le_refl _)
    rw [Nat.zero_add,k4,k2] at this
    rw [b,this]
    show m0 (hp h') x=(if aG (lS (rs.map (·.1))) x=true then (hp h').ob x else S2.ob x,if aG (lS (rs.map (·.1))) x=true then (hp h').fr x else S2.fr x)
    rw [if_pos ht,if_pos ht];rfl
   | false=>
    rw [mj (L':=fun _=>false) rs 0 _ (fun m T H WQ hw=>by
     simp only [zC] at hw
     have:aG (lS (rs.map (·.1))) x=true:=by
      rw [nr,List.any_eq_true]
      exact ⟨T,List.mem_map.2 ⟨_,zG WQ,rfl⟩,hw.2⟩
     rw [this] at ht;cases ht),←iL,zero]
    show m0 S2 x=(if aG (lS (rs.map (·.1))) x=true then (hp h').ob x else S2.ob x,if aG (lS (rs.map (·.1))) x=true then (hp h').fr x else S2.fr x)
    rw [if_neg (by rw [ht];simp),if_neg (by rw [ht];simp)];rfl
  show Q .normal ((fH n F' ds S2).to (lI (fun j=>decide (j<ops.length)) rs 0 S2))
  rw [e]
  exact hq
end
end
open Go.RowKit
inductive uH (P:Program):Nat→Nat→Bs→Prop
 | nil (a b:Nat):uH P a b .nil
 | no {a b:Nat} {l r:Bs} (h1:uH P (2*a) (a+b) l) (h2:uH P (2*a) (2*a+b) r):uH P a b (.node l none r)
 | yes {a b:Nat} {e:cU} {l r:Bs} (h:bq P b e) (h1:uH P (2*a) (a+b) l) (h2:uH P (2*a) (2*a+b) r):uH P a b (.node l (some e) r)
theorem FA {P:Program} {T:Bs} {a b:Nat} (h:uH P a b T):∀t e,cz T t=some e→bq P (a*t+b) e:=by
 have key:∀(a b:Nat) (l r:Bs),(∀t e,cz l t=some e→bq P (2*a*t+(a+b)) e)→(∀t e,cz r t=some e→bq P (2*a*t+(2*a+b)) e) →
   ∀n e v,cz (.node l v r) (n+1)=some e→bq P (a*(n+1)+b) e:=by
  intro a b l r hl hr n e v ht
  rw [zu] at ht
  cases hn:Nat.beq (n%2) 0 with
  | true=>
   rw [hn] at ht
   have h0:=Nat.eq_of_beq_eq_true hn
   have:=hl _ e ht
   have e1:a*(n+1)+b=2*a*(n / 2)+(a+b):=by
    have:n=2*(n / 2):=by omega
    generalize n / 2=k at this
    subst this
    rw [Nat.mul_add,Nat.mul_one,Nat.mul_comm 2 a,Nat.mul_assoc];omega
   rw [e1];exact this
  | false=>
   rw [hn] at ht
   have h0:n%2≠0:=fun h=>by rw [h] at hn;cases hn
   have:=hr _ e ht
   have e1:a*(n+1)+b=2*a*(n / 2)+(2*a+b):=by
    have:n=2*(n / 2)+1:=by omega
    generalize n / 2=k at this
    subst this
    rw [show 2*k+1+1=2*(k+1) by omega,←Nat.mul_assoc,Nat.mul_comm a 2,Nat.mul_add,Nat.mul_one];omega
   rw [e1];exact this
 induction h with
 | nil=>intro t e h;cases h
 | no h1 h2 Dl GH=>
  intro t e ht
  cases t with
  | zero=>cases ht
  | succ n=>exact key _ _ _ _ Dl GH n e _ ht
 | yes h h1 h2 Dl GH=>
  intro t e ht
  cases t with
  | zero=>cases ht;rw [Nat.mul_zero,Nat.zero_add];exact h
  | succ n=>exact key _ _ _ _ Dl GH n e _ ht
theorem Fw {P:Program} {T:Bs} (h:uH P 1 0 T):∀t e,cz T t=some e→bq P t e:=fun t e ht=>by
 have:=FA h t e ht
 rwa [Nat.one_mul,Nat.add_zero] at this
inductive UT (P:Program):List Nat→Prop
 | nil:UT P []
 | cons {t:Nat} {r:List Nat} (h:g_ P t) (k:UT P r):UT P (t::r)
theorem Lm {P:Program} {l:List Nat} (h:UT P l):∀t,l.any (Nat.beq t)=true→g_ P t:=by
 induction h with
 | nil=>intro f h;simp at h
 | cons h k ih=>
  rename_i f0 r
  intro f hf
  rw [List.any_cons,Bool.or_eq_true] at hf
  rcases hf with hf | hf
  ·obtain rfl:=Nat.eq_of_beq_eq_true hf;exact h
  ·exact ih f hf
theorem cF {P : Program} {t : Nat} {fs : Array Field} (h1 : P.stoodInHeld t = false) (h2 : P.eqGuardType P.depth t = false) (h3 : P.underlying t = some (.struct fs)) (h4 : fs.toList.all (fun f => f.name != "_") = true) : g_ P t :=
 ⟨h1,h2,fun fs' e f hf=>by
  rw [h3] at e
  cases e
  have:=List.all_eq_true.1 h4 f hf
  simpa using this⟩
theorem az {P:Program} {t:Nat} {e:cU} (h1:P.underlying t=some e.d) (h2:TI P t e.size e.bytes e.zero) (h3:∀fs,e.d = .struct fs→∀w:World,(fs.mapM fun f=>(do pure (f.offset,←sizeOf f.type):Sem (Nat×Nat))).run P w = .ok e.pl.toArray w)
  (h4:∀u,e.t=some u→u.size=e.size∧oT u (jM e.zero)=some u.cM):bq P t e where
 u:=h1
 ti:=h2
 pl:=h3
 ts:=fun u hu=>(h4 u hu).1
 tz:=fun u hu g=>by
  obtain ⟨i,t1,t2,t3,t4,t5,t6⟩:=h2
  exact (i_ (g:=g) u _ _ (h4 u hu).2).2 _ (nT t6 g)
theorem jX {e:cU} (h:e.t=none):∀u,e.t=some u→u.size=e.size∧oT u (jM e.zero)=some u.cM:=fun u hu=>by rw [h] at hu;cases hu
theorem aP {e:cU} {u:Ty} (h:e.t=some u) (h1:u.size=e.size) (h2:oT u (jM e.zero)=some u.cM):∀u,e.t=some u→u.size=e.size∧oT u (jM e.zero)=some u.cM:=fun u' hu=>by rw [h] at hu;cases hu;exact ⟨h1,h2⟩
inductive HT where
 | o
 | n (h:Option LH) (x y:HT)
def HT.h:HT→Option LH
 | .o=>none
 | .n h _ _=>h
def HT.l:HT→HT
 | .o=>.o
 | .n _ x _=>x
def HT.r:HT→HT
 | .o=>.o
 | .n _ _ y=>y
def Qx:LH:=⟨[],[],[],[],[],[]⟩
def mkSeq (h:Option LH) (x y:ay):ay:=match h with
 | some h=>.cut h x y
 | none=>.seq x y
def CY (h:Option LH) (x:ay):ay:=match h with
 | some h=>.loop h x
 | none=>.loop Qx x
def comp:Code→HT→ay
 | .skip,_=>.skip
 | .ret,_=>.ret
 | .exit id,_=>.exit id
 | .region id ops d,_=>.region id ops.toList d
 | .seq x y,t=>mkSeq t.h (comp x t.l) (comp y t.r)
 | .cond c x y,t=>.cond c (comp x t.l) (comp y t.r)
 | .block id x,t=>.block id (comp x t.l)
 | .loop x,t=>CY t.h (comp x t.l)
 | .rangeFunc g ps x y,t=>.range g ps.toList Qx (comp x t.l) (comp y t.r)
 | c,_=>.bad c
theorem xe (h:Option LH) (x y:ay):(mkSeq h x y).code = .seq x.code y.code:=by cases h<;>rfl
theorem vG (h:Option LH) (x:ay):(CY h x).code = .loop x.code:=by cases h<;>rfl
theorem Bf (c:Code) (t:HT):(comp c t).code=c:=by
 fun_induction comp c t<;>simp_all [ay.code,xe,vG]
def au (f:Func):Code:=match f.body with
 | some c=>c
 | none=>.skip
theorem ak {P : Program} {f : Nat} {fn : Func} {t : HT} (h1 : P.funcs[f]? = some fn) (h2 : fn.body = some (au fn)) (h3 : (fn.name == "runtime.NumGoroutine") = false) : aN P f fn (comp (au fn) t) := ⟨h1, by rw [Bf]; exact h2, h3⟩
section
open Go.RowKit
structure uJ (P:Program) (f:FuncId) (t:Ty):Prop where
 fn:uK P f
 ok:∀(n:Nat) (w:World),n≤16777216→Calls P f #[.slice none 0 0,.int .i64 (n:Int)] w fun e w'=>∃v,e = .returned v∧((v = .slice none 0 0∧w'=w)∨∃vs ty cap,v = .slice (some ⟨w.heap.size,0,none⟩) 0 cap∧w'=w.drew.alloc (.cells vs ty)∧cap*t.size≤vs.size∧cap≤maxLen)
structure oR (P:Program) (f:FuncId) (t:Ty):Prop where
 fn:uK P f
 none:∀(n c:Nat) (w:World),Calls P f #[.slice none n c] w fun e w'=>e = .returned (.slice none 0 0)∧w'=w
 some:∀(g:G) (S:Hp) (q:Nat),S.fr q→∀l:List t.T,l.length≤16777216→∀(w:World),Inv g S w→∀(a:Addr) (n c:Nat),(∀w2,Inv g S w2→Given g w2 (.slice (some a) n c) t.size l.length (l.flatMap (aA t))) →
  Calls P f #[.slice (some a) n c] w fun e w'=>∃v g',e = .returned v∧V g' (.tw (.loc q) t.size) v∧Inv g' (S.new q (.cells (l.flatMap (aA t)))) w'∧Ext S g w (S.new q (.cells (l.flatMap (aA t)))) g' w'
inductive MB where
 | fn (sg:dO) (F:Plain sg)
 | grow (t:Ty)
 | clone (t:Ty)
abbrev uM:=Nat→Option MB
def MB.Ok (P:Program) (f:FuncId):MB→Prop
 | .fn sg F=>bH P f sg F
 | .grow t=>uJ P f t
 | .clone t=>oR P f t
def lR (P:Program) (rN:uM):Prop:=∀f e,rN f=some e→e.Ok P f
def yU {β:Type} (t:Ty) (aa:List A) (h:H) (K:A→H→Fp→Option β):Option β:=match aa with
 | [.v (.slice none 0 0),.v (.int .i64 n)]=>gd (bn n) (gd (bz (nN n) 16777216) (mY (.row t []) h (fun q h'=>K (.tw (.loc q) t.size) h' (.wr [dq q]))))
 | _=>none
def ux {β:Type} (t:Ty) (aa:List A) (h:H) (K:A→H→Fp→Option β):Option β:=match aa with
 | [py]=>wX h t py (fun l T=>gd (bz (len (α:=t.T) l) 16777216) (mY (.row t l) h (fun q h'=>K (.tw (.loc q) t.size) h' ⟨false,dq q::T,true,[dq q]⟩)))
 | _=>none
def Ly (rN:uM) (xJ:Cx):Cx:=⟨fun β f aa h K=>match rN f with
 | some (.fn sg F)=>UP sg F aa h K
 | some (.grow t)=>yU t aa h K
 | some (.clone t)=>ux t aa h K
 | none=>xJ.call β f aa h K,xJ.hm,xJ.rL⟩
section
variable {P:Program} {E:Env}
theorem DP {β:Type} {f:FuncId} {t:Ty} (hg:uJ P f t) {aa:List A} {h:H} {K:A→H→Fp→Option β} {r:β} (hr:yU t aa h K=some r):∃pv h' T,K pv h' T=some r∧s_ P f aa h h' T pv:=by
 unfold yU at hr
 split at hr
 ·rename_i n
  obtain ⟨hp,hr⟩:=bA hr
  have hp:0≤n:=hp
  obtain ⟨hn,hr⟩:=bA hr
  have hn:n.toNat≤16777216:=hn
  have QV:n=((n.toNat:Nat):Int):=by omega
  obtain ⟨h',k1,hq,hf,hh⟩:=fO hr
  have hT:∀u∈[Up.new h.aQ (gw.row t []).low],aG (.wr [dq h.aQ]) u.id=true:=fun u hu=>by rcases zF.1 hu with rfl;exact aB (o:=h.aQ) hq (.head _)
  have hW:∀u∈[Up.new h.aQ (gw.row t []).low],wt (.wr [dq h.aQ]) u.id=true:=fun u hu=>by rcases zF.1 hu with rfl;exact aB (l:=[dq h.aQ]) (w:=false) (s:=[]) (o:=h.aQ) hq (.head _)
  refine ⟨_,_,_,k1,fun i hi=>by rw [hh];exact dB _ _ i (fun u hu e=>by rw [e,hT u hu] at hi;cases hi),fun i hi=>by rw [hh];exact dB _ _ i (fun u hu e=>by rw [e,hW u hu] at hi;cases hi),hg.fn,fun S2 hA=>?_⟩
  rw [hh,ib hT hA]
  show PC P f _ S2 (S2.new h.aQ (.cells [])) _
  have DI:S2.fr h.aQ:=(hA _ (aB hq (.head _))).2.2 hf
  intro g w vs hI hl hv
  match vs,hl with
  | [u,v],_=>
   have e1:=(hv 0 _ _ rfl rfl).gf
   have e2:=(hv 1 _ _ rfl rfl).gf
   subst e1 e2
   rw [QV]
   refine (hg.ok n.toNat w hn).mono ?_
   rintro e w' ⟨v,rfl,⟨rfl,rfl⟩ | ⟨vs,ty,cap,rfl,rfl,k3,k4⟩⟩
   ·obtain ⟨q1,q2⟩:=hI.emp DI
    exact ⟨_,_,rfl,.sr (.loc h.aQ) t.size none cn,q1,q2⟩
   ·obtain ⟨q1,q2⟩:=hI.drew.lE DI (cs:=[]) (vs:=vs) ty (Nat.zero_le _) ⟨by simp,fun j c x e=>by simp at e⟩
    refine ⟨_,_,rfl,.tw (.loc h.aQ) t.size 0 w.heap.size cap vs.size ?_ (Nat.zero_le _) k4 k3 0 (fun _=>rfl),q1,Inv.tc q2⟩
    rw [Nat.zero_mul];exact cn
 ·cases hr
theorem Bi {β:Type} {f:FuncId} {t:Ty} (hg:oR P f t) {aa:List A} {h:H} {K:A→H→Fp→Option β} {r:β} (hr:ux t aa h K=some r):∃pv h' T,K pv h' T=some r∧s_ P f aa h h' T pv:=by
 unfold ux at hr
 split at hr
 ·rename_i py
  obtain ⟨l,T,hr,ug⟩:=tg hr
  obtain ⟨hn,hr⟩:=bA hr
  have hn:List.length (α:=t.T) l≤16777216:=hn
  obtain ⟨h',k1,hq,hf,hh⟩:=fO hr
  have hT:∀u∈[Up.new h.aQ (gw.row t l).low],aG ⟨false,dq h.aQ::T,true,[dq h.aQ]⟩ u.id=true:=fun u hu=>by rcases zF.1 hu with rfl;exact aB (o:=h.aQ) hq (.head _)
  have hW:∀u∈[Up.new h.aQ (gw.row t l).low],wt ⟨false,dq h.aQ::T,true,[dq h.aQ]⟩ u.id=true:=fun u hu=>by rcases zF.1 hu with rfl;exact aB (l:=[dq h.aQ]) (w:=false) (s:=[]) (o:=h.aQ) hq (.head _)
  refine ⟨_,_,_,k1,fun i hi=>by rw [hh];exact dB _ _ i (fun u hu e=>by rw [e,hT u hu] at hi;cases hi),fun i hi=>by rw [hh];exact dB _ _ i (fun u hu e=>by rw [e,hW u hu] at hi;cases hi),hg.fn,fun S2 hA=>?_⟩
  rw [hh,ib hT hA]
  show PC P f _ S2 (S2.new h.aQ (.cells (List.flatMap (aA t) l))) _
  have DI:S2.fr h.aQ:=(hA _ (aB hq (.head _))).2.2 hf
  have ug:=ug S2 (hA.mono fun i hi=>.tail _ hi)
  intro g w vs hI UD hv
  match vs,UD with
  | [u],_=>
   have e1:=hv 0 _ _ rfl rfl
   have UH:∀w2,Inv g S2 w2→Given g w2 u t.size l.length (l.flatMap (aA t)):=fun w2 hI2=>ug g w2 u hI2 e1
   obtain ⟨A,c,us,rfl,k2,k3,k4⟩:=UH w hI
   cases A with
   | none=>
    have WW:l=[]:=by
     rcases Nat.eq_zero_or_pos l.length with h0 | h0
     ·exact zZ h0
     ·obtain ⟨_,e,_⟩:=k4 h0;cases e
    refine (hg.none _ c w).mono ?_
    rintro e w' ⟨rfl,rfl⟩
    rw [WW]
    obtain ⟨q1,q2⟩:=hI.emp DI
    exact ⟨_,_,rfl,.sr (.loc h.aQ) t.size none cn,q1,q2⟩
   | some a=>exact hg.some g S2 h.aQ DI l hn w hI a _ c UH
 ·cases hr
theorem zg {rN:uM} (hc:lR P rN) {xJ:Cx} (hf:ld P xJ):ld P (Ly rN xJ):=⟨fun β f aa h K r hr=>by
 have hr:(match rN f with | some (.fn sg F)=>UP sg F aa h K | some (.grow t)=>yU t aa h K | some (.clone t)=>ux t aa h K | none=>xJ.call β f aa h K)=some r:=hr
 split at hr
 ·rename_i sg F he
  exact LB (hc f _ he) hr
 ·rename_i t he
  exact DP (hc f _ he) hr
 ·rename_i t he
  exact Bi (hc f _ he) hr
 ·exact hf.call β f aa h K r hr,hf.rL⟩
def Y1 (E:Env) (fns:FT) (hm:List (Nat×Nat)) (rN:uM):Nat→Cx
 | 0=>Ly rN (BM hm)
 | k+1=>Ly rN (wW E fns (fun cx n=>YY E cx n) hm (Y1 E fns hm rN k))
def Y2 (E:Env) (fns:FT) (hm:List (Nat×Nat)) (rN:uM) (k:Nat):Cx:=wW E fns (fun cx n=>YY E cx n) hm (Y1 E fns hm rN k)
theorem uu (hE:bW P E) (DC:P.follows .mixedOrders=true) {fns:FT} (hF:wI P fns) {hm:List (Nat×Nat)} {rN:uM} (hc:lR P rN):∀k,ld P (Y1 E fns hm rN k)
 | 0=>zg hc (zq hm)
 | k+1=>zg hc (sA hE hF (uu hE DC hF hc k) (fun n β=>Ed hE (uu hE DC hF hc k) DC n β))
theorem ry (hE:bW P E) (DC:P.follows .mixedOrders=true) {fns:FT} (hF:wI P fns) {hm:List (Nat×Nat)} {rN:uM} (hc:lR P rN) (k:Nat):ld P (Y2 E fns hm rN k):=sA hE hF (uu hE DC hF hc k) (fun n β=>Ed hE (uu hE DC hF hc k) DC n β)
theorem bH.of {f:FuncId} {sg:dO} {F G:Plain sg} (h:bH P f sg G) (e:∀x c d,F x c d=G x c d):bH P f sg F:=by
 have:F=G:=funext fun x=>funext fun c=>funext fun d=>e x c d
 rw [this];exact h
end
end
section
open Go.RowKit
def aj {α:Type} (d:α) (l:List α) (i:Nat) (f:α→α):List α:=aS l i (f (nth d l i))
def ctN:uM:=fun _=>none
def ctC (f:Nat) (sg:dO) (F:Plain sg) (l:uM):uM:=fun g=>bif Nat.beq g f then some (.fn sg F) else l g
def ctG (f:Nat) (t:Ty) (l:uM):uM:=fun g=>bif Nat.beq g f then some (.grow t) else l g
def ctL (f:Nat) (t:Ty) (l:uM):uM:=fun g=>bif Nat.beq g f then some (.clone t) else l g
theorem aM {P:Program}:lR P ctN:=fun f e h=>by cases h
theorem ao {P:Program} {f:Nat} {sg:dO} {F:Plain sg} {l:uM} (h:bH P f sg F) (k:lR P l):lR P (ctC f sg F l):=fun g e hg=>by
 have hg:(bif Nat.beq g f then some (MB.fn sg F) else l g)=some e:=hg
 cases hb:Nat.beq g f with
 | true=>rw [hb] at hg;cases hg;rw [beq_eq hb];exact h
 | false=>rw [hb] at hg;exact k g e hg
theorem Eg {P:Program} {f:Nat} {t:Ty} {l:uM} (h:oR P f t) (k:lR P l):lR P (ctL f t l):=fun g e hg=>by
 have hg:(bif Nat.beq g f then some (MB.clone t) else l g)=some e:=hg
 cases hb:Nat.beq g f with
 | true=>rw [hb] at hg;cases hg;rw [beq_eq hb];exact h
 | false=>rw [hb] at hg;exact k g e hg
theorem LC {P:Program} {f:Nat} {t:Ty} {l:uM} (h:uJ P f t) (k:lR P l):lR P (ctG f t l):=fun g e hg=>by
 have hg:(bif Nat.beq g f then some (MB.grow t) else l g)=some e:=hg
 cases hb:Nat.beq g f with
 | true=>rw [hb] at hg;cases hg;rw [beq_eq hb];exact h
 | false=>rw [hb] at hg;exact k g e hg
inductive HI (P:Program):Nat→Nat→Tr (Func×ay)→Prop
 | nil (a b:Nat):HI P a b .nil
 | no {a b:Nat} {l r:Tr (Func×ay)} (h1:HI P (2*a) (a+b) l) (h2:HI P (2*a) (2*a+b) r):HI P a b (.node l none r)
 | yes {a b:Nat} {fn:Func} {x:ay} {l r:Tr (Func×ay)} (h:aN P b fn x) (h1:HI P (2*a) (a+b) l) (h2:HI P (2*a) (2*a+b) r):HI P a b (.node l (some (fn,x)) r)
theorem Lb {P:Program} {T:Tr (Func×ay)} {a b:Nat} (h:HI P a b T):∀t fn x,T.get t=some (fn,x)→aN P (a*t+b) fn x:=by
 have key:∀(a b:Nat) (l r:Tr (Func×ay)),(∀t fn x,l.get t=some (fn,x)→aN P (2*a*t+(a+b)) fn x)→(∀t fn x,r.get t=some (fn,x)→aN P (2*a*t+(2*a+b)) fn x) →
   ∀n fn x v,(Tr.node l v r).get (n+1)=some (fn,x)→aN P (a*(n+1)+b) fn x:=by
  intro a b l r hl hr n fn x v ht
  rw [Tr.g4] at ht
  cases hn:Nat.beq (n%2) 0 with
  | true=>
   rw [hn] at ht
   have h0:=Nat.eq_of_beq_eq_true hn
   have:=hl _ fn x ht
   have e1:a*(n+1)+b=2*a*(n / 2)+(a+b):=by
    have:n=2*(n / 2):=by omega
    generalize n / 2=k at this
    subst this
    rw [Nat.mul_add,Nat.mul_one,Nat.mul_comm 2 a,Nat.mul_assoc];omega
   rw [e1];exact this
  | false=>
   rw [hn] at ht
   have h0:n%2≠0:=fun h=>by rw [h] at hn;cases hn
   have:=hr _ fn x ht
   have e1:a*(n+1)+b=2*a*(n / 2)+(2*a+b):=by
    have:n=2*(n / 2)+1:=by omega
    generalize n / 2=k at this
    subst this
    rw [show 2*k+1+1=2*(k+1) by omega,←Nat.mul_assoc,Nat.mul_comm a 2,Nat.mul_add,Nat.mul_one];omega
   rw [e1];exact this
 induction h with
 | nil=>intro t fn x h;cases h
 | no h1 h2 Dl GH=>
  intro t fn x ht
  cases t with
  | zero=>cases ht
  | succ n=>exact key _ _ _ _ Dl GH n fn x _ ht
 | yes h h1 h2 Dl GH=>
  intro t fn x ht
  cases t with
  | zero=>cases ht;rw [Nat.mul_zero,Nat.zero_add];exact h
  | succ n=>exact key _ _ _ _ Dl GH n fn x _ ht
theorem La {P:Program} {T:Tr (Func×ay)} (h:HI P 1 0 T):wI P (fun f=>T.get f):=fun f fn x hf=>by
 have:=Lb h f fn x hf
 rwa [Nat.one_mul,Nat.add_zero] at this
theorem SX {P:Program} {E:Env} {fns:FT} {hm:List (Nat×Nat)} {rN:uM} (hE:bW P E) (DC:P.follows .mixedOrders=true) (hF:wI P fns) (hc:lR P rN) (k:Nat) {f:FuncId} {sg:dO} {F:Plain sg} (e:∀x c d,F x c d=J9 (Y2 E fns hm rN k) f sg x c d):bH P f sg F:=
 (FD (ry hE DC hF hc k) f sg).of e
theorem _root_.Go.Bm.V.ID {g:G} {t:Ty} {f:Bool} {l:List t.T} {v:Value} (hv:V g (.tl t f l) v):(∃a n c,v = .slice (some a) n c∧VD g.mem (.sl t.size f (l.map (cY t))) v)∨(l=[]∧v = .slice none 0 0):=by
 cases hv with
 | tl _ _ _ _ hd=>
  generalize qj:List.map (cY t) l=es at hd
  have pq:es.length=l.length:=by rw [←qj,zH]
  have mZ:=hd
  cases hd with
  | tn sz full A=>
   cases A with
   | none=>exact .inr ⟨zZ pq.symm,rfl⟩
   | some a=>exact .inl ⟨_,_,_,rfl,mZ⟩
  | sl _ _ _ a cap vs hz hc hf hn hx hl hm E6=>
   cases a with
   | some p=>exact .inl ⟨_,_,_,rfl,mZ⟩
   | none=>
    have h0:cap=0:=hn rfl
    have h1:es.length=0:=by omega
    refine .inr ⟨zZ (by omega),?_⟩
    rw [h0,h1];rfl
theorem PC.less {P:Program} {f:FuncId} {aa:List A} {S S1 S2:Hp} {r:A} (h:PC P f aa S S1 r) (hs:∀o x,S2.ob o=some x→S1.ob o=some x) (hf:∀o,S2.fr o→S1.fr o):PC P f aa S S2 r:=fun g w vs hI hl hv=>by
 refine (h g w vs hI hl hv).mono ?_
 rintro e w' ⟨v,g',rfl,q1,q2,q3⟩
 exact ⟨v,g',rfl,q1,q2.less hs hf,q3.trans (.less hs hf)⟩
theorem Ju {h:H} {i:Nat} (hl:i<cJ):(hp h).ob i=fG h.t i∧((hp h).fr i↔h.aQ≤i):=⟨if_pos hl,by show (if i<cJ then _ else _)↔_;rw [if_pos hl]⟩
theorem oy {t:Tr gw} {n m:Nat} {l:List Rg} {k k':List Nat} (h:n≤m):(∀o x,(hp ⟨.nil,m,l,k'⟩).ob o=some x→(hp ⟨t,n,l,k⟩).ob o=some x)∧∀o,(hp ⟨.nil,m,l,k'⟩).fr o→(hp ⟨t,n,l,k⟩).fr o:=by
 refine ⟨fun o x e=>?_,fun o e=>?_⟩
 ·by_cases ho:o<cJ
  ·rw [(Ju ho).1] at e
   have e0:fG .nil o=none:=by unfold fG;rw [Tr.get_nil]
   rw [show (⟨.nil,m,l,k'⟩:H).t = .nil from rfl,e0] at e
   cases e
  ·rw [(fe ho).1] at e ⊢;exact e
 ·by_cases ho:o<cJ
  ·rw [(Ju ho).2] at e ⊢;exact Nat.le_trans h e
  ·rw [(fe ho).2] at e ⊢;exact e
theorem uw {P:Program} {cx:Cx} (hx:ld P cx) {f:FuncId} {t:Ty} {rs:List (Bool×Ty)} {F:List t.T→Option (kb rs×Unit)}
  (hn:FE cx f ⟨[(false,.aJ t)],rs,[],[]⟩ [.v (.slice none 0 0)] () ()=F []) (h1:∀l,FE cx f ⟨[(false,.aJ t)],rs,[],[]⟩ [.nn t l] () ()=F l):bH P f ⟨[(false,.aJ t)],rs,[],[]⟩ (fun x _ _=>F x.1):=by
 refine ⟨fun x c d y h=>(oc hx f _ _ c d y.1 y.2 ((h1 x.1).trans h)).1,fun x c d y d' h=>?_⟩
 obtain ⟨l,u⟩:=x
 obtain ⟨_,t1,n1,k1,p1⟩:=oc hx f _ _ c d y d' ((h1 l).trans h)
 obtain ⟨a1,a2⟩:=oy (t:=t1) (n:=n1) (m:=n1) (l:=dw [] d'++dw [] c) (k:=k1) (k':=k1) (Nat.le_refl _)
 have full:∀m,n1≤m→PC P f [.nn t l] (hp (h0 [] [] c d)) (hp ⟨.nil,m,dw [] d'++dw [] c,k1⟩) (u_ rs y):=fun m hm=>p1.less (oy hm).1 (oy hm).2
 cases l with
 | cons a l=>
  refine ⟨.nil,n1,k1,fun g w vs hI hl hv=>?_⟩
  match vs,hl with
  | [v],_=>
   rcases (hv 0 _ _ rfl rfl:V g (.tl t false (a::l)) v).ID with ⟨b,n,c2,rfl,hd⟩ | ⟨e,_⟩
   ·exact full n1 (Nat.le_refl _) g w _ hI rfl fun i p v e1 e2=>by
     cases i with
     | zero=>cases e1;cases e2;exact .nn _ _ _ _ _ hd
     | succ i=>cases e1
   ·cases e
 | nil=>
  obtain ⟨_,t0,n0,k0,p0⟩:=oc hx f _ _ c d y d' (hn.trans h)
  refine ⟨.nil,n1+n0,k1,fun g w vs hI hl hv=>?_⟩
  match vs,hl with
  | [v],_=>
   rcases (hv 0 _ _ rfl rfl:V g (.tl t false []) v).ID with ⟨b,n,c2,rfl,hd⟩ | ⟨_,rfl⟩
   ·exact full _ (Nat.le_add_right _ _) g w _ hI rfl fun i p v e1 e2=>by
     cases i with
     | zero=>cases e1;cases e2;exact .nn _ _ _ _ _ hd
     | succ i=>cases e1
   ·exact (p0.less (S2:=hp ⟨.nil,n1+n0,dw [] d'++dw [] c,k1⟩) (oy (Nat.le_add_left _ _)).1 (oy (Nat.le_add_left _ _)).2) g w _ hI rfl fun i p v e1 e2=>by
     cases i with
     | zero=>cases e1;cases e2;exact .v _
     | succ i=>cases e1
end
end Go.Bm
namespace Go.Proofs.YtfffmmahegdfiaaGreat
open Go.Bm
set_option maxRecDepth 20000
def R0:RK:=(.box (.pair (.pair (.int .i64) (.pair (.int .i64) (.pair (.int .i64) (.int .i64)))) (.pair (.jQ 9 1) (.pair (.ptr 1) (.pair (.ptr 3) (.pair (.jQ 5 1) (.pair (.jQ 7 14) (.int .i64))))))))
def R1:RK:=(.box (.jQ 2 1))
def R2:RK:=(.row (.int .u8))
def R3:RK:=(.box (.pair (.int .i64) (.pair (.int .i64) (.jQ 4 2))))
def R4:RK:=(.row (.pair (.int .i64) (.int .i64)))
def R5:RK:=(.row (.ptr 6))
def R6:RK:=(.box (.pair (.aJ (.pair (.int .u8) (.pair (.int .u8) (.pair (.int .u8) (.pair (.int .u8) (.pair (.int .i64) (.pair (.int .i64) (.int .i64)))))))) (.pair (.jQ 8 1) (.pair (.aJ (.pair (.int .i64) .bool)) (.pair (.pair (.pair (.int .u8) (.pair (.int .u8) (.pair (.int .u8) (.pair (.int .u8) (.pair (.int .i64) (.pair (.int .i64) (.int .i64))))))) (.pair (.int .i64) (.pair (.int .i64) (.pair (.int .u64) (.pair (.int .u64) (.pair (.aJ (.pair (.int .i64) .bool)) (.pair (.int .u64) (.pair (.int .u64) (.pair (.int .i64) (.pair (.int .i64) (.pair (.aJ (.int .i64)) (.pair (.int .i64) (.pair (.aJ (.int .i64)) (.pair (.int .i64) (.pair .bool (.pair .bool (.pair .bool (.pair (.int .i64) (.pair (.int .i64) (.aJ (.int .i64))))))))))))))))))))) (.pair .bool (.int .i64)))))))
def R7:RK:=(.row (.pair (.int .i64) (.pair (.pair (.int .u8) (.pair (.int .u8) (.pair (.int .u8) (.pair (.int .u8) (.pair (.int .i64) (.pair (.int .i64) (.int .i64))))))) (.pair (.int .i64) (.pair (.int .i64) (.pair (.int .i64) (.pair (.int .i64) (.pair (.int .i64) (.aJ (.int .i64))))))))))
def R8:RK:=(.row (.int .u64))
def R9:RK:=(.row (.aJ (.pair (.int .u8) (.pair (.int .i64) (.int .i64)))))
def ty1:cU:=⟨.func #[] #[] false,1,8,.nilFunc,[],none,false⟩
theorem te1:bq Tryz.prog 1 ty1:=az Tryz.underlying1 (aR (by kernel_rfl) rfl rfl) (fun _ h=>by cases h) (jX rfl)
def ty2:cU:=⟨.int .i64,1,8,.int .i64 0,[],(some (.int .i64)),false⟩
theorem te2:bq Tryz.prog 2 ty2:=az Tryz.underlying2 (aR (by kernel_rfl) rfl rfl) (fun _ h=>by cases h) (aP rfl (by kernel_rfl) (by kernel_rfl))
def ty3:cU:=⟨.int .i64,1,8,.int .i64 0,[],(some (.int .i64)),false⟩
theorem VG:bq Tryz.prog 3 ty3:=az Tryz.underlying3 (aR (by kernel_rfl) rfl rfl) (fun _ h=>by cases h) (aP rfl (by kernel_rfl) (by kernel_rfl))
def ty4:cU:=⟨.bool,1,1,.bool false,[],(some .bool),false⟩
theorem te4:bq Tryz.prog 4 ty4:=az Tryz.underlying4 (aR (by kernel_rfl) rfl rfl) (fun _ h=>by cases h) (aP rfl (by kernel_rfl) (by kernel_rfl))
def ty5:cU:=⟨.int .u8,1,1,.int .u8 0,[],(some (.int .u8)),false⟩
theorem te5:bq Tryz.prog 5 ty5:=az Tryz.underlying5 (aR (by kernel_rfl) rfl rfl) (fun _ h=>by cases h) (aP rfl (by kernel_rfl) (by kernel_rfl))
def ty9:cU:=⟨.string,1,16,.string ByteArray.empty,[],none,false⟩
theorem te9:bq Tryz.prog 9 ty9:=az Tryz.underlying9 (aR (by kernel_rfl) rfl rfl) (fun _ h=>by cases h) (jX rfl)
def Ow:cU:=⟨.int .u64,1,8,.int .u64 0,[],(some (.int .u64)),false⟩
theorem VS:bq Tryz.prog 12 Ow:=az Tryz.underlying12 (aR (by kernel_rfl) rfl rfl) (fun _ h=>by cases h) (aP rfl (by kernel_rfl) (by kernel_rfl))
def Ov : cU := ⟨.struct #[⟨"msg", 9, 0, false, "", "runtime", 0⟩, ⟨"addr", 12, 1, false, "", "runtime", 16⟩], 2, 24, .agg #[.string ByteArray.empty, .int .u64 0], [(0, 1), (1, 1)], none, false⟩
theorem VR:bq Tryz.prog 13 Ov:=az Tryz.underlying13 (aR (by kernel_rfl) rfl rfl) (fun fs h w=>by cases h;kernel_rfl) (jX rfl)
def Ou:cU:=⟨.int .i32,1,4,.int .i32 0,[],(some (.int .i32)),false⟩
theorem VQ:bq Tryz.prog 21 Ou:=az Tryz.underlying21 (aR (by kernel_rfl) rfl rfl) (fun _ h=>by cases h) (aP rfl (by kernel_rfl) (by kernel_rfl))
def Ot : cU := ⟨.struct #[⟨"Scopes", 3, 0, false, "", "", 0⟩, ⟨"Threads", 3, 1, false, "", "", 8⟩, ⟨"Immortal", 3, 2, false, "", "", 16⟩, ⟨"Heap", 3, 3, false, "", "", 24⟩], 4, 32, .agg #[.int .i64 0, .int .i64 0, .int .i64 0, .int .i64 0], [(0, 1), (1, 1), (2, 1), (3, 1)], (some (.pair (.int .i64) (.pair (.int .i64) (.pair (.int .i64) (.int .i64))))), false⟩
theorem VO:bq Tryz.prog 22 Ot:=az Tryz.underlying22 (aR (by kernel_rfl) rfl rfl) (fun fs h w=>by cases h;kernel_rfl) (aP rfl (by kernel_rfl) (by kernel_rfl))
def Oq : cU := ⟨.struct #[⟨"Scopes", 3, 0, false, "", "", 0⟩, ⟨"Threads", 3, 1, false, "", "", 8⟩, ⟨"Immortal", 3, 2, false, "", "", 16⟩, ⟨"Heap", 3, 3, false, "", "", 24⟩], 4, 32, .agg #[.int .i64 0, .int .i64 0, .int .i64 0, .int .i64 0], [(0, 1), (1, 1), (2, 1), (3, 1)], (some (.pair (.int .i64) (.pair (.int .i64) (.pair (.int .i64) (.int .i64))))), false⟩
theorem VN:bq Tryz.prog 23 Oq:=az Tryz.underlying23 (aR (by kernel_rfl) rfl rfl) (fun fs h w=>by cases h;kernel_rfl) (aP rfl (by kernel_rfl) (by kernel_rfl))
def Oo:cU:=⟨.slice 59,1,24,.slice none 0 0,[],(some (.aJ (.aJ (.pair (.int .u8) (.pair (.int .i64) (.int .i64)))))),false⟩
theorem VM:bq Tryz.prog 24 Oo:=az Tryz.underlying24 (aR (by kernel_rfl) rfl rfl) (fun _ h=>by cases h) (aP rfl (by kernel_rfl) (by kernel_rfl))
def On:cU:=⟨.slice 49,1,24,.slice none 0 0,[],(some (.aJ (.aJ (.pair (.int .u8) (.pair (.int .u8) (.pair (.int .u8) (.pair (.int .u8) (.pair (.int .i64) (.pair (.int .i64) (.int .i64)))))))))),false⟩
theorem VL:bq Tryz.prog 25 On:=az Tryz.underlying25 (aR (by kernel_rfl) rfl rfl) (fun _ h=>by cases h) (aP rfl (by kernel_rfl) (by kernel_rfl))
def Om : cU := ⟨.struct #[⟨"P", 23, 0, false, "", "", 0⟩, ⟨"Fins", 24, 4, false, "", "", 32⟩, ⟨"Progs", 25, 5, false, "", "", 56⟩], 6, 80, .agg #[.int .i64 0, .int .i64 0, .int .i64 0, .int .i64 0, .slice none 0 0, .slice none 0 0], [(0, 4), (4, 1), (5, 1)], (some (.pair (.pair (.int .i64) (.pair (.int .i64) (.pair (.int .i64) (.int .i64)))) (.pair (.aJ (.aJ (.pair (.int .u8) (.pair (.int .i64) (.int .i64))))) (.aJ (.aJ (.pair (.int .u8) (.pair (.int .u8) (.pair (.int .u8) (.pair (.int .u8) (.pair (.int .i64) (.pair (.int .i64) (.int .i64)))))))))))), false⟩
theorem VJ:bq Tryz.prog 26 Om:=az Tryz.underlying26 (aR (by kernel_rfl) rfl rfl) (fun fs h w=>by cases h;kernel_rfl) (aP rfl (by kernel_rfl) (by kernel_rfl))
def Ol : cU := ⟨.struct #[⟨"P", 23, 0, false, "", "", 0⟩, ⟨"Fins", 24, 4, false, "", "", 32⟩, ⟨"Progs", 25, 5, false, "", "", 56⟩], 6, 80, .agg #[.int .i64 0, .int .i64 0, .int .i64 0, .int .i64 0, .slice none 0 0, .slice none 0 0], [(0, 4), (4, 1), (5, 1)], (some (.pair (.pair (.int .i64) (.pair (.int .i64) (.pair (.int .i64) (.int .i64)))) (.pair (.aJ (.aJ (.pair (.int .u8) (.pair (.int .i64) (.int .i64))))) (.aJ (.aJ (.pair (.int .u8) (.pair (.int .u8) (.pair (.int .u8) (.pair (.int .u8) (.pair (.int .i64) (.pair (.int .i64) (.int .i64)))))))))))), false⟩
theorem VI:bq Tryz.prog 27 Ol:=az Tryz.underlying27 (aR (by kernel_rfl) rfl rfl) (fun fs h w=>by cases h;kernel_rfl) (aP rfl (by kernel_rfl) (by kernel_rfl))
def Oj:cU:=⟨.slice 5,1,24,.slice none 0 0,[],(some (.aJ (.int .u8))),false⟩
theorem VH:bq Tryz.prog 28 Oj:=az Tryz.underlying28 (aR (by kernel_rfl) rfl rfl) (fun _ h=>by cases h) (aP rfl (by kernel_rfl) (by kernel_rfl))
def Oi:cU:=⟨.pointer 75,1,8,.pointer none,[],(some (.ptr 0)),false⟩
theorem VF:bq Tryz.prog 32 Oi:=az Tryz.underlying32 (aR (by kernel_rfl) rfl rfl) (fun _ h=>by cases h) (aP rfl (by kernel_rfl) (by kernel_rfl))
def Oh:cU:=⟨.int .i64,1,8,.int .i64 0,[],(some (.int .i64)),false⟩
theorem VE:bq Tryz.prog 33 Oh:=az Tryz.underlying33 (aR (by kernel_rfl) rfl rfl) (fun _ h=>by cases h) (aP rfl (by kernel_rfl) (by kernel_rfl))
def Og:cU:=⟨.array 4 3,4,32,.agg #[.int .i64 0,.int .i64 0,.int .i64 0,.int .i64 0],[],(some (.arr 4 (.int .i64))),false⟩
theorem VC:bq Tryz.prog 36 Og:=az Tryz.underlying36 (aR (by kernel_rfl) rfl rfl) (fun _ h=>by cases h) (aP rfl (by kernel_rfl) (by kernel_rfl))
def Of:cU:=⟨.slice 47,1,24,.slice none 0 0,[],(some (.aJ (.pair (.int .i64) (.pair (.pair (.int .u8) (.pair (.int .u8) (.pair (.int .u8) (.pair (.int .u8) (.pair (.int .i64) (.pair (.int .i64) (.int .i64))))))) (.pair (.int .i64) (.pair (.int .i64) (.pair (.int .i64) (.pair (.int .i64) (.pair (.int .i64) (.aJ (.int .i64))))))))))),false⟩
theorem Fy:bq Tryz.prog 39 Of:=az Tryz.underlying39 (aR (by kernel_rfl) rfl rfl) (fun _ h=>by cases h) (aP rfl (by kernel_rfl) (by kernel_rfl))
def Oe : cU := ⟨.struct #[⟨"Op", 5, 0, false, "", "", 0⟩, ⟨"R", 5, 1, false, "", "", 1⟩, ⟨"H", 5, 2, false, "", "", 2⟩, ⟨"V", 5, 3, false, "", "", 3⟩, ⟨"A", 3, 4, false, "", "", 8⟩, ⟨"B", 3, 5, false, "", "", 16⟩, ⟨"C", 3, 6, false, "", "", 24⟩], 7, 32, .agg #[.int .u8 0, .int .u8 0, .int .u8 0, .int .u8 0, .int .i64 0, .int .i64 0, .int .i64 0], [(0, 1), (1, 1), (2, 1), (3, 1), (4, 1), (5, 1), (6, 1)], (some (.pair (.int .u8) (.pair (.int .u8) (.pair (.int .u8) (.pair (.int .u8) (.pair (.int .i64) (.pair (.int .i64) (.int .i64)))))))), false⟩
theorem VB:bq Tryz.prog 41 Oe:=az Tryz.underlying41 (aR (by kernel_rfl) rfl rfl) (fun fs h w=>by cases h;kernel_rfl) (aP rfl (by kernel_rfl) (by kernel_rfl))
def Od : cU := ⟨.struct #[⟨"Op", 5, 0, false, "", "", 0⟩, ⟨"R", 5, 1, false, "", "", 1⟩, ⟨"H", 5, 2, false, "", "", 2⟩, ⟨"V", 5, 3, false, "", "", 3⟩, ⟨"A", 3, 4, false, "", "", 8⟩, ⟨"B", 3, 5, false, "", "", 16⟩, ⟨"C", 3, 6, false, "", "", 24⟩], 7, 32, .agg #[.int .u8 0, .int .u8 0, .int .u8 0, .int .u8 0, .int .i64 0, .int .i64 0, .int .i64 0], [(0, 1), (1, 1), (2, 1), (3, 1), (4, 1), (5, 1), (6, 1)], (some (.pair (.int .u8) (.pair (.int .u8) (.pair (.int .u8) (.pair (.int .u8) (.pair (.int .i64) (.pair (.int .i64) (.int .i64)))))))), false⟩
theorem VA:bq Tryz.prog 42 Od:=az Tryz.underlying42 (aR (by kernel_rfl) rfl rfl) (fun fs h w=>by cases h;kernel_rfl) (aP rfl (by kernel_rfl) (by kernel_rfl))
def Oc:cU:=⟨.slice 3,1,24,.slice none 0 0,[],(some (.aJ (.int .i64))),false⟩
theorem Fx:bq Tryz.prog 43 Oc:=az Tryz.underlying43 (aR (by kernel_rfl) rfl rfl) (fun _ h=>by cases h) (aP rfl (by kernel_rfl) (by kernel_rfl))
def Oa : cU := ⟨.struct #[⟨"Code", 33, 0, false, "", "", 0⟩, ⟨"N", 3, 1, false, "", "", 8⟩, ⟨"Said", 43, 2, false, "", "", 16⟩], 3, 40, .agg #[.int .i64 0, .int .i64 0, .slice none 0 0], [(0, 1), (1, 1), (2, 1)], (some (.pair (.int .i64) (.pair (.int .i64) (.aJ (.int .i64))))), false⟩
theorem Vz:bq Tryz.prog 44 Oa:=az Tryz.underlying44 (aR (by kernel_rfl) rfl rfl) (fun fs h w=>by cases h;kernel_rfl) (aP rfl (by kernel_rfl) (by kernel_rfl))
def N_ : cU := ⟨.struct #[⟨"Code", 33, 0, false, "", "", 0⟩, ⟨"N", 3, 1, false, "", "", 8⟩, ⟨"Said", 43, 2, false, "", "", 16⟩], 3, 40, .agg #[.int .i64 0, .int .i64 0, .slice none 0 0], [(0, 1), (1, 1), (2, 1)], (some (.pair (.int .i64) (.pair (.int .i64) (.aJ (.int .i64))))), false⟩
theorem Vy:bq Tryz.prog 45 N_:=az Tryz.underlying45 (aR (by kernel_rfl) rfl rfl) (fun fs h w=>by cases h;kernel_rfl) (aP rfl (by kernel_rfl) (by kernel_rfl))
def N9 : cU := ⟨.struct #[⟨"Thread", 3, 0, false, "", "", 0⟩, ⟨"Call", 42, 1, false, "", "", 8⟩, ⟨"From", 3, 8, false, "", "", 40⟩, ⟨"Point", 3, 9, false, "", "", 48⟩, ⟨"To", 3, 10, false, "", "", 56⟩, ⟨"Answer", 45, 11, false, "", "", 64⟩], 14, 104, .agg #[.int .i64 0, .int .u8 0, .int .u8 0, .int .u8 0, .int .u8 0, .int .i64 0, .int .i64 0, .int .i64 0, .int .i64 0, .int .i64 0, .int .i64 0, .int .i64 0, .int .i64 0, .slice none 0 0], [(0, 1), (1, 7), (8, 1), (9, 1), (10, 1), (11, 3)], (some (.pair (.int .i64) (.pair (.pair (.int .u8) (.pair (.int .u8) (.pair (.int .u8) (.pair (.int .u8) (.pair (.int .i64) (.pair (.int .i64) (.int .i64))))))) (.pair (.int .i64) (.pair (.int .i64) (.pair (.int .i64) (.pair (.int .i64) (.pair (.int .i64) (.aJ (.int .i64)))))))))), false⟩
theorem Vx:bq Tryz.prog 46 N9:=az Tryz.underlying46 (aR (by kernel_rfl) rfl rfl) (fun fs h w=>by cases h;kernel_rfl) (aP rfl (by kernel_rfl) (by kernel_rfl))
def N8 : cU := ⟨.struct #[⟨"Thread", 3, 0, false, "", "", 0⟩, ⟨"Call", 42, 1, false, "", "", 8⟩, ⟨"From", 3, 8, false, "", "", 40⟩, ⟨"Point", 3, 9, false, "", "", 48⟩, ⟨"To", 3, 10, false, "", "", 56⟩, ⟨"Answer", 45, 11, false, "", "", 64⟩], 14, 104, .agg #[.int .i64 0, .int .u8 0, .int .u8 0, .int .u8 0, .int .u8 0, .int .i64 0, .int .i64 0, .int .i64 0, .int .i64 0, .int .i64 0, .int .i64 0, .int .i64 0, .int .i64 0, .slice none 0 0], [(0, 1), (1, 7), (8, 1), (9, 1), (10, 1), (11, 3)], (some (.pair (.int .i64) (.pair (.pair (.int .u8) (.pair (.int .u8) (.pair (.int .u8) (.pair (.int .u8) (.pair (.int .i64) (.pair (.int .i64) (.int .i64))))))) (.pair (.int .i64) (.pair (.int .i64) (.pair (.int .i64) (.pair (.int .i64) (.pair (.int .i64) (.aJ (.int .i64)))))))))), false⟩
theorem OD:bq Tryz.prog 47 N8:=az Tryz.underlying47 (aR (by kernel_rfl) rfl rfl) (fun fs h w=>by cases h;kernel_rfl) (aP rfl (by kernel_rfl) (by kernel_rfl))
def N7:cU:=⟨.slice 42,1,24,.slice none 0 0,[],(some (.aJ (.pair (.int .u8) (.pair (.int .u8) (.pair (.int .u8) (.pair (.int .u8) (.pair (.int .i64) (.pair (.int .i64) (.int .i64))))))))),false⟩
theorem Vw:bq Tryz.prog 49 N7:=az Tryz.underlying49 (aR (by kernel_rfl) rfl rfl) (fun _ h=>by cases h) (aP rfl (by kernel_rfl) (by kernel_rfl))
def N6:cU:=⟨.slice 80,1,24,.slice none 0 0,[],(some (.aJ (.int .u64))),false⟩
theorem Vv:bq Tryz.prog 51 N6:=az Tryz.underlying51 (aR (by kernel_rfl) rfl rfl) (fun _ h=>by cases h) (aP rfl (by kernel_rfl) (by kernel_rfl))
def N5:cU:=⟨.array 4 51,4,96,.agg #[.slice none 0 0,.slice none 0 0,.slice none 0 0,.slice none 0 0],[],(some (.arr 4 (.aJ (.int .u64)))),false⟩
theorem Vu:bq Tryz.prog 52 N5:=az Tryz.underlying52 (aR (by kernel_rfl) rfl rfl) (fun _ h=>by cases h) (aP rfl (by kernel_rfl) (by kernel_rfl))
def N4:cU:=⟨.slice 95,1,24,.slice none 0 0,[],(some (.aJ (.pair (.int .i64) .bool))),false⟩
theorem Vt:bq Tryz.prog 53 N4:=az Tryz.underlying53 (aR (by kernel_rfl) rfl rfl) (fun _ h=>by cases h) (aP rfl (by kernel_rfl) (by kernel_rfl))
def N3:cU:=⟨.array 4 53,4,96,.agg #[.slice none 0 0,.slice none 0 0,.slice none 0 0,.slice none 0 0],[],(some (.arr 4 (.aJ (.pair (.int .i64) .bool)))),false⟩
theorem Vr:bq Tryz.prog 54 N3:=az Tryz.underlying54 (aR (by kernel_rfl) rfl rfl) (fun _ h=>by cases h) (aP rfl (by kernel_rfl) (by kernel_rfl))
def N2:cU:=⟨.slice 78,1,24,.slice none 0 0,[],(some (.aJ (.pair (.int .u8) (.pair (.int .i64) (.int .i64))))),false⟩
theorem Vq:bq Tryz.prog 59 N2:=az Tryz.underlying59 (aR (by kernel_rfl) rfl rfl) (fun _ h=>by cases h) (aP rfl (by kernel_rfl) (by kernel_rfl))
def N1:cU:=⟨.pointer 140,1,8,.pointer none,[],(some (.ptr 1)),false⟩
theorem Vp:bq Tryz.prog 69 N1:=az Tryz.underlying69 (aR (by kernel_rfl) rfl rfl) (fun _ h=>by cases h) (aP rfl (by kernel_rfl) (by kernel_rfl))
def N0:cU:=⟨.pointer 143,1,8,.pointer none,[],(some (.ptr 3)),false⟩
theorem Vo:bq Tryz.prog 70 N0:=az Tryz.underlying70 (aR (by kernel_rfl) rfl rfl) (fun _ h=>by cases h) (aP rfl (by kernel_rfl) (by kernel_rfl))
def NZ:cU:=⟨.slice 79,1,24,.slice none 0 0,[],none,false⟩
theorem Vn:bq Tryz.prog 73 NZ:=az Tryz.underlying73 (aR (by kernel_rfl) rfl rfl) (fun _ h=>by cases h) (jX rfl)
def NY : cU := ⟨.struct #[⟨"p", 23, 0, false, "", "penfold/world", 0⟩, ⟨"fins", 24, 4, false, "", "penfold/world", 32⟩, ⟨"arena", 69, 5, false, "", "penfold/world", 56⟩, ⟨"ground", 70, 6, false, "", "penfold/world", 64⟩, ⟨"threads", 73, 7, false, "", "penfold/world", 72⟩, ⟨"ops", 39, 8, false, "", "penfold/world", 96⟩, ⟨"steps", 3, 9, false, "", "penfold/world", 120⟩], 10, 128, .agg #[.int .i64 0, .int .i64 0, .int .i64 0, .int .i64 0, .slice none 0 0, .pointer none, .pointer none, .slice none 0 0, .slice none 0 0, .int .i64 0], [(0, 4), (4, 1), (5, 1), (6, 1), (7, 1), (8, 1), (9, 1)], none, false⟩
theorem Vm:bq Tryz.prog 74 NY:=az Tryz.underlying74 (aR (by kernel_rfl) rfl rfl) (fun fs h w=>by cases h;kernel_rfl) (jX rfl)
def NX : cU := ⟨.struct #[⟨"p", 23, 0, false, "", "penfold/world", 0⟩, ⟨"fins", 24, 4, false, "", "penfold/world", 32⟩, ⟨"arena", 69, 5, false, "", "penfold/world", 56⟩, ⟨"ground", 70, 6, false, "", "penfold/world", 64⟩, ⟨"threads", 73, 7, false, "", "penfold/world", 72⟩, ⟨"ops", 39, 8, false, "", "penfold/world", 96⟩, ⟨"steps", 3, 9, false, "", "penfold/world", 120⟩], 10, 128, .agg #[.int .i64 0, .int .i64 0, .int .i64 0, .int .i64 0, .slice none 0 0, .pointer none, .pointer none, .slice none 0 0, .slice none 0 0, .int .i64 0], [(0, 4), (4, 1), (5, 1), (6, 1), (7, 1), (8, 1), (9, 1)], (some (.pair (.pair (.int .i64) (.pair (.int .i64) (.pair (.int .i64) (.int .i64)))) (.pair (.jQ 9 1) (.pair (.ptr 1) (.pair (.ptr 3) (.pair (.jQ 5 1) (.pair (.jQ 7 14) (.int .i64)))))))), false⟩
theorem Vl:bq Tryz.prog 75 NX:=az Tryz.underlying75 (aR (by kernel_rfl) rfl rfl) (fun fs h w=>by cases h;kernel_rfl) (aP rfl (by kernel_rfl) (by kernel_rfl))
def NW : cU := ⟨.struct #[⟨"Op", 5, 0, false, "", "", 0⟩, ⟨"A", 3, 1, false, "", "", 8⟩, ⟨"B", 3, 2, false, "", "", 16⟩], 3, 24, .agg #[.int .u8 0, .int .i64 0, .int .i64 0], [(0, 1), (1, 1), (2, 1)], (some (.pair (.int .u8) (.pair (.int .i64) (.int .i64)))), false⟩
theorem Vk:bq Tryz.prog 77 NW:=az Tryz.underlying77 (aR (by kernel_rfl) rfl rfl) (fun fs h w=>by cases h;kernel_rfl) (aP rfl (by kernel_rfl) (by kernel_rfl))
def NV : cU := ⟨.struct #[⟨"Op", 5, 0, false, "", "", 0⟩, ⟨"A", 3, 1, false, "", "", 8⟩, ⟨"B", 3, 2, false, "", "", 16⟩], 3, 24, .agg #[.int .u8 0, .int .i64 0, .int .i64 0], [(0, 1), (1, 1), (2, 1)], (some (.pair (.int .u8) (.pair (.int .i64) (.int .i64)))), false⟩
theorem Vj:bq Tryz.prog 78 NV:=az Tryz.underlying78 (aR (by kernel_rfl) rfl rfl) (fun fs h w=>by cases h;kernel_rfl) (aP rfl (by kernel_rfl) (by kernel_rfl))
def NU:cU:=⟨.pointer 84,1,8,.pointer none,[],(some (.ptr 6)),false⟩
theorem Vi:bq Tryz.prog 79 NU:=az Tryz.underlying79 (aR (by kernel_rfl) rfl rfl) (fun _ h=>by cases h) (aP rfl (by kernel_rfl) (by kernel_rfl))
def NT:cU:=⟨.int .u64,1,8,.int .u64 0,[],(some (.int .u64)),false⟩
theorem Vh:bq Tryz.prog 80 NT:=az Tryz.underlying80 (aR (by kernel_rfl) rfl rfl) (fun _ h=>by cases h) (aP rfl (by kernel_rfl) (by kernel_rfl))
def NS : cU := ⟨.struct #[⟨"Call", 42, 0, false, "", "", 0⟩, ⟨"Pc", 3, 7, false, "", "", 32⟩, ⟨"Area", 3, 8, false, "", "", 40⟩, ⟨"Hand", 80, 9, false, "", "", 48⟩, ⟨"Val", 80, 10, false, "", "", 56⟩, ⟨"Chain", 53, 11, false, "", "", 64⟩, ⟨"Word", 80, 12, false, "", "", 88⟩, ⟨"Next", 80, 13, false, "", "", 96⟩, ⟨"At", 3, 14, false, "", "", 104⟩, ⟨"Top", 3, 15, false, "", "", 112⟩, ⟨"List", 43, 16, false, "", "", 120⟩, ⟨"Op", 3, 17, false, "", "", 144⟩, ⟨"Said", 43, 18, false, "", "", 152⟩, ⟨"N", 3, 19, false, "", "", 176⟩, ⟨"Held", 4, 20, false, "", "", 184⟩, ⟨"Done", 4, 21, false, "", "", 185⟩, ⟨"Point", 4, 22, false, "", "", 186⟩, ⟨"Answer", 45, 23, false, "", "", 192⟩], 26, 232, .agg #[.int .u8 0, .int .u8 0, .int .u8 0, .int .u8 0, .int .i64 0, .int .i64 0, .int .i64 0, .int .i64 0, .int .i64 0, .int .u64 0, .int .u64 0, .slice none 0 0, .int .u64 0, .int .u64 0, .int .i64 0, .int .i64 0, .slice none 0 0, .int .i64 0, .slice none 0 0, .int .i64 0, .bool false, .bool false, .bool false, .int .i64 0, .int .i64 0, .slice none 0 0], [(0, 7), (7, 1), (8, 1), (9, 1), (10, 1), (11, 1), (12, 1), (13, 1), (14, 1), (15, 1), (16, 1), (17, 1), (18, 1), (19, 1), (20, 1), (21, 1), (22, 1), (23, 3)], (some (.pair (.pair (.int .u8) (.pair (.int .u8) (.pair (.int .u8) (.pair (.int .u8) (.pair (.int .i64) (.pair (.int .i64) (.int .i64))))))) (.pair (.int .i64) (.pair (.int .i64) (.pair (.int .u64) (.pair (.int .u64) (.pair (.aJ (.pair (.int .i64) .bool)) (.pair (.int .u64) (.pair (.int .u64) (.pair (.int .i64) (.pair (.int .i64) (.pair (.aJ (.int .i64)) (.pair (.int .i64) (.pair (.aJ (.int .i64)) (.pair (.int .i64) (.pair .bool (.pair .bool (.pair .bool (.pair (.int .i64) (.pair (.int .i64) (.aJ (.int .i64)))))))))))))))))))))), false⟩
theorem Vg:bq Tryz.prog 81 NS:=az Tryz.underlying81 (aR (by kernel_rfl) rfl rfl) (fun fs h w=>by cases h;kernel_rfl) (aP rfl (by kernel_rfl) (by kernel_rfl))
def NR : cU := ⟨.struct #[⟨"Call", 42, 0, false, "", "", 0⟩, ⟨"Pc", 3, 7, false, "", "", 32⟩, ⟨"Area", 3, 8, false, "", "", 40⟩, ⟨"Hand", 80, 9, false, "", "", 48⟩, ⟨"Val", 80, 10, false, "", "", 56⟩, ⟨"Chain", 53, 11, false, "", "", 64⟩, ⟨"Word", 80, 12, false, "", "", 88⟩, ⟨"Next", 80, 13, false, "", "", 96⟩, ⟨"At", 3, 14, false, "", "", 104⟩, ⟨"Top", 3, 15, false, "", "", 112⟩, ⟨"List", 43, 16, false, "", "", 120⟩, ⟨"Op", 3, 17, false, "", "", 144⟩, ⟨"Said", 43, 18, false, "", "", 152⟩, ⟨"N", 3, 19, false, "", "", 176⟩, ⟨"Held", 4, 20, false, "", "", 184⟩, ⟨"Done", 4, 21, false, "", "", 185⟩, ⟨"Point", 4, 22, false, "", "", 186⟩, ⟨"Answer", 45, 23, false, "", "", 192⟩], 26, 232, .agg #[.int .u8 0, .int .u8 0, .int .u8 0, .int .u8 0, .int .i64 0, .int .i64 0, .int .i64 0, .int .i64 0, .int .i64 0, .int .u64 0, .int .u64 0, .slice none 0 0, .int .u64 0, .int .u64 0, .int .i64 0, .int .i64 0, .slice none 0 0, .int .i64 0, .slice none 0 0, .int .i64 0, .bool false, .bool false, .bool false, .int .i64 0, .int .i64 0, .slice none 0 0], [(0, 7), (7, 1), (8, 1), (9, 1), (10, 1), (11, 1), (12, 1), (13, 1), (14, 1), (15, 1), (16, 1), (17, 1), (18, 1), (19, 1), (20, 1), (21, 1), (22, 1), (23, 3)], (some (.pair (.pair (.int .u8) (.pair (.int .u8) (.pair (.int .u8) (.pair (.int .u8) (.pair (.int .i64) (.pair (.int .i64) (.int .i64))))))) (.pair (.int .i64) (.pair (.int .i64) (.pair (.int .u64) (.pair (.int .u64) (.pair (.aJ (.pair (.int .i64) .bool)) (.pair (.int .u64) (.pair (.int .u64) (.pair (.int .i64) (.pair (.int .i64) (.pair (.aJ (.int .i64)) (.pair (.int .i64) (.pair (.aJ (.int .i64)) (.pair (.int .i64) (.pair .bool (.pair .bool (.pair .bool (.pair (.int .i64) (.pair (.int .i64) (.aJ (.int .i64)))))))))))))))))))))), false⟩
theorem Vf:bq Tryz.prog 82 NR:=az Tryz.underlying82 (aR (by kernel_rfl) rfl rfl) (fun fs h w=>by cases h;kernel_rfl) (aP rfl (by kernel_rfl) (by kernel_rfl))
def NQ : cU := ⟨.struct #[⟨"calls", 49, 0, false, "", "penfold/world", 0⟩, ⟨"regs", 51, 1, false, "", "penfold/world", 24⟩, ⟨"entries", 53, 2, false, "", "penfold/world", 48⟩, ⟨"run", 82, 3, false, "", "penfold/world", 72⟩, ⟨"busy", 4, 29, false, "", "penfold/world", 304⟩, ⟨"at", 3, 30, false, "", "penfold/world", 312⟩], 31, 320, .agg #[.slice none 0 0, .slice none 0 0, .slice none 0 0, .int .u8 0, .int .u8 0, .int .u8 0, .int .u8 0, .int .i64 0, .int .i64 0, .int .i64 0, .int .i64 0, .int .i64 0, .int .u64 0, .int .u64 0, .slice none 0 0, .int .u64 0, .int .u64 0, .int .i64 0, .int .i64 0, .slice none 0 0, .int .i64 0, .slice none 0 0, .int .i64 0, .bool false, .bool false, .bool false, .int .i64 0, .int .i64 0, .slice none 0 0, .bool false, .int .i64 0], [(0, 1), (1, 1), (2, 1), (3, 26), (29, 1), (30, 1)], (some (.pair (.aJ (.pair (.int .u8) (.pair (.int .u8) (.pair (.int .u8) (.pair (.int .u8) (.pair (.int .i64) (.pair (.int .i64) (.int .i64)))))))) (.pair (.aJ (.int .u64)) (.pair (.aJ (.pair (.int .i64) .bool)) (.pair (.pair (.pair (.int .u8) (.pair (.int .u8) (.pair (.int .u8) (.pair (.int .u8) (.pair (.int .i64) (.pair (.int .i64) (.int .i64))))))) (.pair (.int .i64) (.pair (.int .i64) (.pair (.int .u64) (.pair (.int .u64) (.pair (.aJ (.pair (.int .i64) .bool)) (.pair (.int .u64) (.pair (.int .u64) (.pair (.int .i64) (.pair (.int .i64) (.pair (.aJ (.int .i64)) (.pair (.int .i64) (.pair (.aJ (.int .i64)) (.pair (.int .i64) (.pair .bool (.pair .bool (.pair .bool (.pair (.int .i64) (.pair (.int .i64) (.aJ (.int .i64))))))))))))))))))))) (.pair .bool (.int .i64))))))), false⟩
theorem Ve:bq Tryz.prog 83 NQ:=az Tryz.underlying83 (aR (by kernel_rfl) rfl rfl) (fun fs h w=>by cases h;kernel_rfl) (aP rfl (by kernel_rfl) (by kernel_rfl))
def NP : cU := ⟨.struct #[⟨"calls", 49, 0, false, "", "penfold/world", 0⟩, ⟨"regs", 51, 1, false, "", "penfold/world", 24⟩, ⟨"entries", 53, 2, false, "", "penfold/world", 48⟩, ⟨"run", 82, 3, false, "", "penfold/world", 72⟩, ⟨"busy", 4, 29, false, "", "penfold/world", 304⟩, ⟨"at", 3, 30, false, "", "penfold/world", 312⟩], 31, 320, .agg #[.slice none 0 0, .slice none 0 0, .slice none 0 0, .int .u8 0, .int .u8 0, .int .u8 0, .int .u8 0, .int .i64 0, .int .i64 0, .int .i64 0, .int .i64 0, .int .i64 0, .int .u64 0, .int .u64 0, .slice none 0 0, .int .u64 0, .int .u64 0, .int .i64 0, .int .i64 0, .slice none 0 0, .int .i64 0, .slice none 0 0, .int .i64 0, .bool false, .bool false, .bool false, .int .i64 0, .int .i64 0, .slice none 0 0, .bool false, .int .i64 0], [(0, 1), (1, 1), (2, 1), (3, 26), (29, 1), (30, 1)], (some (.pair (.aJ (.pair (.int .u8) (.pair (.int .u8) (.pair (.int .u8) (.pair (.int .u8) (.pair (.int .i64) (.pair (.int .i64) (.int .i64)))))))) (.pair (.jQ 8 1) (.pair (.aJ (.pair (.int .i64) .bool)) (.pair (.pair (.pair (.int .u8) (.pair (.int .u8) (.pair (.int .u8) (.pair (.int .u8) (.pair (.int .i64) (.pair (.int .i64) (.int .i64))))))) (.pair (.int .i64) (.pair (.int .i64) (.pair (.int .u64) (.pair (.int .u64) (.pair (.aJ (.pair (.int .i64) .bool)) (.pair (.int .u64) (.pair (.int .u64) (.pair (.int .i64) (.pair (.int .i64) (.pair (.aJ (.int .i64)) (.pair (.int .i64) (.pair (.aJ (.int .i64)) (.pair (.int .i64) (.pair .bool (.pair .bool (.pair .bool (.pair (.int .i64) (.pair (.int .i64) (.aJ (.int .i64))))))))))))))))))))) (.pair .bool (.int .i64))))))), false⟩
theorem Vd:bq Tryz.prog 84 NP:=az Tryz.underlying84 (aR (by kernel_rfl) rfl rfl) (fun fs h w=>by cases h;kernel_rfl) (aP rfl (by kernel_rfl) (by kernel_rfl))
def NO:cU:=⟨.pointer 47,1,8,.pointer none,[],none,false⟩
theorem Vc:bq Tryz.prog 89 NO:=az Tryz.underlying89 (aR (by kernel_rfl) rfl rfl) (fun _ h=>by cases h) (jX rfl)
def NN : cU := ⟨.struct #[⟨"Scope", 3, 0, false, "", "", 0⟩, ⟨"Counted", 4, 1, false, "", "", 8⟩], 2, 16, .agg #[.int .i64 0, .bool false], [(0, 1), (1, 1)], (some (.pair (.int .i64) .bool)), false⟩
theorem Vb:bq Tryz.prog 94 NN:=az Tryz.underlying94 (aR (by kernel_rfl) rfl rfl) (fun fs h w=>by cases h;kernel_rfl) (aP rfl (by kernel_rfl) (by kernel_rfl))
def NM : cU := ⟨.struct #[⟨"Scope", 3, 0, false, "", "", 0⟩, ⟨"Counted", 4, 1, false, "", "", 8⟩], 2, 16, .agg #[.int .i64 0, .bool false], [(0, 1), (1, 1)], (some (.pair (.int .i64) .bool)), false⟩
theorem Va:bq Tryz.prog 95 NM:=az Tryz.underlying95 (aR (by kernel_rfl) rfl rfl) (fun fs h w=>by cases h;kernel_rfl) (aP rfl (by kernel_rfl) (by kernel_rfl))
def NL:cU:=⟨.func #[135,78] #[] false,1,8,.nilFunc,[],none,false⟩
theorem U_:bq Tryz.prog 97 NL:=az Tryz.underlying97 (aR (by kernel_rfl) rfl rfl) (fun _ h=>by cases h) (jX rfl)
def NK : cU := ⟨.struct #[⟨"a", 3, 0, false, "", "penfold/fin", 0⟩, ⟨"b", 3, 1, false, "", "penfold/fin", 8⟩, ⟨"do", 97, 2, false, "", "penfold/fin", 16⟩], 3, 24, .agg #[.int .i64 0, .int .i64 0, .nilFunc], [(0, 1), (1, 1), (2, 1)], none, false⟩
theorem UZ:bq Tryz.prog 98 NK:=az Tryz.underlying98 (aR (by kernel_rfl) rfl rfl) (fun fs h w=>by cases h;kernel_rfl) (jX rfl)
def NJ : cU := ⟨.struct #[⟨"a", 3, 0, false, "", "penfold/fin", 0⟩, ⟨"b", 3, 1, false, "", "penfold/fin", 8⟩, ⟨"do", 97, 2, false, "", "penfold/fin", 16⟩], 3, 24, .agg #[.int .i64 0, .int .i64 0, .nilFunc], [(0, 1), (1, 1), (2, 1)], none, false⟩
theorem UY:bq Tryz.prog 99 NJ:=az Tryz.underlying99 (aR (by kernel_rfl) rfl rfl) (fun fs h w=>by cases h;kernel_rfl) (jX rfl)
def IB:cU:=⟨.array 5 99,15,120,.agg #[.int .i64 0,.int .i64 0,.nilFunc,.int .i64 0,.int .i64 0,.nilFunc,.int .i64 0,.int .i64 0,.nilFunc,.int .i64 0,.int .i64 0,.nilFunc,.int .i64 0,.int .i64 0,.nilFunc],[],none,false⟩
theorem Pn:bq Tryz.prog 100 IB:=az Tryz.underlying100 (aR (by kernel_rfl) rfl rfl) (fun _ h=>by cases h) (jX rfl)
def IA : cU := ⟨.struct #[⟨"At", 3, 0, false, "", "", 0⟩, ⟨"Size", 3, 1, false, "", "", 8⟩], 2, 16, .agg #[.int .i64 0, .int .i64 0], [(0, 1), (1, 1)], (some (.pair (.int .i64) (.int .i64))), false⟩
theorem Pm:bq Tryz.prog 107 IA:=az Tryz.underlying107 (aR (by kernel_rfl) rfl rfl) (fun fs h w=>by cases h;kernel_rfl) (aP rfl (by kernel_rfl) (by kernel_rfl))
def Iz : cU := ⟨.struct #[⟨"At", 3, 0, false, "", "", 0⟩, ⟨"Size", 3, 1, false, "", "", 8⟩], 2, 16, .agg #[.int .i64 0, .int .i64 0], [(0, 1), (1, 1)], (some (.pair (.int .i64) (.int .i64))), false⟩
theorem Pk:bq Tryz.prog 108 Iz:=az Tryz.underlying108 (aR (by kernel_rfl) rfl rfl) (fun fs h w=>by cases h;kernel_rfl) (aP rfl (by kernel_rfl) (by kernel_rfl))
def Iy : cU := ⟨.struct #[⟨"a", 69, 0, false, "", "penfold/found", 0⟩, ⟨"p", 23, 1, false, "", "penfold/found", 8⟩, ⟨"s", 3, 5, false, "", "penfold/found", 40⟩], 6, 48, .agg #[.pointer none, .int .i64 0, .int .i64 0, .int .i64 0, .int .i64 0, .int .i64 0], [(0, 1), (1, 4), (5, 1)], (some (.pair (.ptr 1) (.pair (.pair (.int .i64) (.pair (.int .i64) (.pair (.int .i64) (.int .i64)))) (.int .i64)))), false⟩
theorem Pj:bq Tryz.prog 113 Iy:=az Tryz.underlying113 (aR (by kernel_rfl) rfl rfl) (fun fs h w=>by cases h;kernel_rfl) (aP rfl (by kernel_rfl) (by kernel_rfl))
def Ix : cU := ⟨.struct #[⟨"a", 69, 0, false, "", "penfold/found", 0⟩, ⟨"p", 23, 1, false, "", "penfold/found", 8⟩, ⟨"s", 3, 5, false, "", "penfold/found", 40⟩], 6, 48, .agg #[.pointer none, .int .i64 0, .int .i64 0, .int .i64 0, .int .i64 0, .int .i64 0], [(0, 1), (1, 4), (5, 1)], (some (.pair (.ptr 1) (.pair (.pair (.int .i64) (.pair (.int .i64) (.pair (.int .i64) (.int .i64)))) (.int .i64)))), false⟩
theorem Ph:bq Tryz.prog 114 Ix:=az Tryz.underlying114 (aR (by kernel_rfl) rfl rfl) (fun fs h w=>by cases h;kernel_rfl) (aP rfl (by kernel_rfl) (by kernel_rfl))
def Iw : cU := ⟨.struct #[⟨"State", 3, 0, false, "", "", 0⟩, ⟨"Count", 3, 1, false, "", "", 8⟩, ⟨"Parent", 3, 2, false, "", "", 16⟩, ⟨"Epoch", 3, 3, false, "", "", 24⟩], 4, 32, .agg #[.int .i64 0, .int .i64 0, .int .i64 0, .int .i64 0], [(0, 1), (1, 1), (2, 1), (3, 1)], (some (.pair (.int .i64) (.pair (.int .i64) (.pair (.int .i64) (.int .i64))))), false⟩
theorem Pg:bq Tryz.prog 116 Iw:=az Tryz.underlying116 (aR (by kernel_rfl) rfl rfl) (fun fs h w=>by cases h;kernel_rfl) (aP rfl (by kernel_rfl) (by kernel_rfl))
def Iv : cU := ⟨.struct #[⟨"State", 3, 0, false, "", "", 0⟩, ⟨"Count", 3, 1, false, "", "", 8⟩, ⟨"Parent", 3, 2, false, "", "", 16⟩, ⟨"Epoch", 3, 3, false, "", "", 24⟩], 4, 32, .agg #[.int .i64 0, .int .i64 0, .int .i64 0, .int .i64 0], [(0, 1), (1, 1), (2, 1), (3, 1)], (some (.pair (.int .i64) (.pair (.int .i64) (.pair (.int .i64) (.int .i64))))), false⟩
theorem Pf:bq Tryz.prog 117 Iv:=az Tryz.underlying117 (aR (by kernel_rfl) rfl rfl) (fun fs h w=>by cases h;kernel_rfl) (aP rfl (by kernel_rfl) (by kernel_rfl))
def Iu : cU := ⟨.struct #[⟨"p", 23, 0, false, "", "penfold/begin", 0⟩, ⟨"l", 53, 4, false, "", "penfold/begin", 32⟩, ⟨"c", 42, 5, false, "", "penfold/begin", 56⟩, ⟨"h", 80, 12, false, "", "penfold/begin", 88⟩, ⟨"v", 80, 13, false, "", "penfold/begin", 96⟩], 14, 104, .agg #[.int .i64 0, .int .i64 0, .int .i64 0, .int .i64 0, .slice none 0 0, .int .u8 0, .int .u8 0, .int .u8 0, .int .u8 0, .int .i64 0, .int .i64 0, .int .i64 0, .int .u64 0, .int .u64 0], [(0, 4), (4, 1), (5, 7), (12, 1), (13, 1)], (some (.pair (.pair (.int .i64) (.pair (.int .i64) (.pair (.int .i64) (.int .i64)))) (.pair (.aJ (.pair (.int .i64) .bool)) (.pair (.pair (.int .u8) (.pair (.int .u8) (.pair (.int .u8) (.pair (.int .u8) (.pair (.int .i64) (.pair (.int .i64) (.int .i64))))))) (.pair (.int .u64) (.int .u64)))))), false⟩
theorem Pe:bq Tryz.prog 120 Iu:=az Tryz.underlying120 (aR (by kernel_rfl) rfl rfl) (fun fs h w=>by cases h;kernel_rfl) (aP rfl (by kernel_rfl) (by kernel_rfl))
def It : cU := ⟨.struct #[⟨"p", 23, 0, false, "", "penfold/begin", 0⟩, ⟨"l", 53, 4, false, "", "penfold/begin", 32⟩, ⟨"c", 42, 5, false, "", "penfold/begin", 56⟩, ⟨"h", 80, 12, false, "", "penfold/begin", 88⟩, ⟨"v", 80, 13, false, "", "penfold/begin", 96⟩], 14, 104, .agg #[.int .i64 0, .int .i64 0, .int .i64 0, .int .i64 0, .slice none 0 0, .int .u8 0, .int .u8 0, .int .u8 0, .int .u8 0, .int .i64 0, .int .i64 0, .int .i64 0, .int .u64 0, .int .u64 0], [(0, 4), (4, 1), (5, 7), (12, 1), (13, 1)], (some (.pair (.pair (.int .i64) (.pair (.int .i64) (.pair (.int .i64) (.int .i64)))) (.pair (.aJ (.pair (.int .i64) .bool)) (.pair (.pair (.int .u8) (.pair (.int .u8) (.pair (.int .u8) (.pair (.int .u8) (.pair (.int .i64) (.pair (.int .i64) (.int .i64))))))) (.pair (.int .u64) (.int .u64)))))), false⟩
theorem Pd:bq Tryz.prog 121 It:=az Tryz.underlying121 (aR (by kernel_rfl) rfl rfl) (fun fs h w=>by cases h;kernel_rfl) (aP rfl (by kernel_rfl) (by kernel_rfl))
def Is:cU:=⟨.pointer 137,1,8,.pointer none,[],none,false⟩
theorem Pb:bq Tryz.prog 135 Is:=az Tryz.underlying135 (aR (by kernel_rfl) rfl rfl) (fun _ h=>by cases h) (jX rfl)
def Ir : cU := ⟨.struct #[⟨"slots", 51, 0, false, "", "penfold/fin", 0⟩, ⟨"said", 43, 1, false, "", "penfold/fin", 24⟩, ⟨"held", 4, 2, false, "", "penfold/fin", 48⟩, ⟨"skip", 3, 3, false, "", "penfold/fin", 56⟩], 4, 64, .agg #[.slice none 0 0, .slice none 0 0, .bool false, .int .i64 0], [(0, 1), (1, 1), (2, 1), (3, 1)], (some (.pair (.aJ (.int .u64)) (.pair (.aJ (.int .i64)) (.pair .bool (.int .i64))))), false⟩
theorem Pa:bq Tryz.prog 136 Ir:=az Tryz.underlying136 (aR (by kernel_rfl) rfl rfl) (fun fs h w=>by cases h;kernel_rfl) (aP rfl (by kernel_rfl) (by kernel_rfl))
def Iq : cU := ⟨.struct #[⟨"slots", 51, 0, false, "", "penfold/fin", 0⟩, ⟨"said", 43, 1, false, "", "penfold/fin", 24⟩, ⟨"held", 4, 2, false, "", "penfold/fin", 48⟩, ⟨"skip", 3, 3, false, "", "penfold/fin", 56⟩], 4, 64, .agg #[.slice none 0 0, .slice none 0 0, .bool false, .int .i64 0], [(0, 1), (1, 1), (2, 1), (3, 1)], none, false⟩
theorem O_:bq Tryz.prog 137 Iq:=az Tryz.underlying137 (aR (by kernel_rfl) rfl rfl) (fun fs h w=>by cases h;kernel_rfl) (jX rfl)
def Ip : cU := ⟨.struct #[⟨"b", 28, 0, false, "", "penfold/arena", 0⟩], 1, 24, .agg #[.slice none 0 0], [(0, 1)], (some (.aJ (.int .u8))), false⟩
theorem O9:bq Tryz.prog 139 Ip:=az Tryz.underlying139 (aR (by kernel_rfl) rfl rfl) (fun fs h w=>by cases h;kernel_rfl) (aP rfl (by kernel_rfl) (by kernel_rfl))
def Io : cU := ⟨.struct #[⟨"b", 28, 0, false, "", "penfold/arena", 0⟩], 1, 24, .agg #[.slice none 0 0], [(0, 1)], (some (.jQ 2 1)), false⟩
theorem O8:bq Tryz.prog 140 Io:=az Tryz.underlying140 (aR (by kernel_rfl) rfl rfl) (fun fs h w=>by cases h;kernel_rfl) (aP rfl (by kernel_rfl) (by kernel_rfl))
def Im:cU:=⟨.slice 108,1,24,.slice none 0 0,[],(some (.aJ (.pair (.int .i64) (.int .i64)))),false⟩
theorem O7:bq Tryz.prog 141 Im:=az Tryz.underlying141 (aR (by kernel_rfl) rfl rfl) (fun _ h=>by cases h) (aP rfl (by kernel_rfl) (by kernel_rfl))
def Il : cU := ⟨.struct #[⟨"from", 3, 0, false, "", "penfold/ground", 0⟩, ⟨"end", 3, 1, false, "", "penfold/ground", 8⟩, ⟨"free", 141, 2, false, "", "penfold/ground", 16⟩], 3, 40, .agg #[.int .i64 0, .int .i64 0, .slice none 0 0], [(0, 1), (1, 1), (2, 1)], (some (.pair (.int .i64) (.pair (.int .i64) (.aJ (.pair (.int .i64) (.int .i64)))))), false⟩
theorem O6:bq Tryz.prog 142 Il:=az Tryz.underlying142 (aR (by kernel_rfl) rfl rfl) (fun fs h w=>by cases h;kernel_rfl) (aP rfl (by kernel_rfl) (by kernel_rfl))
def Ik : cU := ⟨.struct #[⟨"from", 3, 0, false, "", "penfold/ground", 0⟩, ⟨"end", 3, 1, false, "", "penfold/ground", 8⟩, ⟨"free", 141, 2, false, "", "penfold/ground", 16⟩], 3, 40, .agg #[.int .i64 0, .int .i64 0, .slice none 0 0], [(0, 1), (1, 1), (2, 1)], (some (.pair (.int .i64) (.pair (.int .i64) (.jQ 4 2)))), false⟩
theorem O5:bq Tryz.prog 143 Ik:=az Tryz.underlying143 (aR (by kernel_rfl) rfl rfl) (fun fs h w=>by cases h;kernel_rfl) (aP rfl (by kernel_rfl) (by kernel_rfl))
def Ij : cU := ⟨.struct #[⟨"Scope", 3, 0, false, "", "", 0⟩, ⟨"Epoch", 3, 1, false, "", "", 8⟩, ⟨"At", 3, 2, false, "", "", 16⟩], 3, 24, .agg #[.int .i64 0, .int .i64 0, .int .i64 0], [(0, 1), (1, 1), (2, 1)], (some (.pair (.int .i64) (.pair (.int .i64) (.int .i64)))), false⟩
theorem O4:bq Tryz.prog 151 Ij:=az Tryz.underlying151 (aR (by kernel_rfl) rfl rfl) (fun fs h w=>by cases h;kernel_rfl) (aP rfl (by kernel_rfl) (by kernel_rfl))
def Ii : cU := ⟨.struct #[⟨"Scope", 3, 0, false, "", "", 0⟩, ⟨"Epoch", 3, 1, false, "", "", 8⟩, ⟨"At", 3, 2, false, "", "", 16⟩], 3, 24, .agg #[.int .i64 0, .int .i64 0, .int .i64 0], [(0, 1), (1, 1), (2, 1)], (some (.pair (.int .i64) (.pair (.int .i64) (.int .i64)))), false⟩
theorem O3:bq Tryz.prog 152 Ii:=az Tryz.underlying152 (aR (by kernel_rfl) rfl rfl) (fun fs h w=>by cases h;kernel_rfl) (aP rfl (by kernel_rfl) (by kernel_rfl))
def Ih:cU:=⟨.func #[166] #[] false,1,8,.nilFunc,[],none,false⟩
theorem O2:bq Tryz.prog 165 Ih:=az Tryz.underlying165 (aR (by kernel_rfl) rfl rfl) (fun _ h=>by cases h) (jX rfl)
def Ig:cU:=⟨.pointer 170,1,8,.pointer none,[],none,false⟩
theorem O1:bq Tryz.prog 166 Ig:=az Tryz.underlying166 (aR (by kernel_rfl) rfl rfl) (fun _ h=>by cases h) (jX rfl)
def Ie:cU:=⟨.map 3 165,1,8,.map none,[],none,false⟩
theorem O0:bq Tryz.prog 167 Ie:=az Tryz.underlying167 (aR (by kernel_rfl) rfl rfl) (fun _ h=>by cases h) (jX rfl)
def Ic : cU := ⟨.struct #[⟨"p", 23, 0, false, "", "penfold/take", 0⟩, ⟨"a", 69, 4, false, "", "penfold/take", 32⟩, ⟨"r", 82, 5, false, "", "penfold/take", 40⟩], 31, 272, .agg #[.int .i64 0, .int .i64 0, .int .i64 0, .int .i64 0, .pointer none, .int .u8 0, .int .u8 0, .int .u8 0, .int .u8 0, .int .i64 0, .int .i64 0, .int .i64 0, .int .i64 0, .int .i64 0, .int .u64 0, .int .u64 0, .slice none 0 0, .int .u64 0, .int .u64 0, .int .i64 0, .int .i64 0, .slice none 0 0, .int .i64 0, .slice none 0 0, .int .i64 0, .bool false, .bool false, .bool false, .int .i64 0, .int .i64 0, .slice none 0 0], [(0, 4), (4, 1), (5, 26)], (some (.pair (.pair (.int .i64) (.pair (.int .i64) (.pair (.int .i64) (.int .i64)))) (.pair (.ptr 1) (.pair (.pair (.int .u8) (.pair (.int .u8) (.pair (.int .u8) (.pair (.int .u8) (.pair (.int .i64) (.pair (.int .i64) (.int .i64))))))) (.pair (.int .i64) (.pair (.int .i64) (.pair (.int .u64) (.pair (.int .u64) (.pair (.aJ (.pair (.int .i64) .bool)) (.pair (.int .u64) (.pair (.int .u64) (.pair (.int .i64) (.pair (.int .i64) (.pair (.aJ (.int .i64)) (.pair (.int .i64) (.pair (.aJ (.int .i64)) (.pair (.int .i64) (.pair .bool (.pair .bool (.pair .bool (.pair (.int .i64) (.pair (.int .i64) (.aJ (.int .i64)))))))))))))))))))))))), false⟩
theorem OZ:bq Tryz.prog 169 Ic:=az Tryz.underlying169 (aR (by kernel_rfl) rfl rfl) (fun fs h w=>by cases h;kernel_rfl) (aP rfl (by kernel_rfl) (by kernel_rfl))
def Ib : cU := ⟨.struct #[⟨"p", 23, 0, false, "", "penfold/take", 0⟩, ⟨"a", 69, 4, false, "", "penfold/take", 32⟩, ⟨"r", 82, 5, false, "", "penfold/take", 40⟩], 31, 272, .agg #[.int .i64 0, .int .i64 0, .int .i64 0, .int .i64 0, .pointer none, .int .u8 0, .int .u8 0, .int .u8 0, .int .u8 0, .int .i64 0, .int .i64 0, .int .i64 0, .int .i64 0, .int .i64 0, .int .u64 0, .int .u64 0, .slice none 0 0, .int .u64 0, .int .u64 0, .int .i64 0, .int .i64 0, .slice none 0 0, .int .i64 0, .slice none 0 0, .int .i64 0, .bool false, .bool false, .bool false, .int .i64 0, .int .i64 0, .slice none 0 0], [(0, 4), (4, 1), (5, 26)], (some (.pair (.pair (.int .i64) (.pair (.int .i64) (.pair (.int .i64) (.int .i64)))) (.pair (.ptr 1) (.pair (.pair (.int .u8) (.pair (.int .u8) (.pair (.int .u8) (.pair (.int .u8) (.pair (.int .i64) (.pair (.int .i64) (.int .i64))))))) (.pair (.int .i64) (.pair (.int .i64) (.pair (.int .u64) (.pair (.int .u64) (.pair (.aJ (.pair (.int .i64) .bool)) (.pair (.int .u64) (.pair (.int .u64) (.pair (.int .i64) (.pair (.int .i64) (.pair (.aJ (.int .i64)) (.pair (.int .i64) (.pair (.aJ (.int .i64)) (.pair (.int .i64) (.pair .bool (.pair .bool (.pair .bool (.pair (.int .i64) (.pair (.int .i64) (.aJ (.int .i64)))))))))))))))))))))))), false⟩
theorem OY:bq Tryz.prog 170 Ib:=az Tryz.underlying170 (aR (by kernel_rfl) rfl rfl) (fun fs h w=>by cases h;kernel_rfl) (aP rfl (by kernel_rfl) (by kernel_rfl))
def Ia:cU:=⟨.pointer 173,1,8,.pointer none,[],none,false⟩
theorem OX:bq Tryz.prog 171 Ia:=az Tryz.underlying171 (aR (by kernel_rfl) rfl rfl) (fun _ h=>by cases h) (jX rfl)
def H_ : cU := ⟨.struct #[⟨"a", 69, 0, false, "", "penfold/enter", 0⟩, ⟨"at", 3, 1, false, "", "penfold/enter", 8⟩, ⟨"r", 82, 2, false, "", "penfold/enter", 16⟩], 28, 248, .agg #[.pointer none, .int .i64 0, .int .u8 0, .int .u8 0, .int .u8 0, .int .u8 0, .int .i64 0, .int .i64 0, .int .i64 0, .int .i64 0, .int .i64 0, .int .u64 0, .int .u64 0, .slice none 0 0, .int .u64 0, .int .u64 0, .int .i64 0, .int .i64 0, .slice none 0 0, .int .i64 0, .slice none 0 0, .int .i64 0, .bool false, .bool false, .bool false, .int .i64 0, .int .i64 0, .slice none 0 0], [(0, 1), (1, 1), (2, 26)], (some (.pair (.ptr 1) (.pair (.int .i64) (.pair (.pair (.int .u8) (.pair (.int .u8) (.pair (.int .u8) (.pair (.int .u8) (.pair (.int .i64) (.pair (.int .i64) (.int .i64))))))) (.pair (.int .i64) (.pair (.int .i64) (.pair (.int .u64) (.pair (.int .u64) (.pair (.aJ (.pair (.int .i64) .bool)) (.pair (.int .u64) (.pair (.int .u64) (.pair (.int .i64) (.pair (.int .i64) (.pair (.aJ (.int .i64)) (.pair (.int .i64) (.pair (.aJ (.int .i64)) (.pair (.int .i64) (.pair .bool (.pair .bool (.pair .bool (.pair (.int .i64) (.pair (.int .i64) (.aJ (.int .i64)))))))))))))))))))))))), false⟩
theorem OW:bq Tryz.prog 172 H_:=az Tryz.underlying172 (aR (by kernel_rfl) rfl rfl) (fun fs h w=>by cases h;kernel_rfl) (aP rfl (by kernel_rfl) (by kernel_rfl))
def H9 : cU := ⟨.struct #[⟨"a", 69, 0, false, "", "penfold/enter", 0⟩, ⟨"at", 3, 1, false, "", "penfold/enter", 8⟩, ⟨"r", 82, 2, false, "", "penfold/enter", 16⟩], 28, 248, .agg #[.pointer none, .int .i64 0, .int .u8 0, .int .u8 0, .int .u8 0, .int .u8 0, .int .i64 0, .int .i64 0, .int .i64 0, .int .i64 0, .int .i64 0, .int .u64 0, .int .u64 0, .slice none 0 0, .int .u64 0, .int .u64 0, .int .i64 0, .int .i64 0, .slice none 0 0, .int .i64 0, .slice none 0 0, .int .i64 0, .bool false, .bool false, .bool false, .int .i64 0, .int .i64 0, .slice none 0 0], [(0, 1), (1, 1), (2, 26)], (some (.pair (.ptr 1) (.pair (.int .i64) (.pair (.pair (.int .u8) (.pair (.int .u8) (.pair (.int .u8) (.pair (.int .u8) (.pair (.int .i64) (.pair (.int .i64) (.int .i64))))))) (.pair (.int .i64) (.pair (.int .i64) (.pair (.int .u64) (.pair (.int .u64) (.pair (.aJ (.pair (.int .i64) .bool)) (.pair (.int .u64) (.pair (.int .u64) (.pair (.int .i64) (.pair (.int .i64) (.pair (.aJ (.int .i64)) (.pair (.int .i64) (.pair (.aJ (.int .i64)) (.pair (.int .i64) (.pair .bool (.pair .bool (.pair .bool (.pair (.int .i64) (.pair (.int .i64) (.aJ (.int .i64)))))))))))))))))))))))), false⟩
theorem OV:bq Tryz.prog 173 H9:=az Tryz.underlying173 (aR (by kernel_rfl) rfl rfl) (fun fs h w=>by cases h;kernel_rfl) (aP rfl (by kernel_rfl) (by kernel_rfl))
def H8:cU:=⟨.map 3 1,1,8,.map none,[],none,false⟩
theorem OU:bq Tryz.prog 174 H8:=az Tryz.underlying174 (aR (by kernel_rfl) rfl rfl) (fun _ h=>by cases h) (jX rfl)
def H7:cU:=⟨.func #[180] #[] false,1,8,.nilFunc,[],none,false⟩
theorem OT:bq Tryz.prog 176 H7:=az Tryz.underlying176 (aR (by kernel_rfl) rfl rfl) (fun _ h=>by cases h) (jX rfl)
def H6:cU:=⟨.map 3 176,1,8,.map none,[],none,false⟩
theorem OS:bq Tryz.prog 178 H6:=az Tryz.underlying178 (aR (by kernel_rfl) rfl rfl) (fun _ h=>by cases h) (jX rfl)
def H5:cU:=⟨.pointer 182,1,8,.pointer none,[],none,false⟩
theorem OR:bq Tryz.prog 180 H5:=az Tryz.underlying180 (aR (by kernel_rfl) rfl rfl) (fun _ h=>by cases h) (jX rfl)
def H4 : cU := ⟨.struct #[⟨"p", 23, 0, false, "", "penfold/leave", 0⟩, ⟨"fins", 24, 4, false, "", "penfold/leave", 32⟩, ⟨"a", 69, 5, false, "", "penfold/leave", 56⟩, ⟨"r", 82, 6, false, "", "penfold/leave", 64⟩], 32, 296, .agg #[.int .i64 0, .int .i64 0, .int .i64 0, .int .i64 0, .slice none 0 0, .pointer none, .int .u8 0, .int .u8 0, .int .u8 0, .int .u8 0, .int .i64 0, .int .i64 0, .int .i64 0, .int .i64 0, .int .i64 0, .int .u64 0, .int .u64 0, .slice none 0 0, .int .u64 0, .int .u64 0, .int .i64 0, .int .i64 0, .slice none 0 0, .int .i64 0, .slice none 0 0, .int .i64 0, .bool false, .bool false, .bool false, .int .i64 0, .int .i64 0, .slice none 0 0], [(0, 4), (4, 1), (5, 1), (6, 26)], (some (.pair (.pair (.int .i64) (.pair (.int .i64) (.pair (.int .i64) (.int .i64)))) (.pair (.aJ (.aJ (.pair (.int .u8) (.pair (.int .i64) (.int .i64))))) (.pair (.ptr 1) (.pair (.pair (.int .u8) (.pair (.int .u8) (.pair (.int .u8) (.pair (.int .u8) (.pair (.int .i64) (.pair (.int .i64) (.int .i64))))))) (.pair (.int .i64) (.pair (.int .i64) (.pair (.int .u64) (.pair (.int .u64) (.pair (.aJ (.pair (.int .i64) .bool)) (.pair (.int .u64) (.pair (.int .u64) (.pair (.int .i64) (.pair (.int .i64) (.pair (.aJ (.int .i64)) (.pair (.int .i64) (.pair (.aJ (.int .i64)) (.pair (.int .i64) (.pair .bool (.pair .bool (.pair .bool (.pair (.int .i64) (.pair (.int .i64) (.aJ (.int .i64))))))))))))))))))))))))), false⟩
theorem OQ:bq Tryz.prog 181 H4:=az Tryz.underlying181 (aR (by kernel_rfl) rfl rfl) (fun fs h w=>by cases h;kernel_rfl) (aP rfl (by kernel_rfl) (by kernel_rfl))
def H3 : cU := ⟨.struct #[⟨"p", 23, 0, false, "", "penfold/leave", 0⟩, ⟨"fins", 24, 4, false, "", "penfold/leave", 32⟩, ⟨"a", 69, 5, false, "", "penfold/leave", 56⟩, ⟨"r", 82, 6, false, "", "penfold/leave", 64⟩], 32, 296, .agg #[.int .i64 0, .int .i64 0, .int .i64 0, .int .i64 0, .slice none 0 0, .pointer none, .int .u8 0, .int .u8 0, .int .u8 0, .int .u8 0, .int .i64 0, .int .i64 0, .int .i64 0, .int .i64 0, .int .i64 0, .int .u64 0, .int .u64 0, .slice none 0 0, .int .u64 0, .int .u64 0, .int .i64 0, .int .i64 0, .slice none 0 0, .int .i64 0, .slice none 0 0, .int .i64 0, .bool false, .bool false, .bool false, .int .i64 0, .int .i64 0, .slice none 0 0], [(0, 4), (4, 1), (5, 1), (6, 26)], (some (.pair (.pair (.int .i64) (.pair (.int .i64) (.pair (.int .i64) (.int .i64)))) (.pair (.jQ 9 1) (.pair (.ptr 1) (.pair (.pair (.int .u8) (.pair (.int .u8) (.pair (.int .u8) (.pair (.int .u8) (.pair (.int .i64) (.pair (.int .i64) (.int .i64))))))) (.pair (.int .i64) (.pair (.int .i64) (.pair (.int .u64) (.pair (.int .u64) (.pair (.aJ (.pair (.int .i64) .bool)) (.pair (.int .u64) (.pair (.int .u64) (.pair (.int .i64) (.pair (.int .i64) (.pair (.aJ (.int .i64)) (.pair (.int .i64) (.pair (.aJ (.int .i64)) (.pair (.int .i64) (.pair .bool (.pair .bool (.pair .bool (.pair (.int .i64) (.pair (.int .i64) (.aJ (.int .i64))))))))))))))))))))))))), false⟩
theorem OP:bq Tryz.prog 182 H3:=az Tryz.underlying182 (aR (by kernel_rfl) rfl rfl) (fun fs h w=>by cases h;kernel_rfl) (aP rfl (by kernel_rfl) (by kernel_rfl))
def H2:cU:=⟨.pointer 185,1,8,.pointer none,[],none,false⟩
theorem OO:bq Tryz.prog 183 H2:=az Tryz.underlying183 (aR (by kernel_rfl) rfl rfl) (fun _ h=>by cases h) (jX rfl)
def HZ : cU := ⟨.struct #[⟨"p", 23, 0, false, "", "penfold/slots", 0⟩, ⟨"a", 69, 4, false, "", "penfold/slots", 32⟩, ⟨"r", 82, 5, false, "", "penfold/slots", 40⟩, ⟨"refused", 33, 31, false, "", "penfold/slots", 272⟩], 32, 280, .agg #[.int .i64 0, .int .i64 0, .int .i64 0, .int .i64 0, .pointer none, .int .u8 0, .int .u8 0, .int .u8 0, .int .u8 0, .int .i64 0, .int .i64 0, .int .i64 0, .int .i64 0, .int .i64 0, .int .u64 0, .int .u64 0, .slice none 0 0, .int .u64 0, .int .u64 0, .int .i64 0, .int .i64 0, .slice none 0 0, .int .i64 0, .slice none 0 0, .int .i64 0, .bool false, .bool false, .bool false, .int .i64 0, .int .i64 0, .slice none 0 0, .int .i64 0], [(0, 4), (4, 1), (5, 26), (31, 1)], (some (.pair (.pair (.int .i64) (.pair (.int .i64) (.pair (.int .i64) (.int .i64)))) (.pair (.ptr 1) (.pair (.pair (.pair (.int .u8) (.pair (.int .u8) (.pair (.int .u8) (.pair (.int .u8) (.pair (.int .i64) (.pair (.int .i64) (.int .i64))))))) (.pair (.int .i64) (.pair (.int .i64) (.pair (.int .u64) (.pair (.int .u64) (.pair (.aJ (.pair (.int .i64) .bool)) (.pair (.int .u64) (.pair (.int .u64) (.pair (.int .i64) (.pair (.int .i64) (.pair (.aJ (.int .i64)) (.pair (.int .i64) (.pair (.aJ (.int .i64)) (.pair (.int .i64) (.pair .bool (.pair .bool (.pair .bool (.pair (.int .i64) (.pair (.int .i64) (.aJ (.int .i64))))))))))))))))))))) (.int .i64))))), false⟩
theorem ON:bq Tryz.prog 184 HZ:=az Tryz.underlying184 (aR (by kernel_rfl) rfl rfl) (fun fs h w=>by cases h;kernel_rfl) (aP rfl (by kernel_rfl) (by kernel_rfl))
def HY : cU := ⟨.struct #[⟨"p", 23, 0, false, "", "penfold/slots", 0⟩, ⟨"a", 69, 4, false, "", "penfold/slots", 32⟩, ⟨"r", 82, 5, false, "", "penfold/slots", 40⟩, ⟨"refused", 33, 31, false, "", "penfold/slots", 272⟩], 32, 280, .agg #[.int .i64 0, .int .i64 0, .int .i64 0, .int .i64 0, .pointer none, .int .u8 0, .int .u8 0, .int .u8 0, .int .u8 0, .int .i64 0, .int .i64 0, .int .i64 0, .int .i64 0, .int .i64 0, .int .u64 0, .int .u64 0, .slice none 0 0, .int .u64 0, .int .u64 0, .int .i64 0, .int .i64 0, .slice none 0 0, .int .i64 0, .slice none 0 0, .int .i64 0, .bool false, .bool false, .bool false, .int .i64 0, .int .i64 0, .slice none 0 0, .int .i64 0], [(0, 4), (4, 1), (5, 26), (31, 1)], (some (.pair (.pair (.int .i64) (.pair (.int .i64) (.pair (.int .i64) (.int .i64)))) (.pair (.ptr 1) (.pair (.pair (.pair (.int .u8) (.pair (.int .u8) (.pair (.int .u8) (.pair (.int .u8) (.pair (.int .i64) (.pair (.int .i64) (.int .i64))))))) (.pair (.int .i64) (.pair (.int .i64) (.pair (.int .u64) (.pair (.int .u64) (.pair (.aJ (.pair (.int .i64) .bool)) (.pair (.int .u64) (.pair (.int .u64) (.pair (.int .i64) (.pair (.int .i64) (.pair (.aJ (.int .i64)) (.pair (.int .i64) (.pair (.aJ (.int .i64)) (.pair (.int .i64) (.pair .bool (.pair .bool (.pair .bool (.pair (.int .i64) (.pair (.int .i64) (.aJ (.int .i64))))))))))))))))))))) (.int .i64))))), false⟩
theorem OM:bq Tryz.prog 185 HY:=az Tryz.underlying185 (aR (by kernel_rfl) rfl rfl) (fun fs h w=>by cases h;kernel_rfl) (aP rfl (by kernel_rfl) (by kernel_rfl))
def HX:cU:=⟨.int .u64,1,8,.int .u64 0,[],(some (.int .u64)),false⟩
theorem OL:bq Tryz.prog 191 HX:=az Tryz.underlying191 (aR (by kernel_rfl) rfl rfl) (fun _ h=>by cases h) (aP rfl (by kernel_rfl) (by kernel_rfl))
def HW:cU:=⟨.slice 33,1,24,.slice none 0 0,[],(some (.aJ (.int .i64))),false⟩
theorem OK:bq Tryz.prog 196 HW:=az Tryz.underlying196 (aR (by kernel_rfl) rfl rfl) (fun _ h=>by cases h) (aP rfl (by kernel_rfl) (by kernel_rfl))
def HV:cU:=⟨.pointer 108,1,8,.pointer none,[],none,false⟩
theorem OJ:bq Tryz.prog 203 HV:=az Tryz.underlying203 (aR (by kernel_rfl) rfl rfl) (fun _ h=>by cases h) (jX rfl)
def HU : cU := ⟨.struct #[⟨"Size", 3, 0, false, "", "", 0⟩, ⟨"Slots", 3, 1, false, "", "", 8⟩, ⟨"Tag", 3, 2, false, "", "", 16⟩, ⟨"Done", 4, 3, false, "", "", 24⟩, ⟨"Scope", 3, 4, false, "", "", 32⟩, ⟨"Epoch", 3, 5, false, "", "", 40⟩], 6, 48, .agg #[.int .i64 0, .int .i64 0, .int .i64 0, .bool false, .int .i64 0, .int .i64 0], [(0, 1), (1, 1), (2, 1), (3, 1), (4, 1), (5, 1)], (some (.pair (.int .i64) (.pair (.int .i64) (.pair (.int .i64) (.pair .bool (.pair (.int .i64) (.int .i64))))))), false⟩
theorem OI:bq Tryz.prog 207 HU:=az Tryz.underlying207 (aR (by kernel_rfl) rfl rfl) (fun fs h w=>by cases h;kernel_rfl) (aP rfl (by kernel_rfl) (by kernel_rfl))
def HR : cU := ⟨.struct #[⟨"Size", 3, 0, false, "", "", 0⟩, ⟨"Slots", 3, 1, false, "", "", 8⟩, ⟨"Tag", 3, 2, false, "", "", 16⟩, ⟨"Done", 4, 3, false, "", "", 24⟩, ⟨"Scope", 3, 4, false, "", "", 32⟩, ⟨"Epoch", 3, 5, false, "", "", 40⟩], 6, 48, .agg #[.int .i64 0, .int .i64 0, .int .i64 0, .bool false, .int .i64 0, .int .i64 0], [(0, 1), (1, 1), (2, 1), (3, 1), (4, 1), (5, 1)], (some (.pair (.int .i64) (.pair (.int .i64) (.pair (.int .i64) (.pair .bool (.pair (.int .i64) (.int .i64))))))), false⟩
theorem OH:bq Tryz.prog 208 HR:=az Tryz.underlying208 (aR (by kernel_rfl) rfl rfl) (fun fs h w=>by cases h;kernel_rfl) (aP rfl (by kernel_rfl) (by kernel_rfl))
def HQ:cU:=⟨.slice 43,1,24,.slice none 0 0,[],(some (.aJ (.aJ (.int .i64)))),false⟩
theorem OG:bq Tryz.prog 234 HQ:=az Tryz.underlying234 (aR (by kernel_rfl) rfl rfl) (fun _ h=>by cases h) (aP rfl (by kernel_rfl) (by kernel_rfl))
def HP:cU:=⟨.int .u32,1,4,.int .u32 0,[],(some (.int .u32)),false⟩
theorem OF:bq Tryz.prog 243 HP:=az Tryz.underlying243 (aR (by kernel_rfl) rfl rfl) (fun _ h=>by cases h) (aP rfl (by kernel_rfl) (by kernel_rfl))
def HO:cU:=⟨.pointer 5,1,8,.pointer none,[],none,false⟩
theorem OE:bq Tryz.prog 247 HO:=az Tryz.underlying247 (aR (by kernel_rfl) rfl rfl) (fun _ h=>by cases h) (jX rfl)
theorem YV:g_ Tryz.prog 22:=cF Tryz.stoodInHeld22 Tryz.eqGuardType22 Tryz.underlying22 (by decide)
theorem YU:g_ Tryz.prog 23:=cF Tryz.stoodInHeld23 Tryz.eqGuardType23 Tryz.underlying23 (by decide)
theorem YT:g_ Tryz.prog 41:=cF Tryz.stoodInHeld41 Tryz.eqGuardType41 Tryz.underlying41 (by decide)
theorem YS:g_ Tryz.prog 42:=cF Tryz.stoodInHeld42 Tryz.eqGuardType42 Tryz.underlying42 (by decide)
theorem YR:g_ Tryz.prog 46:=cF Tryz.stoodInHeld46 Tryz.eqGuardType46 Tryz.underlying46 (by decide)
theorem YQ:g_ Tryz.prog 47:=cF Tryz.stoodInHeld47 Tryz.eqGuardType47 Tryz.underlying47 (by decide)
theorem YP:g_ Tryz.prog 77:=cF Tryz.stoodInHeld77 Tryz.eqGuardType77 Tryz.underlying77 (by decide)
theorem YO:g_ Tryz.prog 78:=cF Tryz.stoodInHeld78 Tryz.eqGuardType78 Tryz.underlying78 (by decide)
theorem YN:g_ Tryz.prog 94:=cF Tryz.stoodInHeld94 Tryz.eqGuardType94 Tryz.underlying94 (by decide)
theorem YM:g_ Tryz.prog 95:=cF Tryz.stoodInHeld95 Tryz.eqGuardType95 Tryz.underlying95 (by decide)
theorem SR:g_ Tryz.prog 107:=cF Tryz.stoodInHeld107 Tryz.eqGuardType107 Tryz.underlying107 (by decide)
theorem SQ:g_ Tryz.prog 108:=cF Tryz.stoodInHeld108 Tryz.eqGuardType108 Tryz.underlying108 (by decide)
theorem SO:g_ Tryz.prog 113:=cF Tryz.stoodInHeld113 Tryz.eqGuardType113 Tryz.underlying113 (by decide)
theorem SN:g_ Tryz.prog 114:=cF Tryz.stoodInHeld114 Tryz.eqGuardType114 Tryz.underlying114 (by decide)
theorem SM:g_ Tryz.prog 116:=cF Tryz.stoodInHeld116 Tryz.eqGuardType116 Tryz.underlying116 (by decide)
theorem SL:g_ Tryz.prog 117:=cF Tryz.stoodInHeld117 Tryz.eqGuardType117 Tryz.underlying117 (by decide)
theorem SK:g_ Tryz.prog 151:=cF Tryz.stoodInHeld151 Tryz.eqGuardType151 Tryz.underlying151 (by decide)
theorem SJ:g_ Tryz.prog 152:=cF Tryz.stoodInHeld152 Tryz.eqGuardType152 Tryz.underlying152 (by decide)
theorem SI:g_ Tryz.prog 169:=cF Tryz.stoodInHeld169 Tryz.eqGuardType169 Tryz.underlying169 (by decide)
theorem SH:g_ Tryz.prog 170:=cF Tryz.stoodInHeld170 Tryz.eqGuardType170 Tryz.underlying170 (by decide)
theorem SG:g_ Tryz.prog 172:=cF Tryz.stoodInHeld172 Tryz.eqGuardType172 Tryz.underlying172 (by decide)
theorem SF:g_ Tryz.prog 173:=cF Tryz.stoodInHeld173 Tryz.eqGuardType173 Tryz.underlying173 (by decide)
theorem SE:g_ Tryz.prog 184:=cF Tryz.stoodInHeld184 Tryz.eqGuardType184 Tryz.underlying184 (by decide)
theorem SC:g_ Tryz.prog 185:=cF Tryz.stoodInHeld185 Tryz.eqGuardType185 Tryz.underlying185 (by decide)
theorem SB:g_ Tryz.prog 207:=cF Tryz.stoodInHeld207 Tryz.eqGuardType207 Tryz.underlying207 (by decide)
theorem SA:g_ Tryz.prog 208:=cF Tryz.stoodInHeld208 Tryz.eqGuardType208 Tryz.underlying208 (by decide)
def env:Env:=⟨(.node (.node (.node (.node (.node (.node (.node (.node .nil none .nil) none (.node .nil (some HX) .nil)) none (.node (.node .nil none .nil) (some NM) (.node .nil none .nil))) none (.node (.node (.node .nil (some Ik) .nil) (some NU) (.node .nil (some HU) .nil)) (some N8) (.node (.node .nil none .nil) none (.node .nil none .nil)))) none (.node (.node (.node (.node .nil (some Is) .nil) none (.node .nil none .nil)) (some Of) (.node (.node .nil (some Ie) .nil) none (.node .nil none .nil))) (some Oq) (.node (.node (.node .nil (some Ij) .nil) none (.node .nil none .nil)) none (.node (.node .nil (some H2) .nil) none (.node .nil (some HO) .nil))))) (some ty3) (.node (.node (.node (.node (.node .nil none .nil) none (.node .nil none .nil)) none (.node (.node .nil none .nil) (some NJ) (.node .nil none .nil))) none (.node (.node (.node .nil none .nil) (some NQ) (.node .nil none .nil)) (some N6) (.node (.node .nil none .nil) none (.node .nil (some HP) .nil)))) none (.node (.node (.node (.node .nil (some Ip) .nil) (some NX) (.node .nil (some HV) .nil)) (some Oc) (.node (.node .nil (some Ia) .nil) (some IA) (.node .nil none .nil))) (some Ol) (.node (.node (.node .nil none .nil) none (.node .nil none .nil)) (some N2) (.node (.node .nil none .nil) none .nil))))) (some ty1) (.node (.node (.node (.node (.node (.node .nil none .nil) none (.node .nil none .nil)) (some Oh) (.node (.node .nil none .nil) (some NL) (.node .nil none .nil))) none (.node (.node (.node .nil none .nil) (some NS) (.node .nil none .nil)) (some N7) (.node (.node .nil none .nil) (some Iy) (.node .nil none .nil)))) (some ty9) (.node (.node (.node (.node .nil (some Iq) .nil) (some NZ) (.node .nil none .nil)) (some Oe) (.node (.node .nil (some Ic) .nil) none (.node .nil none .nil))) (some On) (.node (.node (.node .nil none .nil) (some NO) (.node .nil none .nil)) none (.node (.node .nil (some HY) .nil) (some It) .nil)))) (some ty5) (.node (.node (.node (.node (.node .nil none .nil) (some N1) (.node .nil none .nil)) none (.node (.node .nil (some Ih) .nil) none (.node .nil none .nil))) (some Ou) (.node (.node (.node .nil none .nil) none (.node .nil none .nil)) (some N4) (.node (.node .nil (some H4) .nil) (some Iv) (.node .nil none .nil)))) (some Ov) (.node (.node (.node (.node .nil (some Im) .nil) (some NW) (.node .nil none .nil)) (some N_) (.node (.node .nil (some H9) .nil) none (.node .nil none .nil))) none (.node (.node (.node .nil none .nil) none (.node .nil none .nil)) none (.node (.node .nil none .nil) none .nil)))))) none (.node (.node (.node (.node (.node (.node (.node .nil none .nil) none (.node .nil none .nil)) (some Oi) (.node (.node .nil none .nil) none (.node .nil none .nil))) none (.node (.node (.node .nil none .nil) (some NT) (.node .nil (some HR) .nil)) none (.node (.node .nil (some H7) .nil) none (.node .nil none .nil)))) none (.node (.node (.node (.node .nil (some Ir) .nil) none (.node .nil none .nil)) none (.node (.node .nil none .nil) none (.node .nil none .nil))) (some Oo) (.node (.node (.node .nil (some Ii) .nil) none (.node .nil none .nil)) none (.node (.node .nil (some HZ) .nil) (some Iu) .nil)))) (some ty4) (.node (.node (.node (.node (.node .nil none .nil) none (.node .nil (some HW) .nil)) (some Og) (.node (.node .nil none .nil) (some IB) (.node .nil none .nil))) none (.node (.node (.node .nil none .nil) (some NP) (.node .nil none .nil)) (some N5) (.node (.node .nil (some H5) .nil) (some Iw) (.node .nil none .nil)))) (some Ow) (.node (.node (.node (.node .nil (some Io) .nil) none (.node .nil none .nil)) (some Oa) (.node (.node .nil (some H_) .nil) (some Iz) (.node .nil none .nil))) (some Oj) (.node (.node (.node .nil none .nil) none (.node .nil none .nil)) none (.node (.node .nil none .nil) none .nil))))) (some ty2) (.node (.node (.node (.node (.node (.node .nil none .nil) none (.node .nil none .nil)) none (.node (.node .nil none .nil) (some NK) (.node .nil none .nil))) none (.node (.node (.node .nil none .nil) (some NR) (.node .nil none .nil)) none (.node (.node .nil (some H6) .nil) (some Ix) (.node .nil none .nil)))) none (.node (.node (.node (.node .nil none .nil) (some NY) (.node .nil none .nil)) (some Od) (.node (.node .nil (some Ib) .nil) none (.node .nil (some HQ) .nil))) (some Om) (.node (.node (.node .nil none .nil) none (.node .nil none .nil)) none (.node (.node .nil none .nil) none .nil)))) none (.node (.node (.node (.node (.node .nil none .nil) (some N0) (.node .nil none .nil)) none (.node (.node .nil (some Ig) .nil) none (.node .nil none .nil))) (some Ot) (.node (.node (.node .nil none .nil) none (.node .nil none .nil)) (some N3) (.node (.node .nil (some H3) .nil) none (.node .nil none .nil)))) none (.node (.node (.node (.node .nil (some Il) .nil) (some NV) (.node .nil none .nil)) (some N9) (.node (.node .nil (some H8) .nil) none (.node .nil none .nil))) none (.node (.node (.node .nil none .nil) (some NN) (.node .nil none .nil)) none (.node (.node .nil none .nil) none .nil))))))),[22,23,41,42,46,47,77,78,94,95,107,108,113,114,116,117,151,152,169,170,172,173,184,185,207,208]⟩
theorem wj:bW Tryz.prog env:=⟨Fw (.no (.yes te1 (.yes VG (.no (.no (.no (.no (.no (.nil _ _) (.nil _ _)) (.yes OL (.nil _ _) (.nil _ _))) (.yes Va (.no (.nil _ _) (.nil _ _)) (.no (.nil _ _) (.nil _ _)))) (.yes OD (.yes Vi (.yes O5 (.nil _ _) (.nil _ _)) (.yes OI (.nil _ _) (.nil _ _))) (.no (.no (.nil _ _) (.nil _ _)) (.no (.nil _ _) (.nil _ _))))) (.yes VN (.yes Fy (.no (.yes Pb (.nil _ _) (.nil _ _)) (.no (.nil _ _) (.nil _ _))) (.no (.yes O0 (.nil _ _) (.nil _ _)) (.no (.nil _ _) (.nil _ _)))) (.no (.no (.yes O4 (.nil _ _) (.nil _ _)) (.no (.nil _ _) (.nil _ _))) (.no (.yes OO (.nil _ _) (.nil _ _)) (.yes OE (.nil _ _) (.nil _ _)))))) (.no (.no (.no (.no (.no (.nil _ _) (.nil _ _)) (.no (.nil _ _) (.nil _ _))) (.yes UY (.no (.nil _ _) (.nil _ _)) (.no (.nil _ _) (.nil _ _)))) (.yes Vv (.yes Ve (.no (.nil _ _) (.nil _ _)) (.no (.nil _ _) (.nil _ _))) (.no (.no (.nil _ _) (.nil _ _)) (.yes OF (.nil _ _) (.nil _ _))))) (.yes VI (.yes Fx (.yes Vl (.yes O9 (.nil _ _) (.nil _ _)) (.yes OJ (.nil _ _) (.nil _ _))) (.yes Pm (.yes OX (.nil _ _) (.nil _ _)) (.no (.nil _ _) (.nil _ _)))) (.yes Vq (.no (.no (.nil _ _) (.nil _ _)) (.no (.nil _ _) (.nil _ _))) (.no (.no (.nil _ _) (.nil _ _)) (.nil _ _)))))) (.yes te5 (.yes te9 (.no (.yes VE (.no (.no (.nil _ _) (.nil _ _)) (.no (.nil _ _) (.nil _ _))) (.yes U_ (.no (.nil _ _) (.nil _ _)) (.no (.nil _ _) (.nil _ _)))) (.yes Vw (.yes Vg (.no (.nil _ _) (.nil _ _)) (.no (.nil _ _) (.nil _ _))) (.yes Pj (.no (.nil _ _) (.nil _ _)) (.no (.nil _ _) (.nil _ _))))) (.yes VL (.yes VB (.yes Vn (.yes O_ (.nil _ _) (.nil _ _)) (.no (.nil _ _) (.nil _ _))) (.no (.yes OZ (.nil _ _) (.nil _ _)) (.no (.nil _ _) (.nil _ _)))) (.no (.yes Vc (.no (.nil _ _) (.nil _ _)) (.no (.nil _ _) (.nil _ _))) (.yes Pd (.yes OM (.nil _ _) (.nil _ _)) (.nil _ _))))) (.yes VR (.yes VQ (.no (.yes Vp (.no (.nil _ _) (.nil _ _)) (.no (.nil _ _) (.nil _ _))) (.no (.yes O2 (.nil _ _) (.nil _ _)) (.no (.nil _ _) (.nil _ _)))) (.yes Vt (.no (.no (.nil _ _) (.nil _ _)) (.no (.nil _ _) (.nil _ _))) (.yes Pf (.yes OQ (.nil _ _) (.nil _ _)) (.no (.nil _ _) (.nil _ _))))) (.no (.yes Vy (.yes Vk (.yes O7 (.nil _ _) (.nil _ _)) (.no (.nil _ _) (.nil _ _))) (.no (.yes OV (.nil _ _) (.nil _ _)) (.no (.nil _ _) (.nil _ _)))) (.no (.no (.no (.nil _ _) (.nil _ _)) (.no (.nil _ _) (.nil _ _))) (.no (.no (.nil _ _) (.nil _ _)) (.nil _ _))))))) (.yes te2 (.yes te4 (.no (.no (.yes VF (.no (.no (.nil _ _) (.nil _ _)) (.no (.nil _ _) (.nil _ _))) (.no (.no (.nil _ _) (.nil _ _)) (.no (.nil _ _) (.nil _ _)))) (.no (.yes Vh (.no (.nil _ _) (.nil _ _)) (.yes OH (.nil _ _) (.nil _ _))) (.no (.yes OT (.nil _ _) (.nil _ _)) (.no (.nil _ _) (.nil _ _))))) (.yes VM (.no (.no (.yes Pa (.nil _ _) (.nil _ _)) (.no (.nil _ _) (.nil _ _))) (.no (.no (.nil _ _) (.nil _ _)) (.no (.nil _ _) (.nil _ _)))) (.no (.no (.yes O3 (.nil _ _) (.nil _ _)) (.no (.nil _ _) (.nil _ _))) (.yes Pe (.yes ON (.nil _ _) (.nil _ _)) (.nil _ _))))) (.yes VS (.no (.yes VC (.no (.no (.nil _ _) (.nil _ _)) (.yes OK (.nil _ _) (.nil _ _))) (.yes Pn (.no (.nil _ _) (.nil _ _)) (.no (.nil _ _) (.nil _ _)))) (.yes Vu (.yes Vd (.no (.nil _ _) (.nil _ _)) (.no (.nil _ _) (.nil _ _))) (.yes Pg (.yes OR (.nil _ _) (.nil _ _)) (.no (.nil _ _) (.nil _ _))))) (.yes VH (.yes Vz (.no (.yes O8 (.nil _ _) (.nil _ _)) (.no (.nil _ _) (.nil _ _))) (.yes Pk (.yes OW (.nil _ _) (.nil _ _)) (.no (.nil _ _) (.nil _ _)))) (.no (.no (.no (.nil _ _) (.nil _ _)) (.no (.nil _ _) (.nil _ _))) (.no (.no (.nil _ _) (.nil _ _)) (.nil _ _)))))) (.no (.no (.no (.no (.no (.no (.nil _ _) (.nil _ _)) (.no (.nil _ _) (.nil _ _))) (.yes UZ (.no (.nil _ _) (.nil _ _)) (.no (.nil _ _) (.nil _ _)))) (.no (.yes Vf (.no (.nil _ _) (.nil _ _)) (.no (.nil _ _) (.nil _ _))) (.yes Ph (.yes OS (.nil _ _) (.nil _ _)) (.no (.nil _ _) (.nil _ _))))) (.yes VJ (.yes VA (.yes Vm (.no (.nil _ _) (.nil _ _)) (.no (.nil _ _) (.nil _ _))) (.no (.yes OY (.nil _ _) (.nil _ _)) (.yes OG (.nil _ _) (.nil _ _)))) (.no (.no (.no (.nil _ _) (.nil _ _)) (.no (.nil _ _) (.nil _ _))) (.no (.no (.nil _ _) (.nil _ _)) (.nil _ _))))) (.no (.yes VO (.no (.yes Vo (.no (.nil _ _) (.nil _ _)) (.no (.nil _ _) (.nil _ _))) (.no (.yes O1 (.nil _ _) (.nil _ _)) (.no (.nil _ _) (.nil _ _)))) (.yes Vr (.no (.no (.nil _ _) (.nil _ _)) (.no (.nil _ _) (.nil _ _))) (.no (.yes OP (.nil _ _) (.nil _ _)) (.no (.nil _ _) (.nil _ _))))) (.no (.yes Vx (.yes Vj (.yes O6 (.nil _ _) (.nil _ _)) (.no (.nil _ _) (.nil _ _))) (.no (.yes OU (.nil _ _) (.nil _ _)) (.no (.nil _ _) (.nil _ _)))) (.no (.yes Vb (.no (.nil _ _) (.nil _ _)) (.no (.nil _ _) (.nil _ _))) (.no (.no (.nil _ _) (.nil _ _)) (.nil _ _)))))))),Lm (.cons YV (.cons YU (.cons YT (.cons YS (.cons YR (.cons YQ (.cons YP (.cons YO (.cons YN (.cons YM (.cons SR (.cons SQ (.cons SO (.cons SN (.cons SM (.cons SL (.cons SK (.cons SJ (.cons SI (.cons SH (.cons SG (.cons SF (.cons SE (.cons SC (.cons SB (.cons SA (.nil))))))))))))))))))))))))))),by kernel_rfl⟩
def homes:List (Nat×Nat):=[(75,0),(84,6),(140,1),(143,3)]
open Go.Bm
set_option maxRecDepth 100000
def x3:ay:=comp (au Tryz.f3) (.n none .o (.n none .o (.n none .o (.n none .o (.n (some ⟨[],[],[],[],[],[]⟩) .o (.n none .o (.n none (.n none .o (.n none (.n (some ⟨[(12,false,(.int .i64))],[],[],[((11,none),[(false,(.int .i64)),(false,(.int .i64)),(false,(.int .i64)),(false,(.int .i64))])],[],[(0,R0),(1,R1),(2,R2),(3,R3),(4,R4),(6,R6),(7,R7),(8,R8),(9,R9)]⟩) (.n (some ⟨[],[],[],[],[],[]⟩) .o (.n none (.n none (.n none .o (.n none .o (.n none .o (.n none .o (.n (some ⟨[(17,false,(.int .i64))],[],[],[],[],[]⟩) (.n none (.n (some ⟨[(17,false,(.int .i64))],[],[],[],[],[]⟩) .o .o) .o) (.n (some ⟨[],[],[],[],[],[]⟩) .o (.n (some ⟨[],[],[],[((11,none),[(false,(.int .i64)),(false,(.int .i64)),(false,(.int .i64)),(false,(.int .i64))])],[],[]⟩) .o (.n none .o (.n (some ⟨[],[],[],[],[],[]⟩) .o (.n (some ⟨[(19,false,(.int .i64))],[],[],[],[],[]⟩) .o (.n (some ⟨[],[],[],[((11,none),[(false,(.int .i64)),(false,(.int .i64)),(false,(.int .i64)),(false,(.int .i64))])],[],[]⟩) .o (.n (some ⟨[(20,false,.bool)],[],[],[],[],[]⟩) .o (.n (some ⟨[(20,false,.bool)],[],[],[],[],[]⟩) (.n none .o (.n none (.n (some ⟨[(116,false,.bool)],[],[],[],[],[]⟩) .o .o) .o)) .o))))))))))))) .o) .o)) .o) .o)) .o)))))))
def x7:ay:=comp (au Tryz.f7) (.n none .o (.n none .o (.n (some ⟨[],[],[],[],[],[]⟩) .o .o)))
def x8:ay:=comp (au Tryz.f8) (.n none .o (.n none .o (.n (some ⟨[],[(6,(.aJ (.pair (.int .u8) (.pair (.int .u8) (.pair (.int .u8) (.pair (.int .u8) (.pair (.int .i64) (.pair (.int .i64) (.int .i64)))))))))],[],[],[],[]⟩) .o (.n none (.n none .o (.n none (.n (some ⟨[(7,false,(.int .i64))],[(6,(.aJ (.pair (.int .u8) (.pair (.int .u8) (.pair (.int .u8) (.pair (.int .u8) (.pair (.int .i64) (.pair (.int .i64) (.int .i64)))))))))],[],[],[],[]⟩) .o .o) .o)) .o))))
def x9:ay:=comp (au Tryz.f9) (.n none .o (.n none .o (.n (some ⟨[],[],[],[],[],[]⟩) .o (.n none .o (.n none .o (.n none (.n none .o (.n none (.n (some ⟨[(50,false,(.int .i64))],[],[],[],[],[(0,R0),(9,R9)]⟩) .o .o) .o)) (.n none (.n none .o (.n none (.n (some ⟨[(68,false,(.int .i64))],[],[],[],[],[(0,R0),(5,R5),(6,R6),(8,R8)]⟩) (.n none .o (.n none .o (.n none (.n none (.n none .o (.n none .o (.n (some ⟨[],[],[],[],[],[(6,R6)]⟩) .o .o))) .o) .o))) .o) .o)) .o)))))))
def x10:ay:=comp (au Tryz.f10) (.n none .o (.n none .o (.n none .o (.n none .o (.n (some ⟨[],[],[],[],[],[(0,R0),(6,R6),(7,R7)]⟩) .o (.n (some ⟨[],[],[],[],[],[(1,R1),(2,R2),(3,R3),(4,R4),(6,R6),(9,R9)]⟩) .o (.n none .o (.n (some ⟨[],[],[],[],[],[(7,R7)]⟩) .o (.n (some ⟨[],[],[],[],[],[(6,R6),(7,R7),(8,R8)]⟩) .o .o)))))))))
def x11:ay:=comp (au Tryz.f11) (.n none .o (.n (some ⟨[],[(3,(.pair (.int .i64) (.pair (.pair (.int .u8) (.pair (.int .u8) (.pair (.int .u8) (.pair (.int .u8) (.pair (.int .i64) (.pair (.int .i64) (.int .i64))))))) (.pair (.int .i64) (.pair (.int .i64) (.pair (.int .i64) (.pair (.int .i64) (.pair (.int .i64) (.aJ (.int .i64))))))))))],[],[],[],[]⟩) .o (.n none (.n none .o (.n none (.n (some ⟨[(12,false,(.int .i64))],[(3,(.pair (.int .i64) (.pair (.pair (.int .u8) (.pair (.int .u8) (.pair (.int .u8) (.pair (.int .u8) (.pair (.int .i64) (.pair (.int .i64) (.int .i64))))))) (.pair (.int .i64) (.pair (.int .i64) (.pair (.int .i64) (.pair (.int .i64) (.pair (.int .i64) (.aJ (.int .i64))))))))))],[],[],[],[]⟩) .o .o) .o)) .o)))
def x20:ay:=comp (au Tryz.f20) .o
def x21:ay:=comp (au Tryz.f21) (.n none .o (.n none .o (.n none (.n none .o (.n none (.n (some ⟨[(6,false,(.int .i64))],[(5,(.aJ (.pair (.int .u8) (.pair (.int .u8) (.pair (.int .u8) (.pair (.int .u8) (.pair (.int .i64) (.pair (.int .i64) (.int .i64)))))))))],[],[],[],[]⟩) (.n (some ⟨[],[],[],[],[],[]⟩) .o .o) .o) .o)) .o)))
def x22:ay:=comp (au Tryz.f22) (.n none .o (.n none .o (.n none (.n none .o (.n none (.n (some ⟨[(4,false,(.int .i64))],[(3,(.aJ (.pair (.int .u8) (.pair (.int .i64) (.int .i64)))))],[],[],[],[]⟩) (.n (some ⟨[],[],[],[],[],[]⟩) .o (.n none (.n none (.n none .o (.n none (.n none .o (.n none (.n (some ⟨[(6,false,(.int .i64))],[(5,(.pair (.int .u8) (.pair (.int .i64) (.int .i64))))],[],[],[],[]⟩) (.n (some ⟨[],[],[],[],[],[]⟩) .o .o) .o) .o)) .o)) .o) .o)) .o) .o)) .o)))
def x23:ay:=comp (au Tryz.f23) .o
def x24:ay:=comp (au Tryz.f24) .o
def x25:ay:=comp (au Tryz.f25) (.n none .o (.n none .o (.n none (.n none .o (.n none (.n (some ⟨[(11,false,(.int .i64))],[],[],[],[],[]⟩) (.n none .o (.n none .o (.n none (.n none (.n none .o (.n none (.n none .o (.n none (.n (some ⟨[(17,false,(.int .i64))],[],[],[],[],[]⟩) .o .o) .o)) .o)) .o) .o))) .o) .o)) .o)))
def x26:ay:=comp (au Tryz.f26) .o
def x27:ay:=comp (au Tryz.f27) .o
def x28:ay:=comp (au Tryz.f28) .o
def x29:ay:=comp (au Tryz.f29) .o
def x30:ay:=comp (au Tryz.f30) .o
def x31:ay:=comp (au Tryz.f31) .o
def x32:ay:=comp (au Tryz.f32) .o
def x33:ay:=comp (au Tryz.f33) .o
def x34:ay:=comp (au Tryz.f34) (.n none .o (.n none .o (.n none .o (.n none .o (.n none .o (.n none .o (.n none (.n none .o (.n none .o (.n (some ⟨[(36,false,.bool)],[],[],[],[],[]⟩) .o .o))) .o)))))))
def x35:ay:=comp (au Tryz.f35) .o
def x36:ay:=comp (au Tryz.f36) .o
def x38:ay:=comp (au Tryz.f38) .o
def x40:ay:=comp (au Tryz.f40) .o
def x41:ay:=comp (au Tryz.f41) (.n none .o (.n none (.n none .o (.n none (.n (some ⟨[(8,false,(.int .i64))],[],[],[],[],[]⟩) .o .o) .o)) .o))
def x42:ay:=comp (au Tryz.f42) .o
def x43:ay:=comp (au Tryz.f43) .o
def x44:ay:=comp (au Tryz.f44) .o
def x45:ay:=comp (au Tryz.f45) (.n none .o (.n (some ⟨[],[],[],[],[],[]⟩) .o .o))
def x46:ay:=comp (au Tryz.f46) .o
def x47:ay:=comp (au Tryz.f47) .o
def x48:ay:=comp (au Tryz.f48) .o
def x49:ay:=comp (au Tryz.f49) .o
def x50:ay:=comp (au Tryz.f50) .o
def x51:ay:=comp (au Tryz.f51) (.n none .o (.n none .o (.n none .o (.n none .o (.n none .o (.n none .o (.n none (.n none .o (.n none (.n none .o (.n none .o (.n none .o (.n none .o (.n none .o (.n none .o (.n none .o (.n none .o (.n none .o (.n none .o (.n none .o (.n none .o (.n none .o (.n none .o (.n none .o (.n none .o (.n none .o (.n none .o (.n none .o (.n none .o (.n none .o (.n none .o (.n none .o (.n none (.n (some ⟨[(13,false,(.int .i64))],[],[],[],[],[]⟩) .o .o) .o)))))))))))))))))))))))) .o)) .o)))))))
def x52:ay:=comp (au Tryz.f52) (.n none .o (.n none (.n none .o (.n none (.n (some ⟨[(6,false,.bool)],[],[],[],[],[]⟩) .o (.n none .o (.n none .o (.n none .o (.n none .o (.n none .o (.n (some ⟨[(22,false,.bool)],[],[],[],[],[]⟩) .o .o))))))) .o)) .o))
def x53:ay:=comp (au Tryz.f53) .o
def x54:ay:=comp (au Tryz.f54) (.n none .o (.n (some ⟨[],[],[],[((8,none),[(false,(.int .u8)),(false,(.int .u8)),(false,(.int .u8)),(false,(.int .u8)),(false,(.int .i64)),(false,(.int .i64)),(false,(.int .i64)),(false,(.int .i64)),(false,(.int .i64)),(false,(.int .u64)),(false,(.int .u64)),(false,(.aJ (.pair (.int .i64) .bool))),(false,(.int .u64)),(false,(.int .u64)),(false,(.int .i64)),(false,(.int .i64)),(false,(.aJ (.int .i64))),(false,(.int .i64)),(false,(.aJ (.int .i64))),(false,(.int .i64)),(false,.bool),(false,.bool),(false,.bool),(false,(.int .i64)),(false,(.int .i64)),(false,(.aJ (.int .i64)))])],[],[]⟩) .o (.n none .o (.n none (.n none .o (.n none (.n (some ⟨[(42,false,(.int .i64))],[],[],[((8,none),[(false,(.int .u8)),(false,(.int .u8)),(false,(.int .u8)),(false,(.int .u8)),(false,(.int .i64)),(false,(.int .i64)),(false,(.int .i64)),(false,(.int .i64)),(false,(.int .i64)),(false,(.int .u64)),(false,(.int .u64)),(false,(.aJ (.pair (.int .i64) .bool))),(false,(.int .u64)),(false,(.int .u64)),(false,(.int .i64)),(false,(.int .i64)),(false,(.aJ (.int .i64))),(false,(.int .i64)),(false,(.aJ (.int .i64))),(false,(.int .i64)),(false,.bool),(false,.bool),(false,.bool),(false,(.int .i64)),(false,(.int .i64)),(false,(.aJ (.int .i64)))])],[],[(2,R2),(3,R3),(4,R4)]⟩) .o .o) .o)) .o))))
def x55:ay:=comp (au Tryz.f55) (.n none .o (.n none .o (.n none .o (.n (some ⟨[],[],[],[((6,none),[(false,(.int .u8)),(false,(.int .u8)),(false,(.int .u8)),(false,(.int .u8)),(false,(.int .i64)),(false,(.int .i64)),(false,(.int .i64)),(false,(.int .i64)),(false,(.int .i64)),(false,(.int .u64)),(false,(.int .u64)),(false,(.aJ (.pair (.int .i64) .bool))),(false,(.int .u64)),(false,(.int .u64)),(false,(.int .i64)),(false,(.int .i64)),(false,(.aJ (.int .i64))),(false,(.int .i64)),(false,(.aJ (.int .i64))),(false,(.int .i64)),(false,.bool),(false,.bool),(false,.bool),(false,(.int .i64)),(false,(.int .i64)),(false,(.aJ (.int .i64)))])],[],[]⟩) .o .o))))
def x56:ay:=comp (au Tryz.f56) (.n none .o (.n none .o (.n none .o (.n none .o (.n none .o (.n (some ⟨[],[],[],[((6,none),[(false,(.int .u8)),(false,(.int .u8)),(false,(.int .u8)),(false,(.int .u8)),(false,(.int .i64)),(false,(.int .i64)),(false,(.int .i64)),(false,(.int .i64)),(false,(.int .i64)),(false,(.int .u64)),(false,(.int .u64)),(false,(.aJ (.pair (.int .i64) .bool))),(false,(.int .u64)),(false,(.int .u64)),(false,(.int .i64)),(false,(.int .i64)),(false,(.aJ (.int .i64))),(false,(.int .i64)),(false,(.aJ (.int .i64))),(false,(.int .i64)),(false,.bool),(false,.bool),(false,.bool),(false,(.int .i64)),(false,(.int .i64)),(false,(.aJ (.int .i64)))])],[],[]⟩) .o .o))))))
def x57:ay:=comp (au Tryz.f57) (.n none .o (.n none .o (.n (some ⟨[],[],[],[((8,none),[(false,(.int .u8)),(false,(.int .u8)),(false,(.int .u8)),(false,(.int .u8)),(false,(.int .i64)),(false,(.int .i64)),(false,(.int .i64)),(false,(.int .i64)),(false,(.int .i64)),(false,(.int .u64)),(false,(.int .u64)),(false,(.aJ (.pair (.int .i64) .bool))),(false,(.int .u64)),(false,(.int .u64)),(false,(.int .i64)),(false,(.int .i64)),(false,(.aJ (.int .i64))),(false,(.int .i64)),(false,(.aJ (.int .i64))),(false,(.int .i64)),(false,.bool),(false,.bool),(false,.bool),(false,(.int .i64)),(false,(.int .i64)),(false,(.aJ (.int .i64)))])],[],[]⟩) .o .o)))
def x58:ay:=comp (au Tryz.f58) (.n none .o (.n (some ⟨[],[],[],[((6,none),[(false,(.int .u8)),(false,(.int .u8)),(false,(.int .u8)),(false,(.int .u8)),(false,(.int .i64)),(false,(.int .i64)),(false,(.int .i64)),(false,(.int .i64)),(false,(.int .i64)),(false,(.int .u64)),(false,(.int .u64)),(false,(.aJ (.pair (.int .i64) .bool))),(false,(.int .u64)),(false,(.int .u64)),(false,(.int .i64)),(false,(.int .i64)),(false,(.aJ (.int .i64))),(false,(.int .i64)),(false,(.aJ (.int .i64))),(false,(.int .i64)),(false,.bool),(false,.bool),(false,.bool),(false,(.int .i64)),(false,(.int .i64)),(false,(.aJ (.int .i64)))])],[],[]⟩) .o (.n none .o (.n (some ⟨[],[],[],[((8,none),[(false,(.int .i64)),(false,(.int .i64)),(false,(.int .i64)),(false,(.int .i64)),(false,(.ptr 1)),(false,(.int .u8)),(false,(.int .u8)),(false,(.int .u8)),(false,(.int .u8)),(false,(.int .i64)),(false,(.int .i64)),(false,(.int .i64)),(false,(.int .i64)),(false,(.int .i64)),(false,(.int .u64)),(false,(.int .u64)),(false,(.aJ (.pair (.int .i64) .bool))),(false,(.int .u64)),(false,(.int .u64)),(false,(.int .i64)),(false,(.int .i64)),(false,(.aJ (.int .i64))),(false,(.int .i64)),(false,(.aJ (.int .i64))),(false,(.int .i64)),(false,.bool),(false,.bool),(false,.bool),(false,(.int .i64)),(false,(.int .i64)),(false,(.aJ (.int .i64))),(false,(.int .i64))]),((6,none),[(false,(.int .u8)),(false,(.int .u8)),(false,(.int .u8)),(false,(.int .u8)),(false,(.int .i64)),(false,(.int .i64)),(false,(.int .i64)),(false,(.int .i64)),(false,(.int .i64)),(false,(.int .u64)),(false,(.int .u64)),(false,(.aJ (.pair (.int .i64) .bool))),(false,(.int .u64)),(false,(.int .u64)),(false,(.int .i64)),(false,(.int .i64)),(false,(.aJ (.int .i64))),(false,(.int .i64)),(false,(.aJ (.int .i64))),(false,(.int .i64)),(false,.bool),(false,.bool),(false,.bool),(false,(.int .i64)),(false,(.int .i64)),(false,(.aJ (.int .i64)))])],[],[(2,R2)]⟩) (.n none .o (.n none (.n none .o (.n none .o (.n none .o (.n none .o (.n none .o (.n none .o (.n none .o (.n none .o (.n (some ⟨[(9,false,(.int .i64))],[],[],[],[],[(2,R2)]⟩) .o .o))))))))) .o)) .o))))
def x59:ay:=comp (au Tryz.f59) .o
def x60:ay:=comp (au Tryz.f60) .o
def x61:ay:=comp (au Tryz.f61) .o
def x63:ay:=comp (au Tryz.f63) .o
def x64:ay:=comp (au Tryz.f64) (.n none .o (.n (some ⟨[(8,false,.bool)],[],[],[],[],[]⟩) .o .o))
def x65:ay:=comp (au Tryz.f65) .o
def x66:ay:=comp (au Tryz.f66) (.n none .o (.n (some ⟨[(10,false,.bool)],[],[],[],[],[]⟩) .o .o))
def x67:ay:=comp (au Tryz.f67) (.n none .o (.n (some ⟨[(19,false,.bool)],[],[],[],[],[]⟩) .o .o))
def x68:ay:=comp (au Tryz.f68) .o
def x69:ay:=comp (au Tryz.f69) .o
def x70:ay:=comp (au Tryz.f70) (.n none .o (.n none (.n none (.n (some ⟨[(8,false,.bool)],[],[],[],[],[]⟩) .o .o) .o) .o))
def x71:ay:=comp (au Tryz.f71) (.n none .o (.n none .o (.n none (.n none .o (.n none (.n (some ⟨[(12,false,(.int .i64))],[],[],[],[],[(2,R2)]⟩) .o .o) .o)) .o)))
def x72:ay:=comp (au Tryz.f72) .o
def x73:ay:=comp (au Tryz.f73) .o
def x74:ay:=comp (au Tryz.f74) .o
def x75:ay:=comp (au Tryz.f75) .o
def x76:ay:=comp (au Tryz.f76) .o
def x77:ay:=comp (au Tryz.f77) .o
def x78:ay:=comp (au Tryz.f78) (.n none .o (.n none .o (.n none (.n none (.n (some ⟨[(15,false,.bool)],[],[],[],[],[]⟩) .o .o) .o) .o)))
def x79:ay:=comp (au Tryz.f79) .o
def x80:ay:=comp (au Tryz.f80) (.n none .o (.n none (.n none .o (.n none (.n (some ⟨[(7,false,(.int .i64))],[],[],[],[],[]⟩) .o .o) .o)) .o))
def x81:ay:=comp (au Tryz.f81) (.n none .o (.n (some ⟨[],[],[],[],[],[]⟩) .o .o))
def x82:ay:=comp (au Tryz.f82) .o
def x83:ay:=comp (au Tryz.f83) .o
def x84:ay:=comp (au Tryz.f84) .o
def x85:ay:=comp (au Tryz.f85) (.n none .o (.n (some ⟨[],[],[],[],[],[]⟩) .o (.n (some ⟨[(6,false,(.int .i64))],[],[],[],[],[]⟩) .o .o)))
def x86:ay:=comp (au Tryz.f86) .o
def x87:ay:=comp (au Tryz.f87) .o
def x88:ay:=comp (au Tryz.f88) .o
def x89:ay:=comp (au Tryz.f89) .o
def x90:ay:=comp (au Tryz.f90) .o
def x91:ay:=comp (au Tryz.f91) .o
def x92:ay:=comp (au Tryz.f92) .o
def x93:ay:=comp (au Tryz.f93) .o
def x94:ay:=comp (au Tryz.f94) .o
def x95:ay:=comp (au Tryz.f95) (.n none .o (.n (some ⟨[],[],[],[((0,none),[(false,(.int .i64)),(false,(.int .i64)),(false,(.int .i64)),(false,(.int .i64)),(false,(.ptr 1)),(false,(.int .u8)),(false,(.int .u8)),(false,(.int .u8)),(false,(.int .u8)),(false,(.int .i64)),(false,(.int .i64)),(false,(.int .i64)),(false,(.int .i64)),(false,(.int .i64)),(false,(.int .u64)),(false,(.int .u64)),(false,(.aJ (.pair (.int .i64) .bool))),(false,(.int .u64)),(false,(.int .u64)),(false,(.int .i64)),(false,(.int .i64)),(false,(.aJ (.int .i64))),(false,(.int .i64)),(false,(.aJ (.int .i64))),(false,(.int .i64)),(false,.bool),(false,.bool),(false,.bool),(false,(.int .i64)),(false,(.int .i64)),(false,(.aJ (.int .i64))),(false,(.int .i64))])],[],[]⟩) .o (.n none .o (.n (some ⟨[(4,false,(.int .i64)),(5,false,(.int .i64))],[],[],[],[],[]⟩) .o .o))))
def x96:ay:=comp (au Tryz.f96) (.n none .o (.n none .o (.n none (.n none .o (.n none (.n (some ⟨[(3,false,(.int .i64))],[],[],[],[],[]⟩) (.n none (.n none (.n none (.n (some ⟨[(3,false,(.int .i64))],[],[],[],[],[]⟩) .o .o) .o) .o) .o) .o) .o)) .o)))
def x97:ay:=comp (au Tryz.f97) .o
def x98:ay:=comp (au Tryz.f98) .o
def x99:ay:=comp (au Tryz.f99) .o
def NF:ay:=comp (au Tryz.f100) .o
def ND:ay:=comp (au Tryz.f101) .o
def NC:ay:=comp (au Tryz.f102) .o
def NB:ay:=comp (au Tryz.f103) .o
def NA:ay:=comp (au Tryz.f104) .o
def Nz:ay:=comp (au Tryz.f105) .o
def Ny:ay:=comp (au Tryz.f106) .o
def Nx:ay:=comp (au Tryz.f107) (.n none .o (.n (some ⟨[],[],[],[],[],[]⟩) .o (.n (some ⟨[(7,false,(.int .i64))],[],[],[],[],[]⟩) .o (.n (some ⟨[(7,false,(.int .i64))],[],[],[],[],[]⟩) .o (.n (some ⟨[],[],[],[],[],[]⟩) .o (.n none .o (.n none .o (.n none .o (.n none (.n none .o (.n none (.n (some ⟨[(107,false,(.int .i64))],[],[],[],[],[(3,R3),(4,R4)]⟩) (.n none .o (.n none .o (.n none (.n none (.n none .o (.n none .o (.n none (.n (some ⟨[(140,false,.bool)],[],[],[],[],[]⟩) .o .o) .o))) .o) .o))) .o) .o)) .o)))))))))
def Nw:ay:=comp (au Tryz.f108) .o
def Nv:ay:=comp (au Tryz.f109) (.n none .o (.n none .o (.n none .o (.n none (.n none .o (.n none (.n (some ⟨[(6,false,(.int .u64)),(12,false,(.int .i64))],[],[],[],[],[]⟩) .o .o) .o)) .o))))
def Nu:ay:=comp (au Tryz.f110) .o
def Nt:ay:=comp (au Tryz.f111) .o
def Ns:ay:=comp (au Tryz.f112) (.n none .o (.n none (.n none .o (.n none (.n (some ⟨[(8,false,(.int .i64))],[],[],[],[],[]⟩) .o .o) .o)) .o))
def Nr:ay:=comp (au Tryz.f113) .o
def Nq:ay:=comp (au Tryz.f114) .o
def Np:ay:=comp (au Tryz.f115) .o
def No:ay:=comp (au Tryz.f116) (.n none .o (.n none .o (.n none .o (.n (some ⟨[(5,false,(.int .u64))],[],[],[],[],[]⟩) .o .o))))
def Nn:ay:=comp (au Tryz.f117) (.n none .o (.n none .o (.n (some ⟨[],[],[],[],[],[]⟩) (.n none (.n none .o (.n none .o (.n (some ⟨[(30,false,.bool)],[],[],[],[],[]⟩) .o .o))) .o) (.n none .o (.n (some ⟨[],[],[],[],[],[]⟩) .o .o)))))
def Nm:ay:=comp (au Tryz.f118) (.n none .o (.n (some ⟨[],[],[],[],[],[]⟩) .o .o))
def Nl:ay:=comp (au Tryz.f119) (.n none .o (.n (some ⟨[],[],[],[((2,none),[(false,(.int .i64)),(false,(.int .i64)),(false,(.int .i64)),(false,(.int .i64))]),((4,none),[(false,(.int .i64)),(false,(.int .i64)),(false,(.int .i64)),(false,(.int .i64))])],[],[]⟩) (.n none (.n (some ⟨[(6,false,.bool)],[],[],[],[],[]⟩) .o .o) .o) .o))
def Nk:ay:=comp (au Tryz.f120) .o
def Nj:ay:=comp (au Tryz.f121) .o
def Ni:ay:=comp (au Tryz.f122) .o
def Nh:ay:=comp (au Tryz.f123) .o
def Ng:ay:=comp (au Tryz.f124) .o
def Nf:ay:=comp (au Tryz.f125) .o
def Nd:ay:=comp (au Tryz.f126) (.n none .o (.n none .o (.n none .o (.n none .o (.n none (.n none .o (.n none (.n (some ⟨[(46,false,(.int .i64))],[(5,(.int .i64)),(6,(.int .u64))],[],[],[],[(1,R1)]⟩) .o .o) .o)) (.n none .o (.n none .o (.n none (.n none .o (.n none (.n (some ⟨[(100,false,(.int .i64))],[],[],[],[],[(1,R1),(2,R2)]⟩) .o .o) .o)) (.n (some ⟨[],[],[],[((0,none),[(false,(.int .i64)),(false,(.int .i64)),(false,(.int .i64)),(false,(.int .i64)),(false,(.jQ 9 1)),(false,(.ptr 1)),(false,(.int .u8)),(false,(.int .u8)),(false,(.int .u8)),(false,(.int .u8)),(false,(.int .i64)),(false,(.int .i64)),(false,(.int .i64)),(false,(.int .i64)),(false,(.int .i64)),(false,(.int .u64)),(false,(.int .u64)),(false,(.aJ (.pair (.int .i64) .bool))),(false,(.int .u64)),(false,(.int .u64)),(false,(.int .i64)),(false,(.int .i64)),(false,(.aJ (.int .i64))),(false,(.int .i64)),(false,(.aJ (.int .i64))),(false,(.int .i64)),(false,.bool),(false,.bool),(false,.bool),(false,(.int .i64)),(false,(.int .i64)),(false,(.aJ (.int .i64)))])],[],[]⟩) .o .o)))))))))
def Nc:ay:=comp (au Tryz.f127) .o
def Nb:ay:=comp (au Tryz.f128) .o
def Na:ay:=comp (au Tryz.f129) .o
def M_:ay:=comp (au Tryz.f130) .o
def M9:ay:=comp (au Tryz.f131) .o
def M8:ay:=comp (au Tryz.f132) .o
def M7:ay:=comp (au Tryz.f133) .o
def M6:ay:=comp (au Tryz.f134) (.n none .o (.n none .o (.n (some ⟨[],[],[],[],[],[]⟩) .o .o)))
def M5:ay:=comp (au Tryz.f135) (.n none .o (.n none .o (.n none (.n none .o (.n none (.n (some ⟨[(2,false,(.int .i64)),(9,false,(.int .i64))],[],[],[],[],[]⟩) .o .o) .o)) .o)))
def M4:ay:=comp (au Tryz.f136) (.n none .o (.n none (.n none .o (.n none (.n (some ⟨[(8,false,(.int .i64))],[],[],[],[],[]⟩) .o .o) .o)) .o))
def M3:ay:=comp (au Tryz.f137) (.n none .o (.n none (.n none .o (.n none (.n (some ⟨[(4,false,.bool)],[],[],[],[],[]⟩) .o .o) .o)) .o))
def M1:ay:=comp (au Tryz.f138) (.n none .o (.n none (.n none .o (.n none (.n (some ⟨[(8,false,(.int .i64))],[],[],[],[],[]⟩) .o .o) .o)) .o))
def M0:ay:=comp (au Tryz.f139) (.n none .o (.n none (.n none .o (.n none (.n (some ⟨[(8,false,(.int .i64))],[],[],[],[],[]⟩) .o .o) .o)) .o))
def MZ:ay:=comp (au Tryz.f140) .o
def MY:ay:=comp (au Tryz.f141) .o
def MX:ay:=comp (au Tryz.f142) .o
def MW:ay:=comp (au Tryz.f143) .o
def MV:ay:=comp (au Tryz.f144) .o
def MU:ay:=comp (au Tryz.f145) .o
def MT:ay:=comp (au Tryz.f146) .o
def MS:ay:=comp (au Tryz.f147) .o
def MR:ay:=comp (au Tryz.f148) .o
def MQ:ay:=comp (au Tryz.f149) (.n none .o (.n none .o (.n none .o (.n none .o (.n (some ⟨[],[],[],[((10,none),[(true,(.int .u64)),(true,(.int .i64)),(false,.bool),(false,(.int .i64))])],[],[]⟩) .o .o)))))
def MP:ay:=comp (au Tryz.f150) (.n none .o (.n none .o (.n none (.n none .o (.n none (.n (some ⟨[(3,false,(.int .i64)),(11,false,(.int .i64))],[],[],[],[],[]⟩) .o .o) .o)) (.n (some ⟨[],[(6,(.int .i64))],[],[],[],[]⟩) .o (.n none (.n none .o (.n none (.n (some ⟨[(27,false,(.int .i64))],[(6,(.int .i64))],[],[],[],[]⟩) .o .o) .o)) .o)))))
def MO:ay:=comp (au Tryz.f151) .o
def MN:ay:=comp (au Tryz.f152) .o
def MM:ay:=comp (au Tryz.f153) (.n none .o (.n (some ⟨[],[],[],[((6,none),[(false,(.int .i64)),(false,(.int .i64)),(false,(.int .i64)),(false,(.int .i64))])],[],[]⟩) .o .o))
def ML:ay:=comp (au Tryz.f154) .o
def MK:ay:=comp (au Tryz.f155) .o
def MJ:ay:=comp (au Tryz.f156) .o
def MI:ay:=comp (au Tryz.f157) .o
def MH:ay:=comp (au Tryz.f158) .o
def MG:ay:=comp (au Tryz.f159) .o
def MF:ay:=comp (au Tryz.f160) .o
def ME:ay:=comp (au Tryz.f161) .o
def MD:ay:=comp (au Tryz.f162) (.n none .o (.n (some ⟨[],[],[],[],[],[]⟩) .o .o))
def MC:ay:=comp (au Tryz.f163) .o
def fnT:Tr (Func×ay):=(.node (.node (.node (.node (.node (.node (.node (.node .nil (some (Tryz.f127,Nc)) .nil) (some (Tryz.f63,x63)) .nil) (some (Tryz.f31,x31)) (.node (.node .nil (some (Tryz.f159,MG)) .nil) (some (Tryz.f95,x95)) .nil)) none (.node (.node (.node .nil (some (Tryz.f143,MW)) .nil) (some (Tryz.f79,x79)) .nil) (some (Tryz.f47,x47)) (.node .nil (some (Tryz.f111,Nt)) .nil))) (some (Tryz.f7,x7)) (.node (.node (.node (.node .nil (some (Tryz.f135,M5)) .nil) (some (Tryz.f71,x71)) .nil) none (.node .nil (some (Tryz.f103,NB)) .nil)) (some (Tryz.f23,x23)) (.node (.node (.node .nil (some (Tryz.f151,MO)) .nil) (some (Tryz.f87,x87)) .nil) (some (Tryz.f55,x55)) (.node .nil (some (Tryz.f119,Nl)) .nil)))) (some (Tryz.f3,x3)) (.node (.node (.node (.node (.node .nil (some (Tryz.f131,M9)) .nil) (some (Tryz.f67,x67)) .nil) (some (Tryz.f35,x35)) (.node (.node .nil (some (Tryz.f163,MC)) .nil) (some (Tryz.f99,x99)) .nil)) none (.node (.node (.node .nil (some (Tryz.f147,MS)) .nil) (some (Tryz.f83,x83)) .nil) (some (Tryz.f51,x51)) (.node .nil (some (Tryz.f115,Np)) .nil))) (some (Tryz.f11,x11)) (.node (.node (.node (.node .nil (some (Tryz.f139,M0)) .nil) (some (Tryz.f75,x75)) .nil) (some (Tryz.f43,x43)) (.node .nil (some (Tryz.f107,Nx)) .nil)) (some (Tryz.f27,x27)) (.node (.node (.node .nil (some (Tryz.f155,MK)) .nil) (some (Tryz.f91,x91)) .nil) (some (Tryz.f59,x59)) (.node .nil (some (Tryz.f123,Nh)) .nil))))) none (.node (.node (.node (.node (.node (.node .nil (some (Tryz.f129,Na)) .nil) (some (Tryz.f65,x65)) .nil) (some (Tryz.f33,x33)) (.node (.node .nil (some (Tryz.f161,ME)) .nil) (some (Tryz.f97,x97)) .nil)) none (.node (.node (.node .nil (some (Tryz.f145,MU)) .nil) (some (Tryz.f81,x81)) .nil) (some (Tryz.f49,x49)) (.node .nil (some (Tryz.f113,Nr)) .nil))) (some (Tryz.f9,x9)) (.node (.node (.node (.node .nil (some (Tryz.f137,M3)) .nil) (some (Tryz.f73,x73)) .nil) (some (Tryz.f41,x41)) (.node .nil (some (Tryz.f105,Nz)) .nil)) (some (Tryz.f25,x25)) (.node (.node (.node .nil (some (Tryz.f153,MM)) .nil) (some (Tryz.f89,x89)) .nil) (some (Tryz.f57,x57)) (.node .nil (some (Tryz.f121,Nj)) .nil)))) none (.node (.node (.node (.node (.node .nil (some (Tryz.f133,M7)) .nil) (some (Tryz.f69,x69)) .nil) none (.node .nil (some (Tryz.f101,ND)) .nil)) (some (Tryz.f21,x21)) (.node (.node (.node .nil (some (Tryz.f149,MQ)) .nil) (some (Tryz.f85,x85)) .nil) (some (Tryz.f53,x53)) (.node .nil (some (Tryz.f117,Nn)) .nil))) none (.node (.node (.node (.node .nil (some (Tryz.f141,MY)) .nil) (some (Tryz.f77,x77)) .nil) (some (Tryz.f45,x45)) (.node .nil (some (Tryz.f109,Nv)) .nil)) (some (Tryz.f29,x29)) (.node (.node (.node .nil (some (Tryz.f157,MI)) .nil) (some (Tryz.f93,x93)) .nil) (some (Tryz.f61,x61)) (.node .nil (some (Tryz.f125,Nf)) .nil)))))) none (.node (.node (.node (.node (.node (.node (.node .nil (some (Tryz.f128,Nb)) .nil) (some (Tryz.f64,x64)) .nil) (some (Tryz.f32,x32)) (.node (.node .nil (some (Tryz.f160,MF)) .nil) (some (Tryz.f96,x96)) .nil)) none (.node (.node (.node .nil (some (Tryz.f144,MV)) .nil) (some (Tryz.f80,x80)) .nil) (some (Tryz.f48,x48)) (.node .nil (some (Tryz.f112,Ns)) .nil))) (some (Tryz.f8,x8)) (.node (.node (.node (.node .nil (some (Tryz.f136,M4)) .nil) (some (Tryz.f72,x72)) .nil) (some (Tryz.f40,x40)) (.node .nil (some (Tryz.f104,NA)) .nil)) (some (Tryz.f24,x24)) (.node (.node (.node .nil (some (Tryz.f152,MN)) .nil) (some (Tryz.f88,x88)) .nil) (some (Tryz.f56,x56)) (.node .nil (some (Tryz.f120,Nk)) .nil)))) none (.node (.node (.node (.node (.node .nil (some (Tryz.f132,M8)) .nil) (some (Tryz.f68,x68)) .nil) (some (Tryz.f36,x36)) (.node .nil (some (Tryz.f100,NF)) .nil)) (some (Tryz.f20,x20)) (.node (.node (.node .nil (some (Tryz.f148,MR)) .nil) (some (Tryz.f84,x84)) .nil) (some (Tryz.f52,x52)) (.node .nil (some (Tryz.f116,No)) .nil))) none (.node (.node (.node (.node .nil (some (Tryz.f140,MZ)) .nil) (some (Tryz.f76,x76)) .nil) (some (Tryz.f44,x44)) (.node .nil (some (Tryz.f108,Nw)) .nil)) (some (Tryz.f28,x28)) (.node (.node (.node .nil (some (Tryz.f156,MJ)) .nil) (some (Tryz.f92,x92)) .nil) (some (Tryz.f60,x60)) (.node .nil (some (Tryz.f124,Ng)) .nil))))) none (.node (.node (.node (.node (.node (.node .nil (some (Tryz.f130,M_)) .nil) (some (Tryz.f66,x66)) .nil) (some (Tryz.f34,x34)) (.node (.node .nil (some (Tryz.f162,MD)) .nil) (some (Tryz.f98,x98)) .nil)) none (.node (.node (.node .nil (some (Tryz.f146,MT)) .nil) (some (Tryz.f82,x82)) .nil) (some (Tryz.f50,x50)) (.node .nil (some (Tryz.f114,Nq)) .nil))) (some (Tryz.f10,x10)) (.node (.node (.node (.node .nil (some (Tryz.f138,M1)) .nil) (some (Tryz.f74,x74)) .nil) (some (Tryz.f42,x42)) (.node .nil (some (Tryz.f106,Ny)) .nil)) (some (Tryz.f26,x26)) (.node (.node (.node .nil (some (Tryz.f154,ML)) .nil) (some (Tryz.f90,x90)) .nil) (some (Tryz.f58,x58)) (.node .nil (some (Tryz.f122,Ni)) .nil)))) none (.node (.node (.node (.node (.node .nil (some (Tryz.f134,M6)) .nil) (some (Tryz.f70,x70)) .nil) (some (Tryz.f38,x38)) (.node .nil (some (Tryz.f102,NC)) .nil)) (some (Tryz.f22,x22)) (.node (.node (.node .nil (some (Tryz.f150,MP)) .nil) (some (Tryz.f86,x86)) .nil) (some (Tryz.f54,x54)) (.node .nil (some (Tryz.f118,Nm)) .nil))) none (.node (.node (.node (.node .nil (some (Tryz.f142,MX)) .nil) (some (Tryz.f78,x78)) .nil) (some (Tryz.f46,x46)) (.node .nil (some (Tryz.f110,Nu)) .nil)) (some (Tryz.f30,x30)) (.node (.node (.node .nil (some (Tryz.f158,MH)) .nil) (some (Tryz.f94,x94)) .nil) none (.node .nil (some (Tryz.f126,Nd)) .nil)))))))
def fns:FT:=fun f=>fnT.get f
theorem fk3:aN Tryz.prog 3 Tryz.f3 x3:=ak Tryz.func3 rfl rfl
theorem fk7:aN Tryz.prog 7 Tryz.f7 x7:=ak Tryz.func7 rfl rfl
theorem fk8:aN Tryz.prog 8 Tryz.f8 x8:=ak Tryz.func8 rfl rfl
theorem fk9:aN Tryz.prog 9 Tryz.f9 x9:=ak Tryz.func9 rfl rfl
theorem YK:aN Tryz.prog 10 Tryz.f10 x10:=ak Tryz.func10 rfl rfl
theorem YJ:aN Tryz.prog 11 Tryz.f11 x11:=ak Tryz.func11 rfl rfl
theorem YI:aN Tryz.prog 20 Tryz.f20 x20:=ak Tryz.func20 rfl rfl
theorem YH:aN Tryz.prog 21 Tryz.f21 x21:=ak Tryz.func21 rfl rfl
theorem YG:aN Tryz.prog 22 Tryz.f22 x22:=ak Tryz.func22 rfl rfl
theorem YF:aN Tryz.prog 23 Tryz.f23 x23:=ak Tryz.func23 rfl rfl
theorem YE:aN Tryz.prog 24 Tryz.f24 x24:=ak Tryz.func24 rfl rfl
theorem YD:aN Tryz.prog 25 Tryz.f25 x25:=ak Tryz.func25 rfl rfl
theorem YC:aN Tryz.prog 26 Tryz.f26 x26:=ak Tryz.func26 rfl rfl
theorem YB:aN Tryz.prog 27 Tryz.f27 x27:=ak Tryz.func27 rfl rfl
theorem YA:aN Tryz.prog 28 Tryz.f28 x28:=ak Tryz.func28 rfl rfl
theorem Yz:aN Tryz.prog 29 Tryz.f29 x29:=ak Tryz.func29 rfl rfl
theorem Yy:aN Tryz.prog 30 Tryz.f30 x30:=ak Tryz.func30 rfl rfl
theorem Yx:aN Tryz.prog 31 Tryz.f31 x31:=ak Tryz.func31 rfl rfl
theorem Yw:aN Tryz.prog 32 Tryz.f32 x32:=ak Tryz.func32 rfl rfl
theorem Yv:aN Tryz.prog 33 Tryz.f33 x33:=ak Tryz.func33 rfl rfl
theorem Yu:aN Tryz.prog 34 Tryz.f34 x34:=ak Tryz.func34 rfl rfl
theorem G9:aN Tryz.prog 35 Tryz.f35 x35:=ak Tryz.func35 rfl rfl
theorem G8:aN Tryz.prog 36 Tryz.f36 x36:=ak Tryz.func36 rfl rfl
theorem Yt:aN Tryz.prog 38 Tryz.f38 x38:=ak Tryz.func38 rfl rfl
theorem Ys:aN Tryz.prog 40 Tryz.f40 x40:=ak Tryz.func40 rfl rfl
theorem Yr:aN Tryz.prog 41 Tryz.f41 x41:=ak Tryz.func41 rfl rfl
theorem Yq:aN Tryz.prog 42 Tryz.f42 x42:=ak Tryz.func42 rfl rfl
theorem Yp:aN Tryz.prog 43 Tryz.f43 x43:=ak Tryz.func43 rfl rfl
theorem Yo:aN Tryz.prog 44 Tryz.f44 x44:=ak Tryz.func44 rfl rfl
theorem Yn:aN Tryz.prog 45 Tryz.f45 x45:=ak Tryz.func45 rfl rfl
theorem Ym:aN Tryz.prog 46 Tryz.f46 x46:=ak Tryz.func46 rfl rfl
theorem Yl:aN Tryz.prog 47 Tryz.f47 x47:=ak Tryz.func47 rfl rfl
theorem Yk:aN Tryz.prog 48 Tryz.f48 x48:=ak Tryz.func48 rfl rfl
theorem Yj:aN Tryz.prog 49 Tryz.f49 x49:=ak Tryz.func49 rfl rfl
theorem Yi:aN Tryz.prog 50 Tryz.f50 x50:=ak Tryz.func50 rfl rfl
theorem Yh:aN Tryz.prog 51 Tryz.f51 x51:=ak Tryz.func51 rfl rfl
theorem Yg:aN Tryz.prog 52 Tryz.f52 x52:=ak Tryz.func52 rfl rfl
theorem Yf:aN Tryz.prog 53 Tryz.f53 x53:=ak Tryz.func53 rfl rfl
theorem Ye:aN Tryz.prog 54 Tryz.f54 x54:=ak Tryz.func54 rfl rfl
theorem Yd:aN Tryz.prog 55 Tryz.f55 x55:=ak Tryz.func55 rfl rfl
theorem Yc:aN Tryz.prog 56 Tryz.f56 x56:=ak Tryz.func56 rfl rfl
theorem Yb:aN Tryz.prog 57 Tryz.f57 x57:=ak Tryz.func57 rfl rfl
theorem Ya:aN Tryz.prog 58 Tryz.f58 x58:=ak Tryz.func58 rfl rfl
theorem X_:aN Tryz.prog 59 Tryz.f59 x59:=ak Tryz.func59 rfl rfl
theorem X9:aN Tryz.prog 60 Tryz.f60 x60:=ak Tryz.func60 rfl rfl
theorem X8:aN Tryz.prog 61 Tryz.f61 x61:=ak Tryz.func61 rfl rfl
theorem X7:aN Tryz.prog 63 Tryz.f63 x63:=ak Tryz.func63 rfl rfl
theorem X6:aN Tryz.prog 64 Tryz.f64 x64:=ak Tryz.func64 rfl rfl
theorem X5:aN Tryz.prog 65 Tryz.f65 x65:=ak Tryz.func65 rfl rfl
theorem X4:aN Tryz.prog 66 Tryz.f66 x66:=ak Tryz.func66 rfl rfl
theorem X3:aN Tryz.prog 67 Tryz.f67 x67:=ak Tryz.func67 rfl rfl
theorem X2:aN Tryz.prog 68 Tryz.f68 x68:=ak Tryz.func68 rfl rfl
theorem X1:aN Tryz.prog 69 Tryz.f69 x69:=ak Tryz.func69 rfl rfl
theorem X0:aN Tryz.prog 70 Tryz.f70 x70:=ak Tryz.func70 rfl rfl
theorem XZ:aN Tryz.prog 71 Tryz.f71 x71:=ak Tryz.func71 rfl rfl
theorem XY:aN Tryz.prog 72 Tryz.f72 x72:=ak Tryz.func72 rfl rfl
theorem XX:aN Tryz.prog 73 Tryz.f73 x73:=ak Tryz.func73 rfl rfl
theorem XW:aN Tryz.prog 74 Tryz.f74 x74:=ak Tryz.func74 rfl rfl
theorem XV:aN Tryz.prog 75 Tryz.f75 x75:=ak Tryz.func75 rfl rfl
theorem XU:aN Tryz.prog 76 Tryz.f76 x76:=ak Tryz.func76 rfl rfl
theorem XT:aN Tryz.prog 77 Tryz.f77 x77:=ak Tryz.func77 rfl rfl
theorem XS:aN Tryz.prog 78 Tryz.f78 x78:=ak Tryz.func78 rfl rfl
theorem XR:aN Tryz.prog 79 Tryz.f79 x79:=ak Tryz.func79 rfl rfl
theorem XQ:aN Tryz.prog 80 Tryz.f80 x80:=ak Tryz.func80 rfl rfl
theorem XP:aN Tryz.prog 81 Tryz.f81 x81:=ak Tryz.func81 rfl rfl
theorem XO:aN Tryz.prog 82 Tryz.f82 x82:=ak Tryz.func82 rfl rfl
theorem XN:aN Tryz.prog 83 Tryz.f83 x83:=ak Tryz.func83 rfl rfl
theorem XM:aN Tryz.prog 84 Tryz.f84 x84:=ak Tryz.func84 rfl rfl
theorem XL:aN Tryz.prog 85 Tryz.f85 x85:=ak Tryz.func85 rfl rfl
theorem XK:aN Tryz.prog 86 Tryz.f86 x86:=ak Tryz.func86 rfl rfl
theorem XJ:aN Tryz.prog 87 Tryz.f87 x87:=ak Tryz.func87 rfl rfl
theorem XI:aN Tryz.prog 88 Tryz.f88 x88:=ak Tryz.func88 rfl rfl
theorem XH:aN Tryz.prog 89 Tryz.f89 x89:=ak Tryz.func89 rfl rfl
theorem XG:aN Tryz.prog 90 Tryz.f90 x90:=ak Tryz.func90 rfl rfl
theorem XF:aN Tryz.prog 91 Tryz.f91 x91:=ak Tryz.func91 rfl rfl
theorem XE:aN Tryz.prog 92 Tryz.f92 x92:=ak Tryz.func92 rfl rfl
theorem XD:aN Tryz.prog 93 Tryz.f93 x93:=ak Tryz.func93 rfl rfl
theorem XC:aN Tryz.prog 94 Tryz.f94 x94:=ak Tryz.func94 rfl rfl
theorem XB:aN Tryz.prog 95 Tryz.f95 x95:=ak Tryz.func95 rfl rfl
theorem XA:aN Tryz.prog 96 Tryz.f96 x96:=ak Tryz.func96 rfl rfl
theorem Xz:aN Tryz.prog 97 Tryz.f97 x97:=ak Tryz.func97 rfl rfl
theorem Xy:aN Tryz.prog 98 Tryz.f98 x98:=ak Tryz.func98 rfl rfl
theorem Xx:aN Tryz.prog 99 Tryz.f99 x99:=ak Tryz.func99 rfl rfl
theorem Sz:aN Tryz.prog 100 Tryz.f100 NF:=ak Tryz.func100 rfl rfl
theorem Sy:aN Tryz.prog 101 Tryz.f101 ND:=ak Tryz.func101 rfl rfl
theorem Sw:aN Tryz.prog 102 Tryz.f102 NC:=ak Tryz.func102 rfl rfl
theorem Sv:aN Tryz.prog 103 Tryz.f103 NB:=ak Tryz.func103 rfl rfl
theorem Su:aN Tryz.prog 104 Tryz.f104 NA:=ak Tryz.func104 rfl rfl
theorem Ss:aN Tryz.prog 105 Tryz.f105 Nz:=ak Tryz.func105 rfl rfl
theorem Sr:aN Tryz.prog 106 Tryz.f106 Ny:=ak Tryz.func106 rfl rfl
theorem Sq:aN Tryz.prog 107 Tryz.f107 Nx:=ak Tryz.func107 rfl rfl
theorem So:aN Tryz.prog 108 Tryz.f108 Nw:=ak Tryz.func108 rfl rfl
theorem Sn:aN Tryz.prog 109 Tryz.f109 Nv:=ak Tryz.func109 rfl rfl
theorem Sm:aN Tryz.prog 110 Tryz.f110 Nu:=ak Tryz.func110 rfl rfl
theorem Sl:aN Tryz.prog 111 Tryz.f111 Nt:=ak Tryz.func111 rfl rfl
theorem Sk:aN Tryz.prog 112 Tryz.f112 Ns:=ak Tryz.func112 rfl rfl
theorem Sj:aN Tryz.prog 113 Tryz.f113 Nr:=ak Tryz.func113 rfl rfl
theorem Si:aN Tryz.prog 114 Tryz.f114 Nq:=ak Tryz.func114 rfl rfl
theorem Sh:aN Tryz.prog 115 Tryz.f115 Np:=ak Tryz.func115 rfl rfl
theorem Se:aN Tryz.prog 116 Tryz.f116 No:=ak Tryz.func116 rfl rfl
theorem Sd:aN Tryz.prog 117 Tryz.f117 Nn:=ak Tryz.func117 rfl rfl
theorem Sc:aN Tryz.prog 118 Tryz.f118 Nm:=ak Tryz.func118 rfl rfl
theorem Sb:aN Tryz.prog 119 Tryz.f119 Nl:=ak Tryz.func119 rfl rfl
theorem Sa:aN Tryz.prog 120 Tryz.f120 Nk:=ak Tryz.func120 rfl rfl
theorem R_:aN Tryz.prog 121 Tryz.f121 Nj:=ak Tryz.func121 rfl rfl
theorem RZ:aN Tryz.prog 122 Tryz.f122 Ni:=ak Tryz.func122 rfl rfl
theorem RY:aN Tryz.prog 123 Tryz.f123 Nh:=ak Tryz.func123 rfl rfl
theorem RX:aN Tryz.prog 124 Tryz.f124 Ng:=ak Tryz.func124 rfl rfl
theorem RW:aN Tryz.prog 125 Tryz.f125 Nf:=ak Tryz.func125 rfl rfl
theorem RV:aN Tryz.prog 126 Tryz.f126 Nd:=ak Tryz.func126 rfl rfl
theorem RU:aN Tryz.prog 127 Tryz.f127 Nc:=ak Tryz.func127 rfl rfl
theorem RT:aN Tryz.prog 128 Tryz.f128 Nb:=ak Tryz.func128 rfl rfl
theorem RS:aN Tryz.prog 129 Tryz.f129 Na:=ak Tryz.func129 rfl rfl
theorem RR:aN Tryz.prog 130 Tryz.f130 M_:=ak Tryz.func130 rfl rfl
theorem RQ:aN Tryz.prog 131 Tryz.f131 M9:=ak Tryz.func131 rfl rfl
theorem RP:aN Tryz.prog 132 Tryz.f132 M8:=ak Tryz.func132 rfl rfl
theorem RO:aN Tryz.prog 133 Tryz.f133 M7:=ak Tryz.func133 rfl rfl
theorem RN:aN Tryz.prog 134 Tryz.f134 M6:=ak Tryz.func134 rfl rfl
theorem RM:aN Tryz.prog 135 Tryz.f135 M5:=ak Tryz.func135 rfl rfl
theorem RL:aN Tryz.prog 136 Tryz.f136 M4:=ak Tryz.func136 rfl rfl
theorem RJ:aN Tryz.prog 137 Tryz.f137 M3:=ak Tryz.func137 rfl rfl
theorem RI:aN Tryz.prog 138 Tryz.f138 M1:=ak Tryz.func138 rfl rfl
theorem RH:aN Tryz.prog 139 Tryz.f139 M0:=ak Tryz.func139 rfl rfl
theorem RG:aN Tryz.prog 140 Tryz.f140 MZ:=ak Tryz.func140 rfl rfl
theorem RF:aN Tryz.prog 141 Tryz.f141 MY:=ak Tryz.func141 rfl rfl
theorem RE:aN Tryz.prog 142 Tryz.f142 MX:=ak Tryz.func142 rfl rfl
theorem RD:aN Tryz.prog 143 Tryz.f143 MW:=ak Tryz.func143 rfl rfl
theorem RB:aN Tryz.prog 144 Tryz.f144 MV:=ak Tryz.func144 rfl rfl
theorem RA:aN Tryz.prog 145 Tryz.f145 MU:=ak Tryz.func145 rfl rfl
theorem Rz:aN Tryz.prog 146 Tryz.f146 MT:=ak Tryz.func146 rfl rfl
theorem Ry:aN Tryz.prog 147 Tryz.f147 MS:=ak Tryz.func147 rfl rfl
theorem Rx:aN Tryz.prog 148 Tryz.f148 MR:=ak Tryz.func148 rfl rfl
theorem Rw:aN Tryz.prog 149 Tryz.f149 MQ:=ak Tryz.func149 rfl rfl
theorem Rv:aN Tryz.prog 150 Tryz.f150 MP:=ak Tryz.func150 rfl rfl
theorem Ru:aN Tryz.prog 151 Tryz.f151 MO:=ak Tryz.func151 rfl rfl
theorem Rt:aN Tryz.prog 152 Tryz.f152 MN:=ak Tryz.func152 rfl rfl
theorem Rs:aN Tryz.prog 153 Tryz.f153 MM:=ak Tryz.func153 rfl rfl
theorem Rq:aN Tryz.prog 154 Tryz.f154 ML:=ak Tryz.func154 rfl rfl
theorem Rp:aN Tryz.prog 155 Tryz.f155 MK:=ak Tryz.func155 rfl rfl
theorem Ro:aN Tryz.prog 156 Tryz.f156 MJ:=ak Tryz.func156 rfl rfl
theorem Rm:aN Tryz.prog 157 Tryz.f157 MI:=ak Tryz.func157 rfl rfl
theorem Rl:aN Tryz.prog 158 Tryz.f158 MH:=ak Tryz.func158 rfl rfl
theorem Rk:aN Tryz.prog 159 Tryz.f159 MG:=ak Tryz.func159 rfl rfl
theorem Rj:aN Tryz.prog 160 Tryz.f160 MF:=ak Tryz.func160 rfl rfl
theorem Ri:aN Tryz.prog 161 Tryz.f161 ME:=ak Tryz.func161 rfl rfl
theorem yZ:aN Tryz.prog 162 Tryz.f162 MD:=ak Tryz.func162 rfl rfl
theorem Rh:aN Tryz.prog 163 Tryz.f163 MC:=ak Tryz.func163 rfl rfl
theorem DX:wI Tryz.prog fns:=La (.no (.no (.yes fk3 (.yes fk7 (.no (.yes Yx (.yes X7 (.yes RU (.nil _ _) (.nil _ _)) (.nil _ _)) (.yes XB (.yes Rk (.nil _ _) (.nil _ _)) (.nil _ _))) (.yes Yl (.yes XR (.yes RD (.nil _ _) (.nil _ _)) (.nil _ _)) (.yes Sl (.nil _ _) (.nil _ _)))) (.yes YF (.no (.yes XZ (.yes RM (.nil _ _) (.nil _ _)) (.nil _ _)) (.yes Sv (.nil _ _) (.nil _ _))) (.yes Yd (.yes XJ (.yes Ru (.nil _ _) (.nil _ _)) (.nil _ _)) (.yes Sb (.nil _ _) (.nil _ _))))) (.yes YJ (.no (.yes G9 (.yes X3 (.yes RQ (.nil _ _) (.nil _ _)) (.nil _ _)) (.yes Xx (.yes Rh (.nil _ _) (.nil _ _)) (.nil _ _))) (.yes Yh (.yes XN (.yes Ry (.nil _ _) (.nil _ _)) (.nil _ _)) (.yes Sh (.nil _ _) (.nil _ _)))) (.yes YB (.yes Yp (.yes XV (.yes RH (.nil _ _) (.nil _ _)) (.nil _ _)) (.yes Sq (.nil _ _) (.nil _ _))) (.yes X_ (.yes XF (.yes Rp (.nil _ _) (.nil _ _)) (.nil _ _)) (.yes RY (.nil _ _) (.nil _ _)))))) (.no (.yes fk9 (.no (.yes Yv (.yes X5 (.yes RS (.nil _ _) (.nil _ _)) (.nil _ _)) (.yes Xz (.yes Ri (.nil _ _) (.nil _ _)) (.nil _ _))) (.yes Yj (.yes XP (.yes RA (.nil _ _) (.nil _ _)) (.nil _ _)) (.yes Sj (.nil _ _) (.nil _ _)))) (.yes YD (.yes Yr (.yes XX (.yes RJ (.nil _ _) (.nil _ _)) (.nil _ _)) (.yes Ss (.nil _ _) (.nil _ _))) (.yes Yb (.yes XH (.yes Rs (.nil _ _) (.nil _ _)) (.nil _ _)) (.yes R_ (.nil _ _) (.nil _ _))))) (.no (.yes YH (.no (.yes X1 (.yes RO (.nil _ _) (.nil _ _)) (.nil _ _)) (.yes Sy (.nil _ _) (.nil _ _))) (.yes Yf (.yes XL (.yes Rw (.nil _ _) (.nil _ _)) (.nil _ _)) (.yes Sd (.nil _ _) (.nil _ _)))) (.yes Yz (.yes Yn (.yes XT (.yes RF (.nil _ _) (.nil _ _)) (.nil _ _)) (.yes Sn (.nil _ _) (.nil _ _))) (.yes X8 (.yes XD (.yes Rm (.nil _ _) (.nil _ _)) (.nil _ _)) (.yes RW (.nil _ _) (.nil _ _))))))) (.no (.no (.yes fk8 (.no (.yes Yw (.yes X6 (.yes RT (.nil _ _) (.nil _ _)) (.nil _ _)) (.yes XA (.yes Rj (.nil _ _) (.nil _ _)) (.nil _ _))) (.yes Yk (.yes XQ (.yes RB (.nil _ _) (.nil _ _)) (.nil _ _)) (.yes Sk (.nil _ _) (.nil _ _)))) (.yes YE (.yes Ys (.yes XY (.yes RL (.nil _ _) (.nil _ _)) (.nil _ _)) (.yes Su (.nil _ _) (.nil _ _))) (.yes Yc (.yes XI (.yes Rt (.nil _ _) (.nil _ _)) (.nil _ _)) (.yes Sa (.nil _ _) (.nil _ _))))) (.no (.yes YI (.yes G8 (.yes X2 (.yes RP (.nil _ _) (.nil _ _)) (.nil _ _)) (.yes Sz (.nil _ _) (.nil _ _))) (.yes Yg (.yes XM (.yes Rx (.nil _ _) (.nil _ _)) (.nil _ _)) (.yes Se (.nil _ _) (.nil _ _)))) (.yes YA (.yes Yo (.yes XU (.yes RG (.nil _ _) (.nil _ _)) (.nil _ _)) (.yes So (.nil _ _) (.nil _ _))) (.yes X9 (.yes XE (.yes Ro (.nil _ _) (.nil _ _)) (.nil _ _)) (.yes RX (.nil _ _) (.nil _ _)))))) (.no (.yes YK (.no (.yes Yu (.yes X4 (.yes RR (.nil _ _) (.nil _ _)) (.nil _ _)) (.yes Xy (.yes yZ (.nil _ _) (.nil _ _)) (.nil _ _))) (.yes Yi (.yes XO (.yes Rz (.nil _ _) (.nil _ _)) (.nil _ _)) (.yes Si (.nil _ _) (.nil _ _)))) (.yes YC (.yes Yq (.yes XW (.yes RI (.nil _ _) (.nil _ _)) (.nil _ _)) (.yes Sr (.nil _ _) (.nil _ _))) (.yes Ya (.yes XG (.yes Rq (.nil _ _) (.nil _ _)) (.nil _ _)) (.yes RZ (.nil _ _) (.nil _ _))))) (.no (.yes YG (.yes Yt (.yes X0 (.yes RN (.nil _ _) (.nil _ _)) (.nil _ _)) (.yes Sw (.nil _ _) (.nil _ _))) (.yes Ye (.yes XK (.yes Rv (.nil _ _) (.nil _ _)) (.nil _ _)) (.yes Sc (.nil _ _) (.nil _ _)))) (.yes Yy (.yes Ym (.yes XS (.yes RE (.nil _ _) (.nil _ _)) (.nil _ _)) (.yes Sm (.nil _ _) (.nil _ _))) (.no (.yes XC (.yes Rl (.nil _ _) (.nil _ _)) (.nil _ _)) (.yes RV (.nil _ _) (.nil _ _))))))))
end Go.Proofs.YtfffmmahegdfiaaGreat
namespace Go.Proofs
open Go.Shelf
def Tryz.lB:Go.Shelf.Ren:=⟨fun | 4=>162 | n=>n,fun | 22=>43 | 25=>3 | 3=>3 | 4=>4 | 9=>9 | 20=>20 | 0=>0 | n=>n,fun | n=>n⟩
theorem Tryz.vW:Go.Proofs.Lays8.n4 Tryz.prog Tryz.lB where
 mixed:=by kernel_rfl
 f4:=⟨Tryz.f162.name,by kernel_rfl,Tryz.func162.trans (congrArg some (by kernel_rfl))⟩
 t0:=Tryz.underlying0
 a0:=Tryz.isAgg0
 z0:=Tryz.sizeOf0
 v0:=Tryz.zeroValue0
 t3:=Tryz.underlying3
 a3:=Tryz.isAgg3
 z3:=Tryz.sizeOf3
 v3:=Tryz.zeroValue3
 t4:=Tryz.underlying4
 a4:=Tryz.isAgg4
 z4:=Tryz.sizeOf4
 v4:=Tryz.zeroValue4
 t9:=Tryz.underlying9
 a9:=Tryz.isAgg9
 z9:=Tryz.sizeOf9
 v9:=Tryz.zeroValue9
 t20:=Tryz.underlying20
 a20:=Tryz.isAgg20
 z20:=Tryz.sizeOf20
 v20:=Tryz.zeroValue20
 t22:=Tryz.underlying43
 a22:=Tryz.isAgg43
 z22:=Tryz.sizeOf43
 v22:=Tryz.zeroValue43
end Go.Proofs
namespace Go.Proofs.YtfffmmahegdfiaaGreat
open Go.Bm Go.Shelf
abbrev Bt:Ty:=(.pair (.int .i64) (.pair (.pair (.int .u8) (.pair (.int .u8) (.pair (.int .u8) (.pair (.int .u8) (.pair (.int .i64) (.pair (.int .i64) (.int .i64))))))) (.pair (.int .i64) (.pair (.int .i64) (.pair (.int .i64) (.pair (.int .i64) (.pair (.int .i64) (.aJ (.int .i64)))))))))
theorem DQ:∃i,Tryz.prog.info? (Tryz.lB.t 25)=some i∧i.zero=some (.int .i64 0)∧i.size=1∧i.bytes=8:=by
 obtain ⟨i,t1,t2,t3,t4,t5,t6⟩:=VG.ti
 exact ⟨i,t1,t2,t3,t4⟩
theorem AY:uJ Tryz.prog 162 (.int .i64):=⟨⟨_,yZ.bm,yZ.name,by rw [yZ.body];rfl⟩,fun n w hn=>by
 obtain ⟨i,h1,h2,h3,h4⟩:=DQ
 rcases Nat.eq_zero_or_pos n with rfl | h0
 ·exact (Any8.slices_Grow_room Tryz.vW none 0 0 0 w (by omega) (by omega) (by omega) (by omega)).mono fun e w' h=>⟨_,h.1,.inl ⟨rfl,h.2⟩⟩
 ·refine (Any8.slices_Grow_grow Tryz.vW i _ h1 h2 (by omega) none 0 0 n [] w (by omega) (by omega) (by rw [h4];omega) (by omega) (by simp) (fun _=>rfl) (fun a h=>by cases h)).mono fun e w' h=>⟨_,h.1,.inr ⟨_,_,_,rfl,h.2,?_,?_⟩⟩
  ·have:=grownCap_ge w (0+n) 0 (Tryz.lB.t 25)
   show _*1≤_
   simp only [Array.size_append,size_zeroCells,Value.cells]
   simp
   omega
  ·exact grownCap_le_maxLen w _ _ _ (by unfold maxLen;omega)⟩
section
set_option maxHeartbeats 1000000
open Go.RowKit Go.Lib
theorem Ext.Jj {S:Hp} {g:G} {w:World} (ob:Obj):Ext S g w S g (w.alloc ob):=⟨.refl g,rfl,rfl,rfl,by rw [show (w.alloc ob).heap.size=w.heap.size+1 from Array.size_push _];omega,fun k hk _=>Below.heap_alloc w _ k hk,fun _ h=>.inl h,fun _ _ h=>.inl h,fun _ h=>h,fun _ _ _ h=>.inl h,fun _ _ h=>.inl h⟩
theorem qt {P:Program} {ops:Array Oper} {o:Oper} {rest:List Oper} {a:Act} {w w':World} {v:Value} {Q:Exit→Act→World→Prop} (hg:o.guard=none) (h:(execOp a.eval o).run P w = .ok (.value v) w') (k:wpList P ops Q rest (a.put o.dst v) w'):wpList P ops Q (o::rest) a w:=by
 refine wpList_plain hg fun K hK=>?_
 unfold Oper.wp
 rw [h]
 exact hK _ _ k
theorem LK (n c:Nat) (w:World):Calls Tryz.prog 36 #[.slice none n c] w fun e w'=>e = .returned (.slice none 0 0)∧w'=w:=by
 have VZ:∀(w:World) (a:Option Addr) (n c n' c':Nat),(binOp .eql 43 (.slice a n c) (.slice none n' c')).run Tryz.prog w = .ok (.bool a.isNone) w:=fun w a n c n' c'=>Lib.run_eql_slice_nil w _ _ a n c n' c' Fx.u
 go_enter Tryz.func36,Tryz.ntmps36
 go_wp2
 go_ret
 exact ⟨rfl,rfl⟩
theorem Hq (g:G) (S:Hp) (q:Nat) (hf:S.fr q) (l:List Int) (hl:l.length≤16777216) (w:World) (hI:Inv g S w) (a:Addr) (n c:Nat) (hv:∀w2,Inv g S w2→Given g w2 (.slice (some a) n c) 1 l.length (l.flatMap (aA (.int .i64)))):Calls Tryz.prog 36 #[.slice (some a) n c] w fun e w'=>∃v g',e = .returned v∧V g' (.tw (.loc q) 1) v∧Inv g' (S.new q (.cells (l.flatMap (aA (.int .i64))))) w'∧Ext S g w (S.new q (.cells (l.flatMap (aA (.int .i64))))) g' w':=by
 have VZ:∀(w:World) (a:Option Addr) (n c n' c':Nat),(binOp .eql 43 (.slice a n c) (.slice none n' c')).run Tryz.prog w = .ok (.bool a.isNone) w:=fun w a n c n' c'=>Lib.run_eql_slice_nil w _ _ a n c n' c' Fx.u
 have hw:Inv g S (w.alloc (.cells #[] 3)):=hI.world (by rw [show (w.alloc (.cells #[] 3)).heap.size=w.heap.size+1 from Array.size_push _];omega) (fun k hk=>Below.heap_alloc w _ k hk)
 have ug:Given g (w.alloc (.cells #[] 3)) (.slice (some a) n c) 1 l.length (l.flatMap (aA (.int .i64))):=hv _ hw
 obtain ⟨v,g',w',eQ,k1,k2,k3⟩:=g7 (P:=Tryz.prog) (ty:=43) (some ⟨w.heap.size,0,none⟩) Fx.u VG.ti hw ug hf (by show _*8≤_;omega) (by unfold maxLen;omega)
 have k3:=(Ext.Jj (S:=S) (g:=g) (w:=w) (.cells #[] 3)).trans k3
 clear ug hw
 go_enter Tryz.func36,Tryz.ntmps36
 go_wp2_with (at_builtin;refine qt (v:=v) (w':=w') rfl (by simp [execOp,resolve,invoke,Act.eval,builtin,eQ]) ?_)
 go_ret
 exact ⟨v,g',rfl,k1,k2,k3⟩
theorem Bg:oR Tryz.prog 36 (.int .i64):=⟨⟨_,G8.bm,G8.name,by rw [G8.body];rfl⟩,LK,fun g S q hf l hl w hI a n c hv=>Hq g S q hf l hl w hI a n c hv⟩
theorem Ep (n c:Nat) (w:World):Calls Tryz.prog 35 #[.slice none n c] w fun e w'=>e = .returned (.slice none 0 0)∧w'=w:=by
 have VZ:∀(w:World) (a:Option Addr) (n c n' c':Nat),(binOp .eql 39 (.slice a n c) (.slice none n' c')).run Tryz.prog w = .ok (.bool a.isNone) w:=fun w a n c n' c'=>Lib.run_eql_slice_nil w _ _ a n c n' c' Fy.u
 go_enter Tryz.func35,Tryz.ntmps35
 go_wp2
 go_ret
 exact ⟨rfl,rfl⟩
theorem Bj (g:G) (S:Hp) (q:Nat) (hf:S.fr q) (l:List Bt.T) (hl:l.length≤16777216) (w:World) (hI:Inv g S w) (a:Addr) (n c:Nat) (hv:∀w2,Inv g S w2→Given g w2 (.slice (some a) n c) 14 l.length (l.flatMap (aA Bt))):Calls Tryz.prog 35 #[.slice (some a) n c] w fun e w'=>∃v g',e = .returned v∧V g' (.tw (.loc q) 14) v∧Inv g' (S.new q (.cells (l.flatMap (aA Bt)))) w'∧Ext S g w (S.new q (.cells (l.flatMap (aA Bt)))) g' w':=by
 have VZ:∀(w:World) (a:Option Addr) (n c n' c':Nat),(binOp .eql 39 (.slice a n c) (.slice none n' c')).run Tryz.prog w = .ok (.bool a.isNone) w:=fun w a n c n' c'=>Lib.run_eql_slice_nil w _ _ a n c n' c' Fy.u
 have hw:Inv g S (w.alloc (.cells #[] 47)):=hI.world (by rw [show (w.alloc (.cells #[] 47)).heap.size=w.heap.size+1 from Array.size_push _];omega) (fun k hk=>Below.heap_alloc w _ k hk)
 have ug:Given g (w.alloc (.cells #[] 47)) (.slice (some a) n c) 14 l.length (l.flatMap (aA Bt)):=hv _ hw
 obtain ⟨v,g',w',eQ,k1,k2,k3⟩:=g7 (P:=Tryz.prog) (ty:=39) (some ⟨w.heap.size,0,none⟩) Fy.u OD.ti hw ug hf (by show _*104≤_;omega) (by unfold maxLen;omega)
 have k3:=(Ext.Jj (S:=S) (g:=g) (w:=w) (.cells #[] 47)).trans k3
 clear ug hw
 go_enter Tryz.func35,Tryz.ntmps35
 go_wp2_with (at_builtin;refine qt (v:=v) (w':=w') rfl (by simp [execOp,resolve,invoke,Act.eval,builtin,eQ]) ?_)
 go_ret
 exact ⟨v,g',rfl,k1,k2,k3⟩
theorem Bh:oR Tryz.prog 35 Bt:=⟨⟨_,G9.bm,G9.name,by rw [G9.body];rfl⟩,Ep,fun g S q hf l hl w hI a n c hv=>Bj g S q hf l hl w hI a n c hv⟩
end
end Go.Proofs.YtfffmmahegdfiaaGreat