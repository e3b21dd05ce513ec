/- Texts of one proof, put together: see each part. -/
import Derived.LoopNIn
import Derived.Test.YtfffmmahegdfiaaGreatRows
import Derived.Shelf.Spec.SlicesGrow
import Derived.Shelf.RegionOpenPlain
import Derived.WalkKit
import Derived.Lib.Walk
import Derived.Lib.SliceRun
import Derived.KernelRfl
import Derived.Test.YtfffmmahegdfiaaGreatPB
set_option maxHeartbeats 2000000
noncomputable section
set_option linter.unusedVariables false
set_option linter.unusedSimpArgs false
namespace Go.Bm
section
open Go.RowKit
def vO {α:Type} (p:α→Bool):Option α→Bool
 | some x=>p x
 | none=>true
def sf {α:Type} (p:α→Bool) (t:Tr α):Bool:=
 Tr.rec (motive:=fun _=>Bool) true (fun _ v _ a b=>vO p v && a && b) t
theorem mG {α:Type} {p:α→Bool}:∀{t:Tr α} (_:sf p t=true) (i:Nat) (x:α),t.get i=some x→p x=true
 | .nil,_,i,x,e=>by rw [Tr.get_nil] at e;cases e
 | .node l v r,h,i,x,e=>by
  have h:(vO p v && sf p l && sf p r)=true:=h
  simp only [zC] at h
  cases i with
  | zero=>rw [Tr.j7] at e;subst e;exact h.1.1
  | succ i=>
   rw [Tr.g6] at e
   cases hb:Nat.beq (i%2) 0 with
   | true=>rw [hb] at e;exact mG h.1.2 _ x e
   | false=>rw [hb] at e;exact mG h.2 _ x e
def I8 (N:Nat):gy→Bool
 | .cells cs=>cs.all (tu N 6)
 | .one _ _=>true
 | .row _ _=>true
 | .cL (.map es)=>es.all fun e=>tu N 6 e.1 && tu N 6 e.2
 | .cL .yN=>true
 | .cL (.loop _ _)=>true
theorem BN {N:Nat} {F:Tr A} (h:sf (tu N 6) F=true) (i:Nat):VP N (bl F.get i):=by
 unfold bl
 split
 ·rename_i p hp;exact gk 6 p (mG h i p hp)
 ·exact gk 1 _ rfl
theorem FX {N:Nat} {x:gy} (h:I8 N x=true):EL N x.low:=by
 cases x with
 | cells cs=>
  have h:cs.all (tu N 6)=true:=h
  rw [List.all_eq_true] at h
  exact fun c hc=>gk 6 c (h c hc)
 | one t x=>exact iQ t x
 | row t l=>exact fun c hc=>by obtain ⟨y,_,hy⟩:=List.mem_flatMap.1 hc;exact iQ t y c hy
 | cL x=>
  cases x with
  | map es=>
   have h:(es.all fun e=>tu N 6 e.1 && tu N 6 e.2)=true:=h
   rw [List.all_eq_true] at h
   exact fun e he=>by have:=h e he;rw [zC] at this;exact ⟨gk 6 _ this.1,gk 6 _ this.2⟩
  | yN=>trivial
  | loop=>trivial
def ckT (k:Bool×Ty):Bool×Ty:=(false,match k.1 with | true=>.aK k.2 | false=>k.2)
def JD (l:List (Bool×Ty)):List (Bool×Ty):=l.map ckT
def CB:List ((Nat×Option Nat)×List (Bool×Ty))→Type
 | []=>Unit
 | p::l=>kc (JD p.2)×CB l
def nx:List (Bool×Ty)→Nat
 | []=>0
 | (true,_)::l=>nx l+1
 | (false,_)::l=>nx l
def pE:List ((Nat×Option Nat)×List (Bool×Ty))→Nat
 | []=>0
 | p::l=>nx p.2+pE l
def LH.S (H:LH):Type:=kc (H.ni.map (·.2))×kc (H.grow.map fun p=>(false,Ty.aK p.2))×kc (H.boxes.map fun p=>(false,p.2))×CB H.v5×rD H.iS
def LH.m (H:LH):Nat:=H.grow.length+pE H.v5
section
variable {β:Type}
def CU:List Nat→Tr A→(Tr A→Option β)→Option β
 | [],F,k=>k F
 | i::l,F,k=>ff F i (some .cF) (fun F=>CU l F k)
def Ug:(l:List (Nat×Bool×Ty))→kc (l.map (·.2))→Tr A→(Tr A→Option β)→Option β
 | [],_,F,k=>k F
 | p::l,x,F,k=>Mi (bZ p.2.1 p.2.2 x.1) (fun c=>ff F p.1 (some c) (fun F=>Ug l x.2 F k))
def V_:List (Nat×Ty)→Nat→Tr A→(Tr A→Option β)→Option β
 | [],_,F,k=>k F
 | p::l,i,F,k=>ff F p.1 (some (.tw (.loc i) p.2.size)) (fun F=>V_ l (i+1) F k)
def DX:List Nat→Tr gy→(Tr gy→Option β)→Option β
 | [],t,k=>k t
 | i::l,t,k=>ff t i none (fun t=>DX l t k)
def Wc:(l:List ((Nat×Option Nat)×Ty))→List Nat→kc (l.map fun p=>(false,p.2))→Tr gy→(Tr gy→Option β)→Option β
 | [],_,_,t,k=>k t
 | p::l,b::bs,x,t,k=>ff t b (some (.one p.2 x.1)) (fun t=>Wc l bs x.2 t k)
 | _::_,[],_,_,_=>none
def Wa:(l:List (Nat×Ty))→Nat→kc (l.map fun p=>(false,Ty.aK p.2))→Tr gy→(Tr gy→Option β)→Option β
 | [],_,_,t,k=>k t
 | p::l,i,x,t,k=>ff t i (some (.row p.2 x.1)) (fun t=>Wa l (i+1) x.2 t k)
def LB:(ks:List (Bool×Ty))→kc (JD ks)→Nat→List A
 | [],_,_=>[]
 | (true,t)::l,x,i=>.tw (.loc i) t.size::LB l x.2 (i+1)
 | (false,t)::l,x,i=>bZ false t x.1::LB l x.2 i
def Uh:(ks:List (Bool×Ty))→kc (JD ks)→Nat→Tr gy→(Tr gy→Option β)→Option β
 | [],_,_,t,k=>k t
 | (true,u)::l,x,i,t,k=>ff t i (some (.row u x.1)) (fun t=>Uh l x.2 (i+1) t k)
 | (false,_)::l,x,i,t,k=>Uh l x.2 i t k
def Wb:(l:List ((Nat×Option Nat)×List (Bool×Ty)))→List Nat→Nat→CB l→Tr gy→(Tr gy→Option β)→Option β
 | [],_,_,_,t,k=>k t
 | p::l,b::bs,i,x,t,k=>ff t b (some (.cells (LB p.2 x.1 i))) (fun t=>Uh p.2 x.1 i t (fun t=>Wb l bs (i+nx p.2) x.2 t k))
 | _::_,[],_,_,_,_=>none
def Ax (H:LH) (lg bs cs da:List Nat) (Fe:Tr A) (he:Go.Bm.H) (s:H.S) (k:Tr A→Go.Bm.H→Option β):Option β:=
 CU lg Fe (fun F=>Ug H.ni s.1 F (fun F=>V_ H.grow he.aR F (fun F=>DX (da++(bs++cs)) he.t (fun t=>Wc H.boxes bs s.2.2.1 t (fun t=>Wb H.v5 cs (he.aR+H.grow.length) s.2.2.2.1 t (fun t=>Wa H.grow he.aR s.2.1 t (fun t=>k F ⟨t,he.aR+H.m,kg H.iS s.2.2.2.2 he.rg,he.lk⟩)))))))
def TW (n:Nat):(l:List (Nat×Bool×Ty))→Tr A→Option (kc (l.map (·.2)))
 | [],_=>some ()
 | p::l,F=>bif Nat.blt p.1 n then (match kR p.2.1 p.2.2 (bl F.get p.1),TW n l F with
  | some x,some y=>some (x,y)
  | _,_=>none) else none
def Fo (t:Ty) (h:Tr gy):A→Option (List t.T×Option Nat)
 | .tw (.loc o) z=>match h.get o with
  | some (.row t' l)=>bif Nat.beq z t.size && Nat.blt o 16777216 then (match fL (.aK t') (.aK t) l with
   | some l=>some (l,some o)
   | none=>none) else none
  | _=>none
 | .e0=>some ([],none)
 | .v (.slice none 0 0)=>some ([],none)
 | _=>none
def I3 (n:Nat):(l:List (Nat×Ty))→Tr A→Tr gy→Option (kc (l.map fun p=>(false,Ty.aK p.2))×List (Option Nat))
 | [],_,_=>some ((),[])
 | p::l,F,t=>bif Nat.blt p.1 n then (match Fo p.2 t (bl F.get p.1),I3 n l F t with
  | some x,some y=>some ((x.1,y.1),x.2::y.2)
  | _,_=>none) else none
def TX:(l:List ((Nat×Option Nat)×Ty))→List Nat→Tr gy→Option (kc (l.map fun p=>(false,p.2)))
 | [],_,_=>some ()
 | p::l,b::bs,t=>match t.get b with
  | some (.one t' x)=>match fL t' p.2 x,TX l bs t with
   | some x,some y=>some (x,y)
   | _,_=>none
  | _=>none
 | _::_,[],_=>none
def J5:(ks:List (Bool×Ty))→List A→Tr gy→Option (kc (JD ks)×List (Option Nat))
 | [],[],_=>some ((),[])
 | (true,u)::l,c::cs,t=>match Fo u t c,J5 l cs t with
  | some x,some y=>some ((x.1,y.1),x.2::y.2)
  | _,_=>none
 | (false,u)::l,c::cs,t=>match kR false u c,J5 l cs t with
  | some x,some y=>some ((x,y.1),y.2)
  | _,_=>none
 | _,_,_=>none
def Cg:(l:List ((Nat×Option Nat)×List (Bool×Ty)))→List Nat→Tr gy→Option (CB l×List (Option Nat))
 | [],_,_=>some ((),[])
 | p::l,b::bs,t=>match t.get b with
  | some (.cells cs)=>match J5 p.2 cs t,Cg l bs t with
   | some x,some y=>some ((x.1,y.1),x.2++y.2)
   | _,_=>none
  | _=>none
 | _::_,[],_=>none
def B7 (t:Tr gy) (q:Nat):Bool:=match t.get q with
 | some (.cL (.loop .ready none))=>true
 | _=>false
def LA (N:Nat) (bs da:List Nat) (iS:List (Nat×RK)) (ws:List Nat):Bool:=
 ws.all fun q=>bif Nat.beq (q%2) 0 then Nat.ble N (q / 2) || bs.any (Nat.beq (q / 2)) || da.any (Nat.beq (q / 2)) else iS.any fun p=>Nat.beq q (ic p.1)
def UE:List Nat→List Nat→Bool
 | [],[]=>true
 | a::l,b::k=>Nat.beq a b && UE l k
 | _,_=>false
theorem DP:∀{l k:List Nat},UE l k=true→l=k
 | [],[],_=>rfl
 | a::l,b::k,h=>by
  have h:(Nat.beq a b && UE l k)=true:=h
  rw [zC] at h
  rw [beq_eq h.1,DP h.2]
def CA (q:Nat):Option Nat→Bool
 | some o=>Nat.beq q o
 | none=>false
def Al (N:Nat) (da:List Nat):List (Option Nat)→Bool
 | []=>true
 | none::l=>Al N da l
 | some o::l=>(Nat.ble N o || da.any (Nat.beq o)) && !(l.any (CA o)) && Al N da l
def Bf (H:LH) (n N:Nat) (bs cs qs da Mj:List Nat) (F:Tr A) (h:Go.Bm.H) (ds:List Nat) (T:Fp):Option H.S:=
 bif LA N (bs++cs++qs) da H.iS T.ws && UE ds Mj && qs.all (B7 h.t) then (match TW n H.ni F,I3 n H.grow F h.t,TX H.boxes bs h.t,Cg H.v5 cs h.t,xj H.iS h.rg with
 | some v,some g,some b,some e,some c=>bif Al N da (g.2++e.2) then some (v,g.1,b,e.1,c) else none
 | _,_,_,_,_=>none) else none
def JF:A→Option Nat
 | .tp (.loc b) []=>some b
 | .ptr b 0=>some b
 | _=>none
def UL (F:Tr A) (p:Nat×Option Nat):Option Nat:=match p.2 with
 | none=>JF (bl F.get p.1)
 | some j=>match bl F.get p.1 with
  | .rA _ _ F' _ _ _ _=>JF (bl F'.get j)
  | _=>none
def Lh:List (Nat×Option Nat)→Tr A→Option (List Nat)
 | [],_=>some []
 | p::l,F=>match UL F p,Lh l F with
  | some b,some bs=>some (b::bs)
  | _,_=>none
def SI:List Nat→Tr A→Option (List Nat)
 | [],_=>some []
 | p::l,F=>match bl F.get p,SI l F with
  | .rA q _ _ _ _ _ _,some bs=>some (q::bs)
  | _,_=>none
def Lf:List (Nat×Ty)→Tr A→List Nat
 | [],_=>[]
 | p::l,F=>match bl F.get p.1 with
  | .tw (.loc o) _=>o::Lf l F
  | _=>Lf l F
def Ld:List A→List Nat
 | []=>[]
 | .tw (.loc o) _::l=>o::Ld l
 | _::l=>Ld l
def Lg (t:Tr gy):List Nat→List Nat
 | []=>[]
 | b::l=>match t.get b with
  | some (.cells cs)=>Ld cs++Lg t l
  | _=>Lg t l
structure E4 where
 bs:List Nat
 cs:List Nat
 qs:List Nat
 da:List Nat
def G6 (H:LH) (F:Tr A) (h:Go.Bm.H):Option E4:=match Lh (H.boxes.map (·.1)) F,Lh (H.v5.map (·.1)) F,SI H.loops F with
 | some bs,some cs,some qs=>some ⟨bs,cs,qs,Lf H.grow F++Lg h.t cs⟩
 | _,_,_=>none
def yK (H:LH) (E:E4) (ds:List Nat) (F:Tr A) (h:Go.Bm.H):Bool:=
 sf (tu h.aR 6) F && sf (I8 h.aR) h.t && Nat.ble (h.aR+H.m) 16777216 && (E.bs++E.cs).all (fun b=>Nat.blt b h.aR) && E.da.all (fun b=>Nat.blt b h.aR) && ds.all (fun b=>Nat.blt b h.aR) && (E.bs++E.cs).all (fun b=>!(E.da.any (Nat.beq b))) && E.qs.all (fun q=>B7 h.t q && !((E.da++(E.bs++E.cs)).any (Nat.beq q))) && H.iS.all fun p=>Option.isSome (bw h.rg p.1)
def jT (H:LH) (N:Nat) (E:E4):Fp:=⟨true,[],true,((E.bs++E.cs).map du++E.da.map du)++((List.range H.m).map (fun k=>du (N+k))++H.iS.map fun p=>ic p.1)⟩
variable {r:β}
theorem nU {F F':Tr A} {d:Nat} {p:A} (e:F'.get=fun m=>if m=d then some p else F.get m) (i:Nat):bl F'.get i=if i=d then p else bl F.get i:=by
 unfold bl
 rw [e]
 by_cases h:i=d
 ·simp [h]
 ·simp [h]
theorem sA:∀(l:List Nat) (F:Tr A) (k:Tr A→Option β),CU l F k=some r→∃F',k F'=some r∧∀aZ:Nat→A→Prop,(∀i∈l,aZ i .cF)→(∀i,i∉l→aZ i (bl F.get i))→∀i,aZ i (bl F'.get i)
 | [],F,k,h=>⟨F,h,fun aZ _ h2 i=>h2 i (by simp)⟩
 | d::l,F,k,h=>by
  obtain ⟨_,F1,k1,k2⟩:=bu h
  obtain ⟨F',q1,q2⟩:=sA l F1 k k1
  refine ⟨F',q1,fun aZ h1 h2=>q2 aZ (fun i hi=>h1 i (.tail _ hi)) (fun i hi=>?_)⟩
  rw [nU k2]
  by_cases hd:i=d
  ·rw [if_pos hd];exact h1 i (by rw [hd];exact .head _)
  ·rw [if_neg hd];exact h2 i (by simp [hd,hi])
def Ej (aZ:Nat→A→Prop):(l:List (Nat×Bool×Ty))→kc (l.map (·.2))→Prop
 | [],_=>True
 | p::l,x=>aZ p.1 (bZ p.2.1 p.2.2 x.1)∧Ej aZ l x.2
def Ei (aZ:Nat→A→Prop):List (Nat×Ty)→Nat→Prop
 | [],_=>True
 | p::l,i=>aZ p.1 (.tw (.loc i) p.2.size)∧Ei aZ l (i+1)
def Eo (aZ:Nat→Option Ob→Prop):(l:List ((Nat×Option Nat)×Ty))→List Nat→kc (l.map fun p=>(false,p.2))→Prop
 | [],_,_=>True
 | p::l,b::bs,x=>aZ b (some (.cells (aA p.2 x.1)))∧Eo aZ l bs x.2
 | _::_,[],_=>True
def Ek (aZ:Nat→Option Ob→Prop):(l:List (Nat×Ty))→Nat→kc (l.map fun p=>(false,Ty.aK p.2))→Prop
 | [],_,_=>True
 | p::l,i,x=>aZ i (some (.cells (List.flatMap (α:=p.2.T) (aA p.2) x.1)))∧Ek aZ l (i+1) x.2
def A7 (aZ:Nat→Option Ob→Prop):(ks:List (Bool×Ty))→kc (JD ks)→Nat→Prop
 | [],_,_=>True
 | (true,u)::l,x,i=>aZ i (some (.cells (List.flatMap (α:=u.T) (aA u) x.1)))∧A7 aZ l x.2 (i+1)
 | (false,_)::l,x,i=>A7 aZ l x.2 i
def Em (aZ:Nat→Option Ob→Prop):(l:List ((Nat×Option Nat)×List (Bool×Ty)))→List Nat→Nat→CB l→Prop
 | [],_,_,_=>True
 | p::l,b::bs,i,x=>aZ b (some (.cells (LB p.2 x.1 i)))∧A7 aZ p.2 x.1 i∧Em aZ l bs (i+nx p.2) x.2
 | _::_,[],_,_=>True
theorem yt:∀(l:List (Nat×Bool×Ty)) (x:kc (l.map (·.2))) (F:Tr A) (k:Tr A→Option β),Ug l x F k=some r→∃F',k F'=some r∧∀aZ:Nat→A→Prop,Ej aZ l x→(∀i,aZ i (bl F.get i))→∀i,aZ i (bl F'.get i)
 | [],_,F,k,h=>⟨F,h,fun aZ _ h2=>h2⟩
 | p::l,x,F,k,h=>by
  unfold Ug at h
  rw [xq] at h
  obtain ⟨_,F1,k1,k2⟩:=bu h
  obtain ⟨F',q1,q2⟩:=yt l x.2 F1 k k1
  refine ⟨F',q1,fun aZ h1 h2=>q2 aZ h1.2 (fun i=>?_)⟩
  rw [nU k2]
  by_cases hd:i=p.1
  ·rw [if_pos hd,hd];exact h1.1
  ·rw [if_neg hd];exact h2 i
theorem yr:∀(l:List (Nat×Ty)) (j:Nat) (F:Tr A) (k:Tr A→Option β),V_ l j F k=some r→∃F',k F'=some r∧∀aZ:Nat→A→Prop,Ei aZ l j→(∀i,aZ i (bl F.get i))→∀i,aZ i (bl F'.get i)
 | [],_,F,k,h=>⟨F,h,fun aZ _ h2=>h2⟩
 | p::l,j,F,k,h=>by
  obtain ⟨_,F1,k1,k2⟩:=bu h
  obtain ⟨F',q1,q2⟩:=yr l (j+1) F1 k k1
  refine ⟨F',q1,fun aZ h1 h2=>q2 aZ h1.2 (fun i=>?_)⟩
  rw [nU k2]
  by_cases hd:i=p.1
  ·rw [if_pos hd,hd];exact h1.1
  ·rw [if_neg hd];exact h2 i
theorem xO {t t':Tr gy} {d:Nat} {x:Option gy} (e:t'.get=fun m=>if m=d then x else t.get m) (i:Nat):fH t' i=if i=d then x.map gy.low else fH t i:=by
 unfold fH
 rw [e]
 by_cases h:i=d
 ·simp only [if_pos h];cases x<;>rfl
 ·simp only [if_neg h]
theorem sJ:∀(l:List Nat) (t:Tr gy) (k:Tr gy→Option β),DX l t k=some r→∃t',k t'=some r∧∀aZ:Nat→Option Ob→Prop,(∀i∈l,aZ i none)→(∀i,i∉l→aZ i (fH t i))→∀i,aZ i (fH t' i)
 | [],t,k,h=>⟨t,h,fun aZ _ h2 i=>h2 i (by simp)⟩
 | d::l,t,k,h=>by
  obtain ⟨_,t1,k1,k2⟩:=bu h
  obtain ⟨t',q1,q2⟩:=sJ l t1 k k1
  refine ⟨t',q1,fun aZ h1 h2=>q2 aZ (fun i hi=>h1 i (.tail _ hi)) (fun i hi=>?_)⟩
  rw [xO k2]
  by_cases hd:i=d
  ·rw [if_pos hd];exact h1 i (by rw [hd];exact .head _)
  ·rw [if_neg hd];exact h2 i (by simp [hd,hi])
theorem FA {t t1:Tr gy} {d:Nat} {x:gy} {aZ:Nat→Option Ob→Prop} (e:t1.get=fun m=>if m=d then some x else t.get m) (h1:aZ d (some x.low)) (h2:∀i,aZ i (fH t i)) (i:Nat):aZ i (fH t1 i):=by
 rw [xO e]
 by_cases hd:i=d
 ·rw [if_pos hd,hd];exact h1
 ·rw [if_neg hd];exact h2 i
theorem yw:∀(l:List ((Nat×Option Nat)×Ty)) (bs:List Nat) (x:kc (l.map fun p=>(false,p.2))) (t:Tr gy) (k:Tr gy→Option β),Wc l bs x t k=some r→∃t',k t'=some r∧∀aZ:Nat→Option Ob→Prop,Eo aZ l bs x→(∀i,aZ i (fH t i))→∀i,aZ i (fH t' i)
 | [],_,_,t,k,h=>⟨t,h,fun aZ _ h2=>h2⟩
 | p::l,b::bs,x,t,k,h=>by
  obtain ⟨_,t1,k1,k2⟩:=bu h
  obtain ⟨t',q1,q2⟩:=yw l bs x.2 t1 k k1
  exact ⟨t',q1,fun aZ h1 h2=>q2 aZ h1.2 (FA k2 h1.1 h2)⟩
 | _::_,[],_,_,_,h=>by cases h
theorem yu:∀(l:List (Nat×Ty)) (j:Nat) (x:kc (l.map fun p=>(false,Ty.aK p.2))) (t:Tr gy) (k:Tr gy→Option β),Wa l j x t k=some r→∃t',k t'=some r∧∀aZ:Nat→Option Ob→Prop,Ek aZ l j x→(∀i,aZ i (fH t i))→∀i,aZ i (fH t' i)
 | [],_,_,t,k,h=>⟨t,h,fun aZ _ h2=>h2⟩
 | p::l,j,x,t,k,h=>by
  obtain ⟨_,t1,k1,k2⟩:=bu h
  obtain ⟨t',q1,q2⟩:=yu l (j+1) x.2 t1 k k1
  exact ⟨t',q1,fun aZ h1 h2=>q2 aZ h1.2 (FA k2 h1.1 h2)⟩
theorem tL:∀(ks:List (Bool×Ty)) (x:kc (JD ks)) (j:Nat) (t:Tr gy) (k:Tr gy→Option β),Uh ks x j t k=some r→∃t',k t'=some r∧∀aZ:Nat→Option Ob→Prop,A7 aZ ks x j→(∀i,aZ i (fH t i))→∀i,aZ i (fH t' i)
 | [],_,_,t,k,h=>⟨t,h,fun aZ _ h2=>h2⟩
 | (true,u)::l,x,j,t,k,h=>by
  obtain ⟨_,t1,k1,k2⟩:=bu h
  obtain ⟨t',q1,q2⟩:=tL l x.2 (j+1) t1 k k1
  exact ⟨t',q1,fun aZ h1 h2=>q2 aZ h1.2 (FA k2 h1.1 h2)⟩
 | (false,_)::l,x,j,t,k,h=>tL l x.2 j t k h
theorem yv:∀(l:List ((Nat×Option Nat)×List (Bool×Ty))) (bs:List Nat) (j:Nat) (x:CB l) (t:Tr gy) (k:Tr gy→Option β),Wb l bs j x t k=some r→∃t',k t'=some r∧∀aZ:Nat→Option Ob→Prop,Em aZ l bs j x→(∀i,aZ i (fH t i))→∀i,aZ i (fH t' i)
 | [],_,_,_,t,k,h=>⟨t,h,fun aZ _ h2=>h2⟩
 | p::l,b::bs,j,x,t,k,h=>by
  obtain ⟨_,t1,k1,k2⟩:=bu h
  obtain ⟨t2,k3,k4⟩:=tL p.2 x.1 j t1 _ k1
  obtain ⟨t',q1,q2⟩:=yv l bs _ x.2 t2 k k3
  exact ⟨t',q1,fun aZ h1 h2=>q2 aZ h1.2.2 (k4 aZ h1.2.1 (FA k2 h1.1 h2))⟩
 | _::_,[],_,_,_,_,h=>by cases h
structure oJ (H:LH) (lg:List Nat) (E:E4) (Fe:Tr A) (he:Go.Bm.H) (s:H.S) (Fc:Tr A) (hc:Go.Bm.H):Prop where
 F:∀aZ:Nat→A→Prop,(∀i∈lg,aZ i .cF)→(∀i,i∉lg→aZ i (bl Fe.get i))→Ej aZ H.ni s.1→Ei aZ H.grow he.aR→∀i,aZ i (bl Fc.get i)
 t:∀aZ:Nat→Option Ob→Prop,(∀i∈E.da++(E.bs++E.cs),aZ i none)→(∀i,i∉E.da++(E.bs++E.cs)→aZ i (fH he.t i))→Eo aZ H.boxes E.bs s.2.2.1→Em aZ H.v5 E.cs (he.aR+H.grow.length) s.2.2.2.1→Ek aZ H.grow he.aR s.2.1→∀i,aZ i (fH hc.t i)
 aR:hc.aR=he.aR+H.m
 rg:hc.rg=kg H.iS s.2.2.2.2 he.rg
theorem vu {H:LH} {lg:List Nat} {E:E4} {Fe:Tr A} {he:Go.Bm.H} {s:H.S} {k:Tr A→Go.Bm.H→Option β} (h:Ax H lg E.bs E.cs E.da Fe he s k=some r):∃Fc hc,k Fc hc=some r∧oJ H lg E Fe he s Fc hc:=by
 obtain ⟨F1,k1,f1⟩:=sA _ _ _ h
 obtain ⟨F2,k2,f2⟩:=yt _ _ _ _ k1
 obtain ⟨F3,k3,f3⟩:=yr _ _ _ _ k2
 obtain ⟨t1,k4,e1⟩:=sJ _ _ _ k3
 obtain ⟨t2,k5,e2⟩:=yw _ _ _ _ _ k4
 obtain ⟨t3,k6,e3⟩:=yv _ _ _ _ _ _ k5
 obtain ⟨t4,k7,e4⟩:=yu _ _ _ _ _ k6
 exact ⟨F3,_,k7,fun aZ a b c d=>f3 aZ d (f2 aZ c (f1 aZ a b)),fun aZ a b c d e=>e4 aZ e (e3 aZ d (e2 aZ c (e1 aZ a b))),rfl,rfl⟩
end
end
section
open Go.RowKit
theorem any_beq {l:List Nat} {i:Nat}:l.any (Nat.beq i)=true↔i∈l:=by
 rw [List.any_eq_true]
 exact ⟨fun ⟨x,h1,h2⟩=>by rw [beq_eq h2];exact h1,fun h=>⟨i,h,Nat.beq_refl i⟩⟩
theorem vZ {N:Nat} {bs da:List Nat} {iS:List (Nat×RK)} {T:Fp} (h:LA N bs da iS T.ws=true) {i:Nat} (hl:i<cG) (h1:i<N) (h2:i∉da++bs):wt T i=false:=by
 cases hx:wt T i with
 | false=>rfl
 | true=>
  unfold wt at hx
  rw [zC] at hx
  obtain ⟨q,q1,q2⟩:=List.any_eq_true.1 hx.2
  obtain rfl:=beq_eq q2
  have:=List.all_eq_true.1 h _ q1
  rw [mI hl] at this
  unfold du at this
  rw [show Nat.beq (2*i%2) 0=true by rw [show 2*i%2=0 by omega];rfl,show 2*i / 2=i by omega] at this
  simp only [cond_true,Bool.or_eq_true] at this
  rcases this with (this | this) | this
  ·have:=Nat.le_of_ble_eq_true this;omega
  ·exact absurd (zS _ (any_beq.1 this)) h2
  ·exact absurd (zQ _ (any_beq.1 this)) h2
theorem vY {N:Nat} {bs da:List Nat} {iS:List (Nat×RK)} {T:Fp} (h:LA N bs da iS T.ws=true) {i:Nat} (hl:¬i<cG) (h1:di iS (lU i)=false):wt T i=false:=by
 cases hx:wt T i with
 | false=>rfl
 | true=>
  unfold wt at hx
  rw [zC] at hx
  obtain ⟨q,q1,q2⟩:=List.any_eq_true.1 hx.2
  obtain rfl:=beq_eq q2
  have:=List.all_eq_true.1 h _ q1
  rw [oX hl] at this
  unfold ic at this
  rw [show Nat.beq ((2*lU i+1)%2) 0=false by rw [show (2*lU i+1)%2=1 by omega];rfl] at this
  simp only [cond_false] at this
  obtain ⟨p,p1,p2⟩:=List.any_eq_true.1 this
  have e:p.1=lU i:=by have:=beq_eq p2;unfold ic at this;omega
  rw [show di iS (lU i)=true from List.any_eq_true.2 ⟨p,p1,by rw [e];exact Nat.beq_refl _⟩] at h1
  cases h1
theorem Ce {n:Nat} {F:Tr A} {aZ:Nat→A→Prop} (hg:∀i a t x,i<n→kR a t (bl F.get i)=some x→aZ i (bZ a t x)):∀(l:List (Nat×Bool×Ty)) (x:kc (l.map (·.2))),TW n l F=some x→Ej aZ l x
 | [],_,_=>trivial
 | p::l,x,h=>by
  unfold TW at h
  obtain ⟨hn,h⟩:=ah h
  split at h
  ·rename_i y z h1 h2
   cases h
   exact ⟨hg _ _ _ _ (bb hn) h1,Ce hg l z h2⟩
  ·cases h
def Eu (t:Ty) (tt:Tr gy) (l:List t.T):Option Nat→Prop
 | some o=>o<cG∧fH tt o=some (.cells (l.flatMap (aA t)))
 | none=>l=[]
def wh (z:Nat) (a:A):Option Nat→Prop
 | some o=>a = .tw (.loc o) z
 | none=>∀g v,V g a v→∃ad,v = .slice ad 0 0
theorem sX {t:Ty} {tt:Tr gy} {a:A} {l:List t.T} {nm:Option Nat} (h:Fo t tt a=some (l,nm)):Eu t tt l nm∧wh t.size a nm:=by
 unfold Fo at h
 split at h
 ·rename_i o z
  split at h
  ·rename_i t' l' h1
   obtain ⟨h2,h⟩:=ah h
   rw [zC] at h2
   split at h
   ·rename_i l1 hl1
    obtain ⟨e,e2⟩:=cp hl1
    cases e
    cases e2
    simp only [zI,zU] at h
    obtain ⟨rfl,rfl⟩:=h
    refine ⟨⟨bb h2.2,?_⟩,by rw [beq_eq h2.1];rfl⟩
    unfold fH
    rw [h1];rfl
   ·cases h
  ·cases h
 ·simp only [zI,zU] at h
  obtain ⟨rfl,rfl⟩:=h
  exact ⟨rfl,fun g v hv=>by cases hv;exact ⟨_,rfl⟩⟩
 ·simp only [zI,zU] at h
  obtain ⟨rfl,rfl⟩:=h
  exact ⟨rfl,fun g v hv=>by cases hv;exact ⟨_,rfl⟩⟩
 ·cases h
theorem Cf {n:Nat} {F:Tr A} {tt:Tr gy}:∀(l:List (Nat×Ty)) (x:kc (l.map fun p=>(false,Ty.aK p.2))) (names:List (Option Nat)),I3 n l F tt=some (x,names)→names.length=l.length ∧
  ∀(aZ:Nat→A→Prop) (ov:Nat→Option Ob→Prop) (j:Nat),
   (∀(k:Nat) (nm:Option Nat) (i z:Nat),names[k]?=some nm→i<n→wh z (bl F.get i) nm→aZ i (.tw (.loc (j+k)) z)) →
   (∀(k:Nat) (nm:Option Nat) (t:Ty) (l:List t.T),names[k]?=some nm→Eu t tt l nm→ov (j+k) (some (.cells (l.flatMap (aA t)))))→Ei aZ l j∧Ek ov l j x
 | [],x,names,h=>by
  simp only [I3,zI,zU] at h
  obtain ⟨_,rfl⟩:=h
  exact ⟨rfl,fun _ _ _ _ _=>⟨trivial,trivial⟩⟩
 | p::l,x,names,h=>by
  unfold I3 at h
  obtain ⟨hn,h⟩:=ah h
  split at h
  ·rename_i y z h1 h2
   simp only [zI,zU] at h
   obtain ⟨rfl,rfl⟩:=h
   obtain ⟨q1,q2⟩:=Cf l z.1 z.2 h2
   obtain ⟨r1,r2⟩:=sX (l:=y.1) (nm:=y.2) h1
   refine ⟨by simp [q1],fun aZ ov j k1 k2=>?_⟩
   obtain ⟨u1,u2⟩:=q2 aZ ov (j+1) (fun k nm i z e=>by have:=k1 (k+1) nm i z (by simpa using e);rwa [show j+(k+1)=j+1+k by omega] at this) (fun k nm t l e=>by have:=k2 (k+1) nm t l (by simpa using e);rwa [show j+(k+1)=j+1+k by omega] at this)
   exact ⟨⟨k1 0 y.2 p.1 p.2.size rfl (bb hn) r2,u1⟩,⟨k2 0 y.2 p.2 y.1 rfl r1,u2⟩⟩
  ·cases h
theorem B3 {n:Nat} {F:Tr A} {tt:Tr gy}:∀{l:List (Nat×Ty)} {x:kc (l.map fun p=>(false,Ty.aK p.2))} {names:List (Option Nat)},I3 n l F tt=some (x,names)→∀(k o:Nat),names[k]?=some (some o)→o<cG
 | [],x,names,h,k,o,e=>by
  simp only [I3,zI,zU] at h
  obtain ⟨_,rfl⟩:=h
  simp at e
 | p::l,x,names,h,k,o,e=>by
  unfold I3 at h
  obtain ⟨hn,h⟩:=ah h
  split at h
  ·rename_i y z h1 h2
   simp only [zI,zU] at h
   obtain ⟨rfl,rfl⟩:=h
   cases k with
   | zero=>
    have e:y.2=some o:=by simpa using e
    have:=(sX (l:=y.1) (nm:=y.2) h1).1
    rw [e] at this
    exact this.1
   | succ k=>exact B3 (x:=z.1) (names:=z.2) h2 k o (by simpa using e)
  ·cases h
theorem Ch {tt:Tr gy} {aZ:Nat→Option Ob→Prop}:∀(l:List ((Nat×Option Nat)×Ty)) (bs:List Nat) (x:kc (l.map fun p=>(false,p.2))),(∀b t (y:t.T),b∈bs→fH tt b=some (.cells (aA t y))→aZ b (some (.cells (aA t y))))→TX l bs tt=some x→Eo aZ l bs x
 | [],_,_,_,_=>trivial
 | p::l,b::bs,x,hg,h=>by
  unfold TX at h
  split at h
  ·rename_i t' y h1
   split at h
   ·rename_i y' z h2 h3
    cases h
    obtain ⟨e,e2⟩:=cp h2
    obtain ⟨p1,p2⟩:=p
    simp only at e
    subst e
    cases e2
    exact ⟨hg b t' y (.head _) (by unfold fH;rw [h1];rfl),Ch l bs z (fun b t y hb=>hg b t y (.tail _ hb)) h3⟩
   ·cases h
  ·cases h
 | _::_,[],_,_,h=>by cases h
theorem Vs.BA {g:G} {c:A} {cs:List A} {vs:List Value} (h:Vs g (c::cs) vs):∃v us,vs=v::us∧V g c v∧v.oneCell'=true∧Vs g cs us:=by
 match vs,h with
 | [],h=>exact absurd h.1 (by simp)
 | v::us,h=>
  have h0:=h.2 0 c v rfl rfl
  exact ⟨v,us,rfl,h0.1,h0.2,by simpa using h.1,fun j c x e1 e2=>h.2 (j+1) c x (by simpa using e1) (by simpa using e2)⟩
theorem wO {tt:Tr gy}:∀(ks:List (Bool×Ty)) (cs:List A) (x:kc (JD ks)) (names:List (Option Nat)),J5 ks cs tt=some (x,names)→names.length=nx ks∧(∀(k o:Nat),names[k]?=some (some o)→o<cG)∧∀j,(LB ks x j).length=cs.length ∧
  (∀(ov:Nat→Option Ob→Prop),(∀(k:Nat) (nm:Option Nat) (t:Ty) (l:List t.T),names[k]?=some nm→Eu t tt l nm→ov (j+k) (some (.cells (l.flatMap (aA t)))))→A7 ov ks x j) ∧
  ∀(N:Nat) (g g':G),xJ N g g'→(∀(k:Nat) (nm:Option Nat) (z:Nat) (c:A),names[k]?=some nm→wh z c nm→∀v,V g c v→V g' (.tw (.loc (j+k)) z) v)→∀vs,Vs g cs vs→Vs g' (LB ks x j) vs
 | [],[],x,names,h=>by
  simp only [J5,zI,zU] at h
  obtain ⟨_,rfl⟩:=h
  exact ⟨rfl,fun k o e=>by simp at e,fun j=>⟨rfl,fun _ _=>trivial,fun N g g' _ _ vs hv=>⟨hv.1,fun j c x e=>by simp [LB] at e⟩⟩⟩
 | (true,u)::l,c::cs,x,names,h=>by
  unfold J5 at h
  split at h
  ·rename_i y z h1 h2
   simp only [zI,zU] at h
   obtain ⟨rfl,rfl⟩:=h
   obtain ⟨q1,P8,q2⟩:=wO l cs z.1 z.2 h2
   obtain ⟨r1,r2⟩:=sX (l:=y.1) (nm:=y.2) h1
   refine ⟨by simp [q1,nx],fun k o e=>?_,fun j=>?_⟩
   ·cases k with
    | zero=>
     have e:y.2=some o:=by simpa using e
     rw [e] at r1
     exact r1.1
    | succ k=>exact P8 k o (by simpa using e)
   ·obtain ⟨u1,u2,u3⟩:=q2 (j+1)
    refine ⟨congrArg Nat.succ u1,fun ov k2=>⟨k2 0 y.2 u y.1 rfl r1,u2 ov (fun k nm t l e=>by have:=k2 (k+1) nm t l (by simpa using e);rwa [show j+(k+1)=j+1+k by omega] at this)⟩,fun N g g' hs hk vs hv=>?_⟩
    obtain ⟨v,us,rfl,v1,v2,v3⟩:=hv.BA
    exact .cons (hk 0 y.2 u.size c rfl r2 v v1) v2 (u3 N g g' hs (fun k nm z c e=>by have:=hk (k+1) nm z c (by simpa using e);rwa [show j+(k+1)=j+1+k by omega] at this) us v3)
  ·cases h
 | (false,u)::l,c::cs,x,names,h=>by
  unfold J5 at h
  split at h
  ·rename_i y z h1 h2
   simp only [zI,zU] at h
   obtain ⟨rfl,rfl⟩:=h
   obtain ⟨q1,P8,q2⟩:=wO l cs z.1 z.2 h2
   refine ⟨by simp [q1,nx],P8,fun j=>?_⟩
   obtain ⟨u1,u2,u3⟩:=q2 j
   refine ⟨congrArg Nat.succ u1,u2,fun N g g' hs hk vs hv=>?_⟩
   obtain ⟨v,us,rfl,v1,v2,v3⟩:=hv.BA
   exact .cons (n9 false u y g g' v hs (jY h1 v1)) v2 (u3 N g g' hs hk us v3)
  ·cases h
 | [],_::_,_,_,h=>by cases h
 | (true,_)::_,[],_,_,h=>by cases h
 | (false,_)::_,[],_,_,h=>by cases h
theorem xZ {tt:Tr gy}:∀(l:List ((Nat×Option Nat)×List (Bool×Ty))) (bs:List Nat) (x:CB l) (names:List (Option Nat)),Cg l bs tt=some (x,names)→names.length=pE l∧(∀(k o:Nat),names[k]?=some (some o)→o<cG) ∧
  ∀(N:Nat) (g g':G) (j:Nat) (aZ:Nat→Option Ob→Prop),xJ N g g' →
   (∀(k:Nat) (nm:Option Nat) (z:Nat) (c:A),names[k]?=some nm→wh z c nm→∀v,V g c v→V g' (.tw (.loc (j+k)) z) v) →
   (∀(k:Nat) (nm:Option Nat) (t:Ty) (l:List t.T),names[k]?=some nm→Eu t tt l nm→aZ (j+k) (some (.cells (l.flatMap (aA t))))) →
   (∀b cs hZ,b∈bs→fH tt b=some (.cells cs)→hZ.length=cs.length→(∀vs,Vs g cs vs→Vs g' hZ vs)→aZ b (some (.cells hZ)))→Em aZ l bs j x
 | [],_,x,names,h=>by
  simp only [Cg,zI,zU] at h
  obtain ⟨_,rfl⟩:=h
  exact ⟨rfl,fun k o e=>by simp at e,fun _ _ _ _ _ _ _ _ _=>trivial⟩
 | p::l,b::bs,x,names,h=>by
  unfold Cg at h
  split at h
  ·rename_i cs Jq
   split at h
   ·rename_i y z h1 h2
    simp only [zI,zU] at h
    obtain ⟨rfl,rfl⟩:=h
    obtain ⟨q1,P8,q2⟩:=wO p.2 cs y.1 y.2 h1
    obtain ⟨r1,r1',r2⟩:=xZ l bs z.1 z.2 h2
    have ap:∀(k:Nat) (nm:Option Nat),y.2[k]?=some nm→(y.2++z.2)[k]?=some nm:=fun k nm e=>by rw [zK (zB.1 e).1];exact e
    have aq:∀(k:Nat) (nm:Option Nat),z.2[k]?=some nm→(y.2++z.2)[nx p.2+k]?=some nm:=fun k nm e=>by rw [zJ (by omega),q1,Nat.add_sub_cancel_left];exact e
    refine ⟨by simp [q1,r1,pE],fun k o e=>?_,fun N g g' j aZ hs hk hr hb=>?_⟩
    ·by_cases hk:k<y.2.length
     ·rw [zK hk] at e;exact P8 k o e
     ·rw [zJ (by omega)] at e;exact r1' _ o e
    ·obtain ⟨u1,u2,u3⟩:=q2 j
     refine ⟨hb b cs _ (.head _) (by unfold fH;rw [Jq];rfl) u1 (u3 N g g' hs (fun k nm zz c e=>hk k nm zz c (ap k nm e))),u2 aZ (fun k nm t l e=>hr k nm t l (ap k nm e)),?_⟩
     exact r2 N g g' (j+nx p.2) aZ hs (fun k nm zz c e=>by have:=hk (nx p.2+k) nm zz c (aq k nm e);rwa [←Nat.add_assoc] at this) (fun k nm t l e=>by have:=hr (nx p.2+k) nm t l (aq k nm e);rwa [←Nat.add_assoc] at this) (fun b cs hZ hm=>hb b cs hZ (.tail _ hm))
   ·cases h
  ·cases h
 | _::_,[],_,_,h=>by cases h
theorem tx {N:Nat} {da:List Nat}:∀{names:List (Option Nat)},Al N da names=true→(∀(k o:Nat),names[k]?=some (some o)→N≤o∨o∈da)∧∀(k k' o:Nat),names[k]?=some (some o)→names[k']?=some (some o)→k=k'
 | [],_=>⟨fun k o h=>by simp at h,fun k k' o h=>by simp at h⟩
 | none::l,h=>by
  obtain ⟨h1,h2⟩:=tx (show Al N da l=true from h)
  refine ⟨fun k o e=>?_,fun k k' o e e'=>?_⟩
  ·cases k with
   | zero=>cases e
   | succ k=>exact h1 k o (by simpa using e)
  ·cases k with
   | zero=>cases e
   | succ k=>
    cases k' with
    | zero=>cases e'
    | succ k'=>rw [h2 k k' o (by simpa using e) (by simpa using e')]
 | some q::l,h=>by
  have h:((Nat.ble N q || da.any (Nat.beq q)) && !(l.any (CA q)) && Al N da l)=true:=h
  simp only [zC,Bool.or_eq_true,Bool.not_eq_true'] at h
  obtain ⟨⟨ha,hb⟩,hc⟩:=h
  obtain ⟨h1,h2⟩:=tx hc
  have far:∀k,l[k]?=some (some q)→False:=fun k e=>by
   have:l.any (CA q)=true:=List.any_eq_true.2 ⟨some q,zG e,Nat.beq_refl q⟩
   rw [hb] at this;cases this
  refine ⟨fun k o e=>?_,fun k k' o e e'=>?_⟩
  ·cases k with
   | zero=>
    simp only [List.getElem?_cons_zero,zI] at e
    subst e
    exact ha.imp Nat.le_of_ble_eq_true any_beq.1
   | succ k=>exact h1 k o (by simpa using e)
  ·cases k with
   | zero=>
    simp only [List.getElem?_cons_zero,zI] at e
    subst e
    cases k' with
    | zero=>rfl
    | succ k'=>exact (far k' (by simpa using e')).elim
   | succ k=>
    cases k' with
    | zero=>
     simp only [List.getElem?_cons_zero,zI] at e'
     subst e'
     exact (far k (by simpa using e)).elim
    | succ k'=>rw [h2 k k' o (by simpa using e) (by simpa using e')]
structure rz (H:LH) (E:E4) (ds:List Nat) (F:Tr A) (h:Go.Bm.H):Prop where
 slot:∀i,VP h.aR (bl F.get i)
 mem:∀i x,fH h.t i=some x→EL h.aR x
 top:h.aR+H.m≤cG
 bsl:∀b∈E.bs++E.cs,b<h.aR
 del:∀b∈E.da,b<h.aR
 dsl:∀b∈ds,b<h.aR
 apart:∀b∈E.bs++E.cs,b∉E.da
 loop:∀q∈E.qs,B7 h.t q=true∧q∉E.da++(E.bs++E.cs)
 iS:∀r,di H.iS r=true→∃x,bw h.rg r=some x
theorem vT {H:LH} {E:E4} {ds:List Nat} {F:Tr A} {h:Go.Bm.H} (k:yK H E ds F h=true):rz H E ds F h:=by
 unfold yK at k
 rw [zC,zC,zC,zC,zC,zC,zC,zC] at k
 obtain ⟨⟨⟨⟨⟨⟨⟨⟨k1,k2⟩,k3⟩,k4⟩,k5⟩,k6⟩,k7⟩,k9⟩,k8⟩:=k
 rw [List.all_eq_true] at k4 k5 k6 k7 k8 k9
 refine ⟨BN k1,fun i x e=>?_,Nat.le_of_ble_eq_true k3,fun b hb=>bb (k4 b hb),fun b hb=>bb (k5 b hb),fun b hb=>bb (k6 b hb),fun b hb hd=>?_,fun q hq=>?_,fun r hr=>?_⟩
 ·unfold fH at e
  split at e
  ·rename_i m hm
   cases e
   exact FX (mG k2 i m hm)
  ·cases e
 ·have:=k7 b hb
  rw [any_beq.2 hd] at this;cases this
 ·have:=k9 q hq
  rw [zC] at this
  refine ⟨this.1,fun hm=>?_⟩
  have h2:=this.2
  rw [any_beq.2 hm] at h2;cases h2
 ·obtain ⟨p,p1,p2⟩:=List.any_eq_true.1 hr
  have:=k8 p p1
  rw [beq_eq p2] at this
  exact Option.isSome_iff_exists.1 this
theorem xX {t:Tr gy} {q:Nat} (h:B7 t q=true):fH t q=some (.cL (.loop .ready none)):=by
 unfold B7 at h
 split at h
 ·rename_i hq;unfold fH;rw [hq];rfl
 ·cases h
section
variable {H:LH} {lg Mj:List Nat} {E:E4} {Fe:Tr A} {he:Go.Bm.H} {s:H.S} {Fc:Tr A} {hc:Go.Bm.H}
theorem uo {aZ:Nat→Option Ob→Prop}:∀(l:List ((Nat×Option Nat)×Ty)) (bs:List Nat) (x:kc (l.map fun p=>(false,p.2))),(∀b∈bs,∀ob,aZ b ob)→Eo aZ l bs x
 | [],_,_,_=>trivial
 | _::_,[],_,_=>trivial
 | p::l,b::bs,x,h=>⟨h b (.head _) _,uo l bs x.2 (fun b hb=>h b (.tail _ hb))⟩
theorem uk {aZ:Nat→Option Ob→Prop} {m:Nat}:∀(l:List (Nat×Ty)) (j:Nat) (x:kc (l.map fun p=>(false,Ty.aK p.2))),j+l.length≤m→(∀i,j≤i→i<m→∀ob,aZ i ob)→Ek aZ l j x
 | [],_,_,_,_=>trivial
 | p::l,j,x,hm,h=>by
  have hm:j+(l.length+1)≤m:=hm
  exact ⟨h j (Nat.le_refl _) (by omega) _,uk l (j+1) x.2 (by omega) (fun i h1 h2=>h i (by omega) h2)⟩
theorem uj {aZ:Nat→Option Ob→Prop} {m:Nat}:∀(ks:List (Bool×Ty)) (x:kc (JD ks)) (j:Nat),j+nx ks≤m→(∀i,j≤i→i<m→∀ob,aZ i ob)→A7 aZ ks x j
 | [],_,_,_,_=>trivial
 | (true,_)::l,x,j,hm,h=>by
  have hm:j+(nx l+1)≤m:=hm
  exact ⟨h j (Nat.le_refl _) (by omega) _,uj l x.2 (j+1) (by omega) (fun i h1 h2=>h i (by omega) h2)⟩
 | (false,_)::l,x,j,hm,h=>uj l x.2 j hm h
theorem um {aZ:Nat→Option Ob→Prop} {m:Nat}:∀(l:List ((Nat×Option Nat)×List (Bool×Ty))) (bs:List Nat) (j:Nat) (x:CB l),j+pE l≤m→(∀b∈bs,∀ob,aZ b ob)→(∀i,j≤i→i<m→∀ob,aZ i ob)→Em aZ l bs j x
 | [],_,_,_,_,_,_=>trivial
 | _::_,[],_,_,_,_,_=>trivial
 | p::l,b::bs,j,x,hm,hb,h=>by
  have hm:j+(nx p.2+pE l)≤m:=hm
  exact ⟨hb b (.head _) _,uj p.2 x.1 j (by omega) h,um l bs _ x.2 (by omega) (fun b Jt=>hb b (.tail _ Jt)) (fun i h1 h2=>h i (by omega) h2)⟩
theorem qN (EO:rz H E Mj Fe he) (J:oJ H lg E Fe he s Fc hc):(∀i,i<he.aR→i∉E.da++(E.bs++E.cs)→(hp hc).ob i=(hp he).ob i) ∧
  (∀i,¬i<cG→di H.iS (lU i)=false→(hp hc).ob i=(hp he).ob i∧((hp hc).fr i↔(hp he).fr i)) ∧
  ∀i,wt (jT H he.aR E) i=false→(hp hc).ob i=(hp he).ob i∧((hp hc).fr i↔(hp he).fr i):=by
 have TG:=EO.top
 have hm:H.m=H.grow.length+pE H.v5:=rfl
 have Jo:∀i,i∉E.da++(E.bs++E.cs)→(∀k,k<H.m→i≠he.aR+k)→fH hc.t i=fH he.t i:=fun i h1 h2=>by
  have Tw:∀b∈E.bs++E.cs,∀ob,b∉E.da++(E.bs++E.cs)→(∀k,k<H.m→b≠he.aR+k)→ob=fH he.t b:=fun b hb ob hn=>absurd (zS _ hb) hn
  have B2:∀i,he.aR≤i→i<he.aR+H.m→∀ob,i∉E.da++(E.bs++E.cs)→(∀k,k<H.m→i≠he.aR+k)→ob=fH he.t i:=fun i q1 q2 ob _ hn=>absurd (show i=he.aR+(i-he.aR) by omega) (hn (i-he.aR) (by omega))
  exact J.t (fun i ob=>i∉E.da++(E.bs++E.cs)→(∀k,k<H.m→i≠he.aR+k)→ob=fH he.t i) (fun i hi hn=>absurd hi hn) (fun i _ _ _=>rfl)
   (uo _ _ _ (fun b hb=>Tw b (zQ _ hb))) (um (m:=he.aR+H.m) _ _ _ _ (by omega) (fun b hb=>Tw b (zS _ hb)) (fun i q1 q2=>B2 i (by omega) q2)) (uk (m:=he.aR+H.m) _ _ _ (by omega) B2) i h1 h2
 have eG:∀i,¬i<cG→di H.iS (lU i)=false→(hp hc).ob i=(hp he).ob i∧((hp hc).fr i↔(hp he).fr i):=fun i hl hk=>by
  rw [(fe hl).1,(fe hl).2,(fe hl).1,(fe hl).2]
  unfold dQ fV
  rw [J.rg,lq _ _ _ EO.iS,hk,if_neg (by simp)]
  exact ⟨rfl,Iff.rfl⟩
 refine ⟨fun i h1 h2=>?_,eG,fun i hw=>?_⟩
 ·have hl:i<cG:=by omega
  show (if i<cG then fH hc.t i else _)=(if i<cG then fH he.t i else _)
  rw [if_pos hl,if_pos hl]
  exact Jo i h2 (fun k _=>by omega)
 ·have hw:(((E.bs++E.cs).map du++E.da.map du)++((List.range H.m).map (fun k=>du (he.aR+k))++H.iS.map fun p=>ic p.1)).any (Nat.beq (res i))=false:=hw
  rw [List.any_append,List.any_append,List.any_append] at hw
  simp only [Bool.or_eq_false_iff] at hw
  obtain ⟨⟨w1,w2⟩,w3,w4⟩:=hw
  by_cases hl:i<cG
  ·have nin:∀l:List Nat,(l.map du).any (Nat.beq (res i))=false→i∉l:=fun l h hm=>by
    rw [any_beq.2 (by rw [mI hl];exact List.mem_map.2 ⟨i,hm,rfl⟩)] at h;cases h
   have n3:∀k,k<H.m→i≠he.aR+k:=fun k hk e=>by
    rw [any_beq.2 (by rw [mI hl,e];exact List.mem_map.2 ⟨k,List.mem_range.2 hk,rfl⟩)] at w3;cases w3
   refine ⟨?_,?_⟩
   ·show (if i<cG then fH hc.t i else _)=(if i<cG then fH he.t i else _)
    rw [if_pos hl,if_pos hl]
    exact Jo i (fun h=>(zX.1 h).elim (nin _ w2) (nin _ w1)) n3
   ·show (if i<cG then hc.aR≤i else _)↔(if i<cG then he.aR≤i else _)
    rw [if_pos hl,if_pos hl,J.aR]
    refine ⟨fun h=>by omega,fun h=>?_⟩
    rcases Nat.lt_or_ge i (he.aR+H.m) with h1 | h1
    ·exact absurd (show i=he.aR+(i-he.aR) by omega) (n3 (i-he.aR) (by omega))
    ·exact h1
  ·refine eG i hl ?_
   rw [oX hl,ui] at w4
   exact w4
theorem I2 {n:Nat} {F':Tr A} {h':Go.Bm.H} {i_:List Nat} {T:Fp} (EO:rz H E Mj Fe he) (ot:∀i,he.aR≤i→i<cG→fH he.t i=none) (QR:∀i,i∉lg→bl F'.get i=bl Fe.get i)
  (QJ:∀i,i<he.aR→i∉E.da++(E.bs++E.cs++E.qs)→(hp h').ob i=(hp he).ob i) (Wr:∀i,¬i<cG→di H.iS (lU i)=false→(hp h').ob i=(hp he).ob i∧((hp h').fr i↔(hp he).fr i))
  (GA:Bf H n he.aR E.bs E.cs E.qs E.da Mj F' h' i_ T=some s) (J:oJ H lg E Fe he s Fc hc) {S0:Hp} {g0:G} {w0 w:World} {a:Act} (hf:∀o,he.aR≤o→o<cG→S0.fr o∧g0.bq o=none)
  (hR:R S0 g0 w0 (fI n F' i_ (hp h')) a w):R S0 g0 w0 (fI n Fc Mj (hp hc)) a w:=by
 have TG:=EO.top
 have hm:H.m=H.grow.length+pE H.v5:=rfl
 unfold Bf at GA
 obtain ⟨Bl,Gz⟩:=ah GA
 clear GA
 rw [zC,zC] at Bl
 obtain ⟨⟨_,UA⟩,hqs⟩:=Bl
 rw [List.all_eq_true] at hqs
 obtain rfl:=DP UA
 split at Gz
 ·rename_i v gg b ee c hv hg hb hee EX
  obtain ⟨Mb,Wv⟩:=ah Gz
  clear Gz
  cases Wv
  obtain ⟨gr,nG⟩:=gg
  obtain ⟨er,nC⟩:=ee
  obtain ⟨n1,n2⟩:=tx Mb
  obtain ⟨p1,p2⟩:=Cf _ _ _ hg
  obtain ⟨c1,c2,c3⟩:=xZ _ _ _ _ hee
  obtain ⟨g,hI,hE,hD,hs,hV⟩:=hR
  have hV:∀i,i<n→V g (bl F'.get i) (a.tmps.getD i undef):=hV
  have KM:(nG++nC).length=H.m:=by rw [zY,p1,c1];exact hm.symm
  have I9:∀(k o:Nat),(nG++nC)[k]?=some (some o)→o<cG:=fun k o e=>by
   by_cases hk:k<nG.length
   ·rw [zK hk] at e;exact B3 hg k o e
   ·rw [zJ (by omega)] at e;exact c2 _ o e
  have Xg:∀(k:Nat) (nm:Option Nat),nG[k]?=some nm→(nG++nC)[k]?=some nm:=fun k nm e=>by rw [zK (zB.1 e).1];exact e
  have cap:∀(k:Nat) (nm:Option Nat),nC[k]?=some nm→(nG++nC)[H.grow.length+k]?=some nm:=fun k nm e=>by rw [zJ (by omega),p1,Nat.add_sub_cancel_left];exact e
  have QO:∀(k o:Nat),(nG++nC)[k]?=some (some o)→he.aR≤o∨o∈E.da:=n1
  have QN:∀(k k' o:Nat),(nG++nC)[k]?=some (some o)→(nG++nC)[k']?=some (some o)→k=k':=n2
  generalize tP:nG++nC=names at KM I9 Xg cap QO QN
  have WG:he.aR+names.length≤cG:=by rw [KM];exact TG
  have kB:=Dy he.aR names g
  have P3:∀(k:Nat) (nm:Option Nat) (z:Nat) (cc:A),names[k]?=some nm→wh z cc nm→∀v,V g cc v→V (gj he.aR names g) (.tw (.loc (he.aR+k)) z) v:=fun k nm z cc e ET v Wj=>by
   cases nm with
   | some o=>
    have ET:cc = .tw (.loc o) z:=ET
    rw [ET] at Wj
    have bO:(gj he.aR names g).bq (he.aR+k)=g.bq o:=vG e WG
    cases Wj with
    | sc _ _ ad h1=>exact .sc (.loc (he.aR+k)) z ad (bO.trans h1)
    | tw _ _ m b cap t h1 hn hx hp d hd=>exact .tw (.loc (he.aR+k)) z m b cap t (bO.trans h1) hn hx hp d hd
   | none=>
    obtain ⟨ad,h1⟩:=ET g _ Wj
    rw [h1]
    exact .sc (.loc (he.aR+k)) z ad (vG e WG)
  have P4:∀(k:Nat) (nm:Option Nat) (t:Ty) (l:List t.T),names[k]?=some nm→Eu t h'.t l nm→∀x,some (Ob.cells (l.flatMap (aA t)))=some x→(he.aR+k<he.aR→(((hp h').ob (he.aR+k)=some x∧EL he.aR x)∨∃cs hZ,(hp h').ob (he.aR+k)=some (.cells cs)∧x = .cells hZ∧hZ.length=cs.length∧∀vs,Vs g cs vs→Vs (gj he.aR names g) hZ vs)) ∧
    (he.aR≤he.aR+k→he.aR+k<cG→∃k' nm,he.aR+k=he.aR+k'∧names[k']?=some nm∧(∀o,nm=some o→(hp h').ob o=some x∧EL he.aR x)∧(nm=none→x = .cells [])):=fun k nm t l e C9 x hx=>by
   cases hx
   refine ⟨fun eg=>by omega,fun _ eg=>⟨k,nm,rfl,e,fun o ho=>?_,fun ho=>?_⟩⟩
   ·subst ho
    have C9:o<cG∧fH h'.t o=some (.cells (l.flatMap (aA t))):=C9
    refine ⟨?_,fun c hc=>by obtain ⟨y,_,hy⟩:=List.mem_flatMap.1 hc;exact iQ t y c hy⟩
    show (if o<cG then _ else _)=_
    rw [if_pos C9.1];exact C9.2
   ·subst ho
    have C9:l=[]:=C9
    subst C9;rfl
  have eY:∀i,i<cG→(hp h').ob i=fH h'.t i:=fun i hi=>if_pos hi
  have jS:=p2 (fun i c=>i<n→V (gj he.aR names g) c (a.tmps.getD i undef)) (fun i ob=>∀x,ob=some x→(i<he.aR→(((hp h').ob i=some x∧EL he.aR x)∨∃cs hZ,(hp h').ob i=some (.cells cs)∧x = .cells hZ∧hZ.length=cs.length∧∀vs,Vs g cs vs→Vs (gj he.aR names g) hZ vs))∧(he.aR≤i→i<cG→∃k nm,i=he.aR+k∧names[k]?=some nm∧(∀o,nm=some o→(hp h').ob o=some x∧EL he.aR x)∧(nm=none→x = .cells []))) he.aR
   (fun k nm i z e hi ET _=>P3 k nm z _ (Xg k nm e) ET _ (hV i hi)) (fun k nm t l e C9=>P4 k nm t l (Xg k nm e) C9)
  have hF:=J.F (fun i c=>i<n→V (gj he.aR names g) c (a.tmps.getD i undef)) (fun i _ _=>.cF _)
   (fun i hi hn=>by
    have:=hV i hn
    rw [QR i hi] at this
    exact EO.slot i g _ _ kB this)
   (Ce (fun i ag t x hi hx _=>n9 ag t x g _ _ kB (jY hx (hV i hi))) _ _ hv) jS.1
  have hT:=J.t _ (fun i _ x hx=>by cases hx)
   (fun i hi x hx=>by
    refine ⟨fun eg=>.inl ?_,fun h1 h2=>by rw [ot i h1 h2] at hx;cases hx⟩
    have he1:(hp h').ob i=fH he.t i:=by
     by_cases hq:i∈E.qs
     ·rw [eY i (by omega),xX (hqs i hq),xX (EO.loop i hq).1]
     ·rw [QJ i eg (fun h=>by
       rcases zX.1 h with h | h
       ·exact hi (zQ _ h)
       ·rcases zX.1 h with h | h
        ·exact hi (zS _ h)
        ·exact hq h)]
      exact if_pos (by omega)
    exact ⟨he1.trans hx,EO.mem i x hx⟩)
   (Ch (tt:=h'.t) _ _ _ (fun b t y W8 W7 x hx=>by
    cases hx
    have eg:=EO.bsl b (zQ _ W8)
    exact ⟨fun _=>.inl ⟨by rw [eY b (by omega)];exact W7,iQ t y⟩,fun h=>by omega⟩) hb)
   (c3 he.aR g (gj he.aR names g) (he.aR+H.grow.length) _ kB (fun k nm z cc e ET v hv=>by have:=P3 (H.grow.length+k) nm z cc (cap k nm e) ET v hv;rwa [←Nat.add_assoc] at this) (fun k nm t l e C9=>by have:=P4 (H.grow.length+k) nm t l (cap k nm e) C9;rwa [←Nat.add_assoc] at this)
    (fun b cs hZ W8 W7 hl hcv x hx=>by
     cases hx
     have eg:=EO.bsl b (zS _ W8)
     exact ⟨fun _=>.inr ⟨cs,hZ,by rw [eY b (by omega)];exact W7,rfl,hl,hcv⟩,fun h=>by omega⟩)) jS.2
  have hDl:∀i,i∈E.da→fH hc.t i=none:=fun i hi=>by
   have B2:∀i,he.aR≤i→i<he.aR+H.m→∀ob:Option Ob,i∈E.da→ob=none:=fun i q1 _ ob hn=>by have:=EO.del _ hn;omega
   have Tw:∀b∈E.bs++E.cs,∀ob:Option Ob,b∈E.da→ob=none:=fun b hb ob hn=>absurd hn (EO.apart b hb)
   exact J.t (fun i ob=>i∈E.da→ob=none) (fun _ _ _=>rfl) (fun i hn hd=>absurd (zQ _ hd) hn) (uo _ _ _ (fun b hb=>Tw b (zQ _ hb))) (um (m:=he.aR+H.m) _ _ _ _ (by omega) (fun b hb=>Tw b (zS _ hb)) (fun i q1 q2=>B2 i (by omega) q2)) (uk (m:=he.aR+H.m) _ _ _ (by omega) B2) i hi
  have QX:=kX _ _ _ EX
  have hRg:∀i,¬i<cG→(hp hc).ob i=(hp h').ob i∧((hp hc).fr i↔(hp h').fr i):=fun i hl=>by
   cases hk:di H.iS (lU i) with
   | true=>
    obtain ⟨q1,_⟩:=QX _ hk
    rw [(fe hl).1,(fe hl).2,(fe hl).1,(fe hl).2]
    unfold dQ fV
    rw [J.rg,lq _ _ _ EO.iS,hk,if_pos rfl,q1]
    exact ⟨rfl,Iff.rfl⟩
   | false=>
    have e1:=(qN EO J).2.1 i hl hk
    have e2:=Wr i hl hk
    exact ⟨e1.1.trans e2.1.symm,e1.2.trans e2.2.symm⟩
  have KU:∀i,i<cG→(hp hc).ob i=fH hc.t i:=fun i hi=>if_pos hi
  have yy:∀{i},¬stay he.aR i→he.aR≤i∧i<cG:=fun {i} h=>by unfold stay at h;omega
  have hrj:=JZ (S':=hp hc) WG (fun i x hi e=>?_) (fun i x hi e=>?_) QN (fun k o e hi=>?_) (fun i e=>⟨fun hi=>?_,fun hi=>?_⟩) hf hI hE
  ·refine ⟨_,hrj.1,hrj.2,⟨hD.1,fun i d e e1 e2=>?_⟩,hs,fun i hi=>hF i hi⟩
   have W0:=EO.dsl d (zG e1)
   refine ⟨fun hd=>?_,fun hd=>absurd hd (by have:cG=16777216:=rfl;omega)⟩
   obtain ⟨b',s',q1,q2⟩:=(hD.2 i d e e1 e2).1 hd
   exact ⟨b',s',(kB.bq d (.inl W0)).trans q1,q2⟩
  ·rcases hi with hi | hi
   ·rw [KU i (by omega)] at e
    exact (hT i x e).1 hi
   ·refine .inl ⟨(hRg i hi).1.symm.trans e,?_⟩
    rw [(fe hi).1] at e
    unfold dQ at e
    split at e
    ·exact B6 e
    ·cases e
  ·obtain ⟨h1,h2⟩:=yy hi
   rw [KU i h2] at e
   exact (hT i x e).2 h1 h2
  ·have hol:=I9 k o e
   rcases QO k o e with h1 | h1
   ·rcases hi with hi | hi
    ·omega
    ·exact absurd hol hi
   ·rw [KU o hol];exact hDl o h1
  ·obtain ⟨h1,h2⟩:=yy hi
   have e:(if i<cG then hc.aR≤i else _):=e
   rw [if_pos h2,J.aR] at e
   rw [KM];exact e
  ·rcases hi with hi | hi
   ·have e:(if i<cG then hc.aR≤i else _):=e
    rw [if_pos (show i<cG by omega),J.aR] at e
    omega
   ·exact (hRg i hi).2.1 e
 ·cases Gz
end
end
section
open Go.RowKit
theorem Inv.BT {g:G} {S:Hp} {w:World} (h:Inv g S w) {q b:Nat} {s:Nat×Nat} {st zc:LoopState} {pe J6:Option Code} {rr:Loop} (ho:S.ob q=some (.cL (.loop st pe))) (hg:g.bq q=some (some b,s)) (hr:w.heap[b]?=some (.loop rr)) :
  Inv g (S.set q (.cL (.loop zc J6))) (w.putObj b (.loop { rr with state:=zc,pending:=J6 }))∧Ext S g w (S.set q (.cL (.loop zc J6))) g (w.putObj b (.loop { rr with state:=zc,pending:=J6 })):=by
 have hb:b<w.heap.size:=(Array.getElem?_eq_some_iff.1 hr).1
 refine h.Bv ho hg (by simp) (fun k hk=>World.putObj_heap_other hk) rfl rfl rfl ⟨_,World.putObj_heap_same hb,_,rfl,rfl,rfl⟩ (fun l e=>⟨_,World.putObj_heap_same hb,?_⟩)
 obtain ⟨r,k1,k2⟩:=h.lp b l e
 rw [hr] at k1
 cases k1
 exact k2
theorem Inv.Qo {g:G} {S:Hp} {w:World} (h:Inv g S w) {q:Nat} (hf:S.fr q) (rr:Loop) :
  ∃g',Inv g' (S.new q (.cL (.loop rr.state rr.pending))) (w.alloc (.loop rr))∧Ext S g w (S.new q (.cL (.loop rr.state rr.pending))) g' (w.alloc (.loop rr))∧g'.bq q=some (some w.heap.size,(0,0))∧g'.lp w.heap.size=some (tE rr):=by
 obtain ⟨i1,x1⟩:=h.alloc (s:=(0,0)) hf (x:=.cL (.loop rr.state rr.pending)) (ob:=.loop rr) ⟨_,heap_alloc_new w _,rr,rfl,rfl,rfl⟩
 have Jk:(jE g q (some w.heap.size,(0,0))).lp w.heap.size=none:=by
  cases hl:(jE g q (some w.heap.size,(0,0))).lp w.heap.size with
  | none=>rfl
  | some l=>
   obtain ⟨r,k1,_⟩:=h.lp _ l hl
   have:=(Array.getElem?_eq_some_iff.1 k1).1
   omega
 have bO:=cl (g:=g) (o:=q) (p:=(some w.heap.size,(0,0)))
 generalize jE g q (some w.heap.size,(0,0))=g1 at i1 x1 Jk bO
 have hle:Le g1 ⟨g1.bq,g1.mem,fun k=>if k=w.heap.size then some (tE rr) else g1.lp k⟩:=⟨fun _ _ e=>e,fun _ _ _ e=>e,fun b l e=>by
  show (if b=w.heap.size then _ else g1.lp b)=some l
  split
  ·rename_i hb;rw [hb,Jk] at e;cases e
  ·exact e⟩
 refine ⟨⟨g1.bq,g1.mem,fun k=>if k=w.heap.size then some (tE rr) else g1.lp k⟩,⟨fun o cs e=>(i1.cells o cs e).imp id fun ⟨b,t,k1,cur,ty,k2,k3,k4⟩=>⟨b,t,k1,cur,ty,k2,k3,k4.mono hle⟩,fun o x e=>?_,i1.fresh,i1.lt,i1.inj,i1.mem,i1.lv,fun b l e=>?_⟩,⟨x1.le.trans hle,x1.os,x1.tape,x1.output,x1.size,x1.frame,fun k ⟨o,s,x,e1,e2⟩=>x1.own k ⟨o,s,x,e1,e2⟩,x1.Jv,x1.fr,x1.tC,fun b l e=>?_⟩,bO,if_pos rfl⟩
 ·obtain ⟨b,s,ob,k1,k2,k3⟩:=i1.cL o x e
  exact ⟨b,s,ob,k1,k2,k3.mono hle⟩
 ·have e:(if b=w.heap.size then some (tE rr) else g1.lp b)=some l:=e
  split at e
  ·rename_i hb;cases e;exact ⟨rr,by rw [hb];exact heap_alloc_new w _,rfl⟩
  ·exact i1.lp b l e
 ·have e:(if b=w.heap.size then some (tE rr) else g1.lp b)=some l:=e
  split at e
  ·rename_i hb;exact .inr (by omega)
  ·exact x1.lpo b l e
section
variable {β:Type}
theorem xR {h:H} {q:Nat} {x:gy} {t':Tr gy} (hq:q<16777216) (ht:t'.get=fun m=>if m=q then some x else h.t.get m):nI h { h with t:=t' } (.wr [du q])∧∀S,Agree (.wr [du q]) (hp h) S→iU (.wr [du q]) (hp { h with t:=t' }) S=S.set q x.low:=by
 have e:=o_ (h:=h) (x:=x) hq ht
 have hT:∀u∈[Up.set q x.low],aI (.wr [du q]) u.id=true:=fun u hu=>by rcases zF.1 hu with rfl;exact aB (o:=q) hq (.head _)
 have out:∀i,aI (.wr [du q]) i=false→(hp { h with t:=t' }).ob i=(hp h).ob i∧((hp { h with t:=t' }).fr i↔(hp h).fr i):=fun i hi=>by
  rw [e];exact dB _ _ i (fun u hu hh=>by rw [hh,hT u hu] at hi;cases hi)
 exact ⟨⟨out,fun i hi=>out i (sb hi)⟩,fun S hA=>by rw [e,ij hT hA];rfl⟩
theorem yO {h:H} {q:Nat} {t':Tr gy} (hq:q<16777216) (ht:t'.get=fun m=>if m=q then none else h.t.get m):nI h { h with t:=t' } (.wr [du q])∧∀S,Agree (.wr [du q]) (hp h) S→iU (.wr [du q]) (hp { h with t:=t' }) S=S.del q:=by
 have e:hp { h with t:=t' }=app [.del q] (hp h):=Hp.ext' (fun i=>by
  show (if i<cG then fH t' i else _)=if i=q then none else (if i<cG then fH h.t i else _)
  unfold fH
  rw [ht]
  by_cases hi:i=q
  ·subst hi;rw [if_pos (show i<cG from hq),if_pos rfl];simp
  ·simp only [if_neg hi]) (fun i=>Iff.rfl)
 have hT:∀u∈[Up.del q],aI (.wr [du q]) u.id=true:=fun u hu=>by rcases zF.1 hu with rfl;exact aB (o:=q) hq (.head _)
 have out:∀i,aI (.wr [du q]) i=false→(hp { h with t:=t' }).ob i=(hp h).ob i∧((hp { h with t:=t' }).fr i↔(hp h).fr i):=fun i hi=>by
  rw [e];exact dB _ _ i (fun u hu hh=>by rw [hh,hT u hu] at hi;cases hi)
 exact ⟨⟨out,fun i hi=>out i (sb hi)⟩,fun S hA=>by rw [e,ij hT hA];rfl⟩
theorem yf {h:H} {x:gy} {t':Tr gy} (hq:h.aR<16777216) (ht:t'.get=fun m=>if m=h.aR then some x else h.t.get m):nI h { h with t:=t',aR:=h.aR+1 } (.wr [du h.aR])∧∀S,Agree (.wr [du h.aR]) (hp h) S→iU (.wr [du h.aR]) (hp { h with t:=t',aR:=h.aR+1 }) S=S.new h.aR x.low:=by
 have e:=Da (h:=h) (x:=x) hq ht
 have hT:∀u∈[Up.new h.aR x.low],aI (.wr [du h.aR]) u.id=true:=fun u hu=>by rcases zF.1 hu with rfl;exact aB (o:=h.aR) hq (.head _)
 have out:∀i,aI (.wr [du h.aR]) i=false→(hp { h with t:=t',aR:=h.aR+1 }).ob i=(hp h).ob i∧((hp { h with t:=t',aR:=h.aR+1 }).fr i↔(hp h).fr i):=fun i hi=>by
  rw [e];exact dB _ _ i (fun u hu hh=>by rw [hh,hT u hu] at hi;cases hi)
 exact ⟨⟨out,fun i hi=>out i (sb hi)⟩,fun S hA=>by rw [e,ij hT hA];rfl⟩
theorem Ks {h:H} {q:Nat} {x:gy} (hq:q<16777216) (hx:h.t.get q=some x):(hp h).ob q=some x.low:=by
 show (if q<cG then _ else _)=_
 rw [if_pos (show q<cG from hq)];unfold fH;rw [hx]
theorem yY {h:H} {q:Nat} {S:Hp} {x:gy} {l:List Nat} {w:Bool} {s:List Nat} (hq:q<16777216) (hx:h.t.get q=some x) (hA:Agree ⟨false,l,w,s⟩ (hp h) S) (hm:du q∈l):S.ob q=some x.low:=(hA q (aB hq hm)).1.trans (Ks hq hx)
def CW:Option Code→Option Exit
 | none=>some .normal
 | some .ret=>some .ret
 | some (.exit id)=>some (.exit id)
 | _=>none
def KA:LoopState→Bool
 | .busy=>true
 | _=>false
def P5:Exit→Option (Option Code)
 | .normal=>some none
 | .ret=>some (some .ret)
 | .exit id=>some (some (.exit id))
 | _=>none
def B4:Option Code→LoopState
 | none=>.ready
 | some _=>.done
theorem CV {pe:Option Code} {e:Exit} (h:CW pe=some e):(pe=none∧e = .normal)∨(pe=some .ret∧e = .ret)∨∃id,pe=some (.exit id)∧e = .exit id:=by
 unfold CW at h
 split at h
 ·cases h;exact .inl ⟨rfl,rfl⟩
 ·cases h;exact .inr (.inl ⟨rfl,rfl⟩)
 ·cases h;exact .inr (.inr ⟨_,rfl,rfl⟩)
 ·cases h
def wI:Tr A→List Tmp→List A→(Tr A→Option β)→Option β
 | F,[],[],k=>k F
 | F,t::ts,a::aa,k=>ff F t (some a) (fun F=>wI F ts aa k)
 | _,_,_,_=>none
theorem sk {r:β}:∀(ps:List Tmp) (aa:List A) (F:Tr A) (k:Tr A→Option β),wI F ps aa k=some r→∃F1,k F1=some r∧aa.length=ps.length∧∀(g:G) (n:Nat) (vs:List Value) (tmps:Array Value),aa.length=vs.length→(∀(i:Nat) (p:A) (v:Value),aa[i]?=some p→vs[i]?=some v→V g p v)→tmps.size=n→(∀i,i<n→V g (bl F.get i) (tmps.getD i undef)) →
  ((ps.zip vs).foldl (fun tmps x=>tmps.setIfInBounds x.1 x.2) tmps).size=n∧∀i,i<n→V g (bl F1.get i) (((ps.zip vs).foldl (fun tmps x=>tmps.setIfInBounds x.1 x.2) tmps).getD i undef)
 | [],[],F,k,h=>⟨F,h,rfl,fun g n vs tmps hl hv hs hF=>⟨by simpa using hs,by simpa using hF⟩⟩
 | t::ts,a::aa,F,k,h=>by
  obtain ⟨_,F',k1,k2⟩:=bu h
  obtain ⟨F1,q1,q2,q3⟩:=sk ts aa F' k k1
  refine ⟨F1,q1,by simp [q2],fun g n vs tmps hl hv hs hF=>?_⟩
  cases vs with
  | nil=>simp at hl
  | cons v vs=>
   refine q3 g n vs (tmps.setIfInBounds t v) (by simpa using hl) (fun i p v k1 k2=>hv (i+1) p v (by simpa using k1) (by simpa using k2)) (by simpa using hs) (fun i hi=>?_)
   rw [nU k2]
   by_cases WT:i=t
   ·subst WT
    rw [if_pos rfl,show (tmps.setIfInBounds i v).getD i undef=v by simp [Array.getD,show i<tmps.size by omega]]
    exact hv 0 a v rfl rfl
   ·rw [if_neg WT,show (tmps.setIfInBounds t v).getD i undef=tmps.getD i undef by
     simp only [Array.getD_eq_getD_getElem?]
     rw [Array.getElem?_setIfInBounds_ne (fun h=>WT h.symm)]]
    exact hF i hi
 | [],_::_,_,_,h=>by cases h
 | _::_,[],_,_,h=>by cases h
theorem Qt {g:G} {fi ca:List A} {x:A} {fv cv:List Value} {v:Value} (hf:fi.length=fv.length) (h1:∀(i:Nat) (c:A) (x:Value),fi[i]?=some c→fv[i]?=some x→V g c x) (hx:V g x v) (h2:∀(i:Nat) (c:A) (x:Value),ca[i]?=some c→cv[i]?=some x→V g c x) :
  ∀(i:Nat) (p:A) (u:Value),(fi++x::ca)[i]?=some p→(fv++v::cv)[i]?=some u→V g p u:=by
 intro i p u k1 k2
 rcases Nat.lt_trichotomy i fi.length with c1 | c1 | c1
 ·rw [zK c1] at k1
  rw [zK (by omega)] at k2
  exact h1 i p u k1 k2
 ·rw [zJ (by omega)] at k1 k2
  rw [c1,Nat.sub_self] at k1
  rw [c1,hf,Nat.sub_self] at k2
  simp at k1 k2;subst k1 k2;exact hx
 ·rw [zJ (by omega)] at k1 k2
  rw [←hf] at k2
  obtain ⟨d,hd⟩:∃d,i-fi.length=d+1:=⟨i-fi.length-1,by omega⟩
  rw [hd] at k1 k2
  exact h2 d p u (by simpa using k1) (by simpa using k2)
end
end
section
open Go.RowKit
section
variable {P:Program} {E:Env} {cx:Cx} {n:Nat} {β:Type} {r:β}
abbrev KC (β:Type):=Exit→Tr A→H→List Nat→Fp→Option β
def JU (K1:Tr A→H→List Nat→Fp→Option β) (K:KC β):KC β:=fun e F h ds U=>match e with
 | .normal=>K1 F h ds U
 | e=>K e F h ds U
def Zo (id:Nat) (K:KC β):KC β:=fun e F h ds U=>match e with
 | .exit i=>bif Nat.beq i id then K .normal F h ds U else K (.exit i) F h ds U
 | e=>K e F h ds U
def Lx (n:Nat) (F:Tr A) (c:Operand) (k:Tr A→Bool→Option β):Option β:=match c with
 | .tmp d=>match yc n F (.tmp d) with
  | .v (.bool b)=>br b (ff F d (some (.v (.bool true))) (fun F'=>k F' true)) (ff F d (some (.v (.bool false))) (fun F'=>k F' false))
  | _=>none
 | .const (.bool b)=>k F b
 | _=>none
theorem Hd {F:Tr A} {c:Operand} {k:Tr A→Bool→Option β} (h:Lx n F c k=some r):∃F' b,k F' b=some r∧(∀ds S,fI n F' ds S=fI n F ds S)∧yc n F c = .v (.bool b):=by
 unfold Lx at h
 split at h
 ·rename_i d
  split at h
  ·rename_i b hb
   have same:∀(F':Tr A) (c:Bool),b=c→F'.get=(fun m=>if m=d then some (.v (.bool c)) else F.get m)→∀ds S,fI n F' ds S=fI n F ds S:=fun F' c hc e ds S=>by
    have:bl F'.get=bl F.get:=by
     funext i
     by_cases hi:i=d
     ·subst hi
      rw [yb hb (by intro h;cases h),hc]
      unfold bl
      rw [e];simp
     ·unfold bl
      rw [e];simp [hi]
    unfold fI
    rw [this]
   rcases ph h with ⟨rfl,h1⟩ | ⟨rfl,h1⟩
   ·obtain ⟨_,F',k1,k2⟩:=bu h1
    exact ⟨F',true,k1,same F' true rfl k2,hb⟩
   ·obtain ⟨_,F',k1,k2⟩:=bu h1
    exact ⟨F',false,k1,same F' false rfl k2,hb⟩
  ·cases h
 ·rename_i b
  exact ⟨F,b,h,fun ds S=>rfl,rfl⟩
 ·cases h
def mA:ay→List Nat
 | .region _ ops _=>pU ops
 | .seq x y=>mA x++mA y
 | .cut H x y=>(mA x++(H.ni.map (·.1)++H.grow.map (·.1)))++mA y
 | .cond _ x y=>mA x++mA y
 | .block _ x=>mA x
 | .loop H x=>mA x++(H.ni.map (·.1)++H.grow.map (·.1))
 | _=>[]
def wU {σ:Type} (pj:Tr A→H→List Nat→Fp→Option σ) (k:σ→Option β) (K:KC β):KC β:=fun e F h ds T=>match e with
 | .normal=>(match pj F h ds T with
  | some s=>k s
  | none=>none)
 | e=>K e F h ds T
def A5 (U:Fp) (K:KC β):KC β:=fun e F h ds T=>K e F h ds (U.cat T)
abbrev Mq (β:Type):=Nat→List Oper→Tr A→H→Fp→(Tr A→H→Fp→Option β)→Option β
def xN (J:LH):Option Nat:=match J.loops with
 | [k]=>bif Nat.ble 1000000 k then some (k-1000000) else none
 | _=>none
def Mk:List Oper→Option (Nat×Nat×Nat)
 | [o1,o2]=>match o1.op,o1.dst,o1.guard,o2.op,o2.guard,o2.dst with
  | .move (.tmp s),some a,none,.defer c,none,none=>match c.callee,c.args.toList with
   | .value (.func f),[.tmp b]=>bif Nat.beq a b then some (s,a,f) else none
   | _,_=>none
  | _,_,_,_,_,_=>none
 | _=>none
def UF {β:Type} (n:Nat) (x:Nat×Nat×Nat) (F:Tr A) (h:H) (ds:List Nat) (U:Fp) (K:Tr A→H→List Nat→Fp→Option β):Option β:=match bl F.get x.1 with
 | .ptr q off=>bif Nat.beq off 0 && Nat.blt q 16777216 && Nat.blt x.1 n && Nat.blt x.2.1 n then ff F x.2.1 (some (.ptr q 0)) (fun F1=>K F1 h ((q+16777216*(x.2.2+1))::ds) U) else none
 | _=>none
def rZ (E:Env) (cx:Cx) (inr:Bool) (n:Nat) (dr:Mq β):ay→Tr A→H→List Nat→Fp→KC β→Option β
 | .skip,F,h,ds,U,K=>K .normal F h ds U
 | .ret,F,h,ds,U,K=>K .ret F h ds U
 | .exit id,F,h,ds,U,K=>K (.exit id) F h ds U
 | .bad _,_,_,_,_,_=>none
 | .region id ops d,F,h,ds,U,K=>bif d then dr id ops F h U (fun F h U=>K .normal F h ds U) else match Mk ops with
  | some x=>bif inr then none else UF n x F h ds U (fun F h ds U=>K .normal F h ds U)
  | none=>uR E cx n ops ops F h U (fun F h U=>K .normal F h ds U)
 | .seq x y,F,h,ds,U,K=>rZ E cx inr n dr x F h ds U (JU (fun F h ds U=>rZ E cx inr n dr y F h ds U K) K)
 | .cut J x y,F,h,ds,U,K=>match G6 J F h with
  | some e=>bif yK J e ds F h then
    jn (fun k=>rZ E cx inr n dr x F h ds .no (wU (Bf J n h.aR e.bs e.cs e.qs e.da ds) k (A5 U K)))
     (fun s=>Ax J (mA x++(J.ni.map (·.1)++J.grow.map (·.1))) e.bs e.cs e.da F h s (fun Fc hc=>rZ E cx inr n dr y Fc hc ds .no (A5 (U.cat (jT J h.aR e)) K)))
   else none
  | none=>none
 | .cond c x y,F,h,ds,U,K=>Lx n F c (fun F b=>bif b then rZ E cx inr n dr x F h ds U K else rZ E cx inr n dr y F h ds U K)
 | .block id x,F,h,ds,U,K=>rZ E cx inr n dr x F h ds U (Zo id K)
 | .loop J x,F,h,ds,U,K=>match xN J with
  | some m=>Nat.rec (motive:=fun _=>Tr A→H→List Nat→Fp→Option β) (fun _ _ _ _=>none) (fun _ ih F h ds U=>rZ E cx inr n dr x F h ds U (JU ih K)) m F h ds U
  | none=>match G6 J F h with
  | some e=>bif yK J e ds F h then (match Bf J n h.aR e.bs e.cs e.qs e.da ds F h ds .no with
   | some s0=>loop (fun k s=>Ax J (mA x++(J.ni.map (·.1)++J.grow.map (·.1))) e.bs e.cs e.da F h s (fun Fc hc=>rZ E cx inr n dr x Fc hc ds .no (wU (Bf J n h.aR e.bs e.cs e.qs e.da ds) k (A5 (U.cat (jT J h.aR e)) K)))) s0
   | none=>none) else none
  | none=>none
 | .range g ps J aa bd,F,h,ds,U,K=>bif inr then none else match yc n F g with
  | .fn f fi ca=>bif Nat.blt h.aR 16777214 then ff h.t h.aR (some (.cL .yN)) (fun t1=>ff t1 (h.aR+1) (some (.cL (.loop .ready none))) (fun t2=>cx.call β f (fi ++ .rA (h.aR+1) n F ps J aa bd::ca) { h with t:=t2,aR:=h.aR+1+1 } (fun _ h3 T3=>match h3.t.get (h.aR+1) with
   | some (.cL (.loop st pe))=>bif KA st then none else ff h3.t (h.aR+1) none (fun t4=>match CW pe with
    | some e=>K e F { h3 with t:=t4 } (h.aR::ds) (U.cat (((Fp.wr [du h.aR]).cat (.wr [du (h.aR+1)])).cat (T3.cat (.wr [du (h.aR+1)]))))
    | none=>none)
   | _=>none))) else none
  | _=>none
def HA (P:Program) (inr:Bool) (n:Nat) (c:Code) (F:Tr A) (h:H) (ds:List Nat) (e:Exit) (F':Tr A) (h':H) (i_:List Nat) (T:Fp):Prop:=
 nI h h' T∧∀ro,(inr=false→ro=none)→∀S0 g0 w0,EA F h F' h' n T (fun Q st=>pw P ro S0 g0 w0 c Q st) e ds i_
def Bb (P:Program) (n:Nat) (dr:Mq β):Prop:=
 ∀id ops F h U K (r:β),dr id ops F h U K=some r→∃F' h' T,K F' h' (U.cat T)=some r∧Kp (pU ops) F F'∧∀inr ds,HA P inr n (.region id ops.toArray true) F h ds .normal F' h' ds T
theorem all_eq {S S2:Hp} {l m:List Nat} {w:Bool} (h:Agree ⟨true,l,w,m⟩ S S2):S2=S:=Hp.ext' (fun i=>(h i rfl).1) (fun i=>(h i rfl).2)
theorem x6 {S S2:Hp} {l m:List Nat} {w:Bool}:iU ⟨true,l,w,m⟩ S S2=S:=Hp.ext' (fun i=>by
 show (if aI ⟨true,l,w,m⟩ i=true then S.ob i else S2.ob i)=S.ob i
 rw [if_pos (show aI ⟨true,l,w,m⟩ i=true from rfl)]) (fun i=>by
 show (if aI ⟨true,l,w,m⟩ i=true then S.fr i else S2.fr i)↔S.fr i
 rw [if_pos (show aI ⟨true,l,w,m⟩ i=true from rfl)])
theorem CZ (J:LH) (N:Nat) (e:E4) (T:Fp):∃l m w,(jT J N e).cat T=⟨true,l,w,m⟩:=⟨_,_,_,rfl⟩
theorem R.entry {n:Nat} {F:Tr A} {h:H} {ds:List Nat} {S0:Hp} {g0:G} {w0 w:World} {a:Act} (hR:R S0 g0 w0 (fI n F ds (hp h)) a w):(∀i,h.aR≤i→i<cG→fH h.t i=none)∧∀o,h.aR≤o→o<cG→S0.fr o∧g0.bq o=none:=by
 obtain ⟨g,hI,hE,_⟩:=hR
 have hI:Inv g (hp h) w:=hI
 have hE:Ext S0 g0 w0 (hp h) g w:=hE
 have fr:∀o,h.aR≤o→o<cG→(hp h).fr o:=fun o h1 h2=>by show (if o<cG then _ else _);rw [if_pos h2];exact h1
 refine ⟨fun i h1 h2=>?_,fun o h1 h2=>⟨hE.fr o (fr o h1 h2),?_⟩⟩
 ·cases hx:fH h.t i with
  | none=>rfl
  | some x=>
   have eY:(hp h).ob i=some x:=by show (if i<cG then _ else _)=_;rw [if_pos h2];exact hx
   have bO:=hI.fresh i (fr i h1 h2)
   cases x with
   | cells cs=>
    rcases hI.cells i cs eY with ⟨k,_⟩ | ⟨b,t,k,_⟩
    ·rw [bO] at k;cases k
    ·rw [bO] at k;cases k
   | cL x=>
    obtain ⟨b,s,ob,k,_⟩:=hI.cL i x eY
    rw [bO] at k;cases k
 ·have bO:=hI.fresh o (fr o h1 h2)
  cases hx:g0.bq o with
  | none=>rfl
  | some p=>rw [hE.le.bq o p hx] at bO;cases bO
section
variable {J:LH} {lg ds:List Nat} {En:E4} {F:Tr A} {h:H}
theorem w7 {s:J.S} {Fc:Tr A} {hc:H} (k:oJ J lg En F h s Fc hc) (hv:∀i,i∈J.ni.map (·.1)++J.grow.map (·.1)→i∈lg):Kp lg F Fc:=by
 have aV:∀(l:List (Nat×Bool×Ty)) (x:kc (l.map (·.2))),(∀i∈l.map (·.1),i∈lg)→Ej (fun i c=>i∉lg→c=bl F.get i) l x:=fun l=>by
  induction l with
  | nil=>exact fun _ _=>trivial
  | cons p l ih=>exact fun x hh=>⟨fun hn=>absurd (hh p.1 (.head _)) hn,ih x.2 (fun i hi=>hh i (.tail _ hi))⟩
 have aW:∀(l:List (Nat×Ty)) (j:Nat),(∀i∈l.map (·.1),i∈lg)→Ei (fun i c=>i∉lg→c=bl F.get i) l j:=fun l=>by
  induction l with
  | nil=>exact fun _ _=>trivial
  | cons p l ih=>exact fun j hh=>⟨fun hn=>absurd (hh p.1 (.head _)) hn,ih (j+1) (fun i hi=>hh i (.tail _ hi))⟩
 exact k.F (fun i c=>i∉lg→c=bl F.get i) (fun i h1 h2=>absurd h1 h2) (fun i _ _=>rfl) (aV _ _ (fun i hi=>hv i (zQ _ hi))) (aW _ _ (fun i hi=>hv i (zS _ hi)))
theorem Qs {n:Nat} {s s':J.S} {Fc Mp F1:Tr A} {hc EX h1:H} {mv:List Nat} {T1:Fp} (E:rz J En ds F h) (k:oJ J lg En F h s Fc hc) (k':oJ J lg En F h s' Mp EX) (hv:∀i,i∈J.ni.map (·.1)++J.grow.map (·.1)→i∈lg)
  (WJ:Kp lg Fc F1) (nB:nI hc h1 T1) (GA:Bf J n h.aR En.bs En.cs En.qs En.da ds F1 h1 mv T1=some s') {S0:Hp} {g0:G} {w0 w:World} {a:Act} (ot:∀i,h.aR≤i→i<cG→fH h.t i=none) (hf:∀o,h.aR≤o→o<cG→S0.fr o∧g0.bq o=none)
  (hR:R S0 g0 w0 (fI n F1 mv (hp h1)) a w):R S0 g0 w0 (fI n Mp ds (hp EX)) a w:=by
 obtain ⟨j1,j2,_⟩:=qN E k
 have hw:=GA
 unfold Bf at hw
 obtain ⟨Bl,_⟩:=ah hw
 rw [zC,zC] at Bl
 have Wk:=E.top
 exact I2 E ot (fun i hi=>(WJ i hi).trans (w7 k hv i hi)) (fun i hi hn=>(nB.rd i (vZ Bl.1.1 (by omega) hi hn)).1.trans (j1 i hi (fun h=>hn (by
   rcases zX.1 h with h | h
   ·exact zQ _ h
   ·exact zS _ (zQ _ h)))))
  (fun i hl hk=>by
   have e1:=nB.rd i (vY Bl.1.1 hl hk)
   have e2:=j2 i hl hk
   exact ⟨e1.1.trans e2.1,e1.2.trans e2.2⟩) GA k' hf hR
theorem Ju {n:Nat} {s':J.S} {Mp F1:Tr A} {EX h1:H} {mv:List Nat} {T1:Fp} (E:rz J En ds F h) (k':oJ J lg En F h s' Mp EX)
  (WJ:Kp lg F F1) (nB:nI h h1 T1) (GA:Bf J n h.aR En.bs En.cs En.qs En.da ds F1 h1 mv T1=some s') {S0:Hp} {g0:G} {w0 w:World} {a:Act} (ot:∀i,h.aR≤i→i<cG→fH h.t i=none) (hf:∀o,h.aR≤o→o<cG→S0.fr o∧g0.bq o=none)
  (hR:R S0 g0 w0 (fI n F1 mv (hp h1)) a w):R S0 g0 w0 (fI n Mp ds (hp EX)) a w:=by
 have hw:=GA
 unfold Bf at hw
 obtain ⟨Bl,_⟩:=ah hw
 rw [zC,zC] at Bl
 have Wk:=E.top
 exact I2 E ot (fun i hi=>WJ i hi) (fun i hi hn=>(nB.rd i (vZ Bl.1.1 (by omega) hi hn)).1) (fun i hl hk=>nB.rd i (vY Bl.1.1 hl hk)) GA k' hf hR
theorem C2 {s:J.S} {Fc:Tr A} {hc:H} (E:rz J En ds F h) (k:oJ J lg En F h s Fc hc):nI h hc (jT J h.aR En):=⟨fun i hi=>(by cases hi),(qN E k).2.2⟩
theorem vp {σ:Type} {pj:Tr A→H→List Nat→Fp→Option σ} {k:σ→Option β} {K:KC β} {e:Exit} {T:Fp} (hr:wU pj k K e F h ds T=some r):(e = .normal∧∃s,pj F h ds T=some s∧k s=some r)∨(e≠.normal∧K e F h ds T=some r):=by
 unfold wU at hr
 split at hr
 ·split at hr
  ·rename_i s hs;exact .inl ⟨rfl,s,hs,hr⟩
  ·cases hr
 ·rename_i ki;exact .inr ⟨ki,hr⟩
theorem yh {inr:Bool} {n:Nat} {x:ay} {dr:Mq β} {E:Env} {cx:Cx} {K:KC β} {U:Fp} (hx:∀(F:Tr A) (h:H) (ds:List Nat) (U:Fp) (K:KC β),rZ E cx inr n dr x F h ds U K=some r→∃e F' h' i_ T,K e F' h' i_ (U.cat T)=some r∧Kp (mA x) F F'∧HA P inr n x.code F h ds e F' h' i_ T)
  (EO:rz J En ds F h) (hv:∀i,i∈J.ni.map (·.1)++J.grow.map (·.1)→i∈lg) (ha:∀i,i∈mA x→i∈lg):∀(m:Nat) (s:J.S),iter (fun k s=>Ax J lg En.bs En.cs En.da F h s (fun Fc hc=>rZ E cx inr n dr x Fc hc ds .no (wU (Bf J n h.aR En.bs En.cs En.qs En.da ds) k (A5 (U.cat (jT J h.aR En)) K)))) m s=some r →
  ∃Fc hc,oJ J lg En F h s Fc hc∧∃e F' h' i_ T,K e F' h' i_ (U.cat ((jT J h.aR En).cat T))=some r∧Kp lg F F'∧nI h h' ((jT J h.aR En).cat T) ∧
   ∀ro,(inr=false→ro=none)→∀S0 g0 w0,(∀i,h.aR≤i→i<cG→fH h.t i=none)→(∀o,h.aR≤o→o<cG→S0.fr o∧g0.bq o=none)→∀Q:Exit→St→Prop,Q e (fI n F' i_ (hp h'))→∀a w,R S0 g0 w0 (fI n Fc ds (hp hc)) a w→Code.roundsIn (FR ro) 0 P x.code (lift S0 g0 w0 Q) m a w
 | 0,s,hr=>by cases hr
 | m+1,s,hr=>by
  obtain ⟨Fc,hc,k1,k2⟩:=vu (show Ax J lg En.bs En.cs En.da F h s (fun Fc hc=>rZ E cx inr n dr x Fc hc ds .no (wU (Bf J n h.aR En.bs En.cs En.qs En.da ds) (iter (fun k s=>Ax J lg En.bs En.cs En.da F h s (fun Fc hc=>rZ E cx inr n dr x Fc hc ds .no (wU (Bf J n h.aR En.bs En.cs En.qs En.da ds) k (A5 (U.cat (jT J h.aR En)) K)))) m) (A5 (U.cat (jT J h.aR En)) K)))=some r from hr)
  obtain ⟨e1,F1,h1,mv,T1,k3,k4,k5,k6⟩:=hx Fc hc ds .no _ k1
  rw [Fp.o5] at k3
  refine ⟨Fc,hc,k2,?_⟩
  rcases vp k3 with ⟨rfl,s',q1,q2⟩ | ⟨ki,q1⟩
  ·obtain ⟨Mp,EX,u1,e,F',h',i_,T,u2,u3,u4,u5⟩:=yh hx EO hv ha m s' q2
   refine ⟨e,F',h',i_,T,u2,u3,u4,fun ro kU S0 g0 w0 ot hf Q hq a w hR=>?_⟩
   rw [roundsIn_succ]
   refine wpIn_mono (k6 ro kU S0 g0 w0 (hp hc) Agree.self (fun e st=>e = .normal∧st=fI n F1 mv (hp h1)) ⟨rfl,by rw [pZ k5]⟩ a w hR) ?_
   rintro e2 a2 w2 ⟨st,KZ,rfl,rfl⟩
   exact u5 ro kU S0 g0 w0 ot hf Q hq a2 w2 (Qs EO k2 u1 hv (k4.mono ha) k5 q1 ot hf KZ)
  ·refine ⟨e1,F1,h1,mv,T1,by rw [←Fp.jN];exact q1,(w7 k2 hv).trans k4 (fun i hi=>hi) ha,(C2 EO k2).trans k5,fun ro kU S0 g0 w0 ot hf Q hq a w hR=>?_⟩
   rw [roundsIn_succ]
   refine wpIn_mono (k6 ro kU S0 g0 w0 (hp hc) Agree.self (fun e st=>e=e1∧st=fI n F1 mv (hp h1)) ⟨rfl,by rw [pZ k5]⟩ a w hR) ?_
   rintro e2 a2 w2 ⟨st,KZ,rfl,rfl⟩
   have hl:lift S0 g0 w0 Q e2 a2 w2:=⟨_,KZ,hq⟩
   cases e2 with
   | normal=>exact absurd rfl ki
   | _=>exact hl
end
theorem Bz {inr:Bool} {n:Nat} {x:ay} {dr:Mq β} {E:Env} {cx:Cx} {K:KC β} {r:β} (hx:∀(F:Tr A) (h:H) (ds:List Nat) (U:Fp) (K:KC β),rZ E cx inr n dr x F h ds U K=some r→∃e F' h' i_ T,K e F' h' i_ (U.cat T)=some r∧Kp (mA x) F F'∧HA P inr n x.code F h ds e F' h' i_ T) :
  ∀(m:Nat) (F:Tr A) (h:H) (ds:List Nat) (U:Fp),Nat.rec (motive:=fun _=>Tr A→H→List Nat→Fp→Option β) (fun _ _ _ _=>none) (fun _ ih F h ds U=>rZ E cx inr n dr x F h ds U (JU ih K)) m F h ds U=some r →
  ∃e F' h' i_ T,K e F' h' i_ (U.cat T)=some r∧Kp (mA x) F F'∧nI h h' T∧∀ro,(inr=false→ro=none)→∀S0 g0 w0 S2,Agree T (hp h) S2→∀Q:Exit→St→Prop,Q e (fI n F' i_ (iU T (hp h') S2))→∀a w,R S0 g0 w0 (fI n F ds S2) a w→Code.roundsIn (FR ro) 0 P x.code (lift S0 g0 w0 Q) m a w
 | 0,F,h,ds,U,hr=>by cases hr
 | m+1,F,h,ds,U,hr=>by
  obtain ⟨e1,F1,h1,mv,T1,k1,kp,k2,k3⟩:=hx F h ds U _ hr
  by_cases ki:e1 = .normal
  ·subst ki
   obtain ⟨e,F2,h2,yM,T2,q1,qp,q2,q3⟩:=Bz hx m F1 h1 mv _ k1
   refine ⟨e,F2,h2,yM,T1.cat T2,by rw [←Fp.jN];exact q1,kp.trans qp (fun i hi=>hi) (fun i hi=>hi),k2.trans q2,fun ro kU S0 g0 w0 S2 hA Q hq a w hR=>?_⟩
   rw [roundsIn_succ]
   refine wpIn_mono (k3 ro kU S0 g0 w0 S2 hA.left (fun e st=>e = .normal∧st=fI n F1 mv (iU T1 (hp h1) S2)) ⟨rfl,rfl⟩ a w hR) ?_
   rintro e2 a2 w2 ⟨st,KZ,rfl,rfl⟩
   exact q3 ro kU S0 g0 w0 _ (Agree.right k2 hA) Q (by rw [gW q2];exact hq) a2 w2 KZ
  ·have k4:K e1 F1 h1 mv (U.cat T1)=some r:=by
    cases e1 with
    | normal=>exact absurd rfl ki
    | _=>exact k1
   refine ⟨e1,F1,h1,mv,T1,k4,kp,k2,fun ro kU S0 g0 w0 S2 hA Q hq a w hR=>?_⟩
   rw [roundsIn_succ]
   refine wpIn_mono (k3 ro kU S0 g0 w0 S2 hA (fun e st=>e=e1∧st=fI n F1 mv (iU T1 (hp h1) S2)) ⟨rfl,rfl⟩ a w hR) ?_
   rintro e2 a2 w2 ⟨st,KZ,rfl,rfl⟩
   have hl:lift S0 g0 w0 Q e2 a2 w2:=⟨_,KZ,hq⟩
   cases e2 with
   | normal=>exact absurd rfl ki
   | _=>exact hl
theorem Lk {l:List Oper} {x:Nat×Nat×Nat} (h:Mk l=some x):∃o1 o2 c,l=[o1,o2]∧o1.op = .move (.tmp x.1)∧o1.dst=some x.2.1∧o1.guard=none∧o2.op = .defer c∧o2.guard=none∧o2.dst=none∧c.callee = .value (.func x.2.2)∧c.args.toList=[.tmp x.2.1]:=by
 unfold Mk at h
 split at h
 ·rename_i o1 o2
  split at h
  ·rename_i s a c e1 e2 e3 e4 e5 e6
   split at h
   ·rename_i f b e7 e8
    obtain ⟨e9,h⟩:=ah h
    have e9:=beq_eq e9
    cases h
    exact ⟨o1,o2,c,rfl,e1,e2,e3,e4,e5,e6,e7,by rw [e8,e9]⟩
   ·cases h
  ·cases h
 ·cases h
theorem Ll {P:Program} {n:Nat} (id:Nat) {ops:List Oper} {x:Nat×Nat×Nat} {F:Tr A} {h:H} {ds:List Nat} {U:Fp} {K:Tr A→H→List Nat→Fp→Option β} {r:β} (hd:Mk ops=some x) (hr:UF n x F h ds U K=some r) :
  ∃F' i_,K F' h i_ U=some r∧Kp (pU ops) F F'∧∀S0 g0 w0 Q S2,Q .normal (fI n F' i_ S2)→pw P none S0 g0 w0 (.region id ops.toArray false) Q (fI n F ds S2):=by
 obtain ⟨s,a,f⟩:=x
 obtain ⟨o1,o2,c,rfl,e1,e2,e3,e4,e5,e6,e7,e8⟩:=Lk hd
 simp only at e1 e2 e7 e8
 unfold UF at hr
 simp only at hr
 split at hr
 ·rename_i q off hs
  obtain ⟨hq,KI⟩:=ah hr
  clear hr
  simp only [zC] at hq
  have h0:=beq_eq hq.1.1.1
  have hq0:=bb hq.1.1.2
  have ET:=bb hq.1.2
  have han:=bb hq.2
  subst h0
  obtain ⟨_,F1,hr,C6⟩:=bu KI
  have pQ:∀S2:Hp,(fI n F ds S2).put (some a) (.ptr q 0)=fI n F1 ds S2:=fun S2=>by
   simp only [St.put,fI]
   congr 1
   funext i
   simp only [bl,C6]
   by_cases hi:i=a
   ·rw [if_pos hi,if_pos hi]
   ·rw [if_neg hi,if_neg hi]
  refine ⟨F1,_,hr,?_,fun S0 g0 w0 Q S2 hQ=>sn (uW (pv:=.ptr q 0) (S':=S2) 0 e3 ?_ ?_)⟩
  ·intro i hi
   have hi:i≠a:=fun hh=>hi (by subst hh;simp [pU,e2,e6])
   simp only [bl,C6,if_neg hi]
  ·have e:(fI n F ds S2).uA 0 (.tmp s) = .ptr q 0:=(show (if s<n then bl F.get s else A.cF)=_ from (if_pos ET).trans hs)
   have:=vd (P:=P) (S:=S2) (ρ:=(fI n F ds S2).uA 0) e1
   rw [e] at this
   exact this.I6 (by rw [e1];intro c e;cases e)
  ·intro act w hR
   rw [e2,pQ] at hR
   have hR:R S0 g0 w0 (fI n F1 ds S2) act w:=hR
   obtain ⟨g,h0,h1,h2,h3,h4⟩:=hR
   refine wpListIn_plain e5 (fun K hK=>⟨fun _ _=>trivial,?_⟩)
   have hv:=h4 a (show a<n from han)
   have hv:V g (bl F1.get a) (act.tmps.getD a undef):=hv
   rw [show bl F1.get a = .ptr q 0 by simp only [bl,C6,if_pos]] at hv
   have eQ:(Oper.semAt (FR none).round act.eval o2).run P w = .ok (.defer (xw (q+16777216*(f+1)) (act.tmps.getD a undef))) w:=by
    show (execOp act.eval o2).run P w=_
    have ed:(q+16777216*(f+1)) / 16777216-1=f:=by omega
    obtain ⟨Ea,args,tys⟩:=c
    simp only at e7 e8
    subst e7
    have ea:args = #[.tmp a]:=by apply Array.ext';simpa using e8
    subst ea
    simp [execOp,e4,resolve,xw,ed,Act.eval,Deferred.ofValue]
   rw [eQ]
   refine hK _ _ ?_
   rw [e6]
   refine ⟨fI n F1 ((q+16777216*(f+1))::ds) S2,⟨g,h0,h1,⟨?_,fun i d e k1 k2=>?_⟩,h3,h4⟩,hQ⟩
   ·have:=h2.1;simp only [fI,Act.put,zR] at this ⊢;omega
   ·cases i with
    | zero=>
     simp [fI,Act.put] at k1 k2
     subst k1 k2
     refine ⟨fun hd=>absurd hd (by omega),fun _=>⟨_,?_,rfl⟩⟩
     rw [show (q+16777216*(f+1))%16777216=q by omega]
     simpa using hv
    | succ i=>exact h2.2 i d e (by simpa [fI] using k1) (by simpa [Act.put] using k2)
 ·cases hr
theorem iL {inr:Bool} {dr:Mq β} (hE:bW P E) (hx:ld P cx) (rW:Bb P n dr):∀(c:ay) (F:Tr A) (h:H) (ds:List Nat) (U:Fp) (K:KC β),rZ E cx inr n dr c F h ds U K=some r →
  ∃e F' h' i_ T,K e F' h' i_ (U.cat T)=some r∧Kp (mA c) F F'∧HA P inr n c.code F h ds e F' h' i_ T
 | .skip,F,h,ds,U,K,hr=>⟨.normal,F,h,ds,.no,by rw [Fp.rk];exact hr,.refl _ F,.refl h,fun ro kU S0 g0 w0 S2 hA Q hq=>by rw [qH] at hq;exact Fx hq⟩
 | .ret,F,h,ds,U,K,hr=>⟨.ret,F,h,ds,.no,by rw [Fp.rk];exact hr,.refl _ F,.refl h,fun ro kU S0 g0 w0 S2 hA Q hq=>by rw [qH] at hq;exact J4 hq⟩
 | .exit id,F,h,ds,U,K,hr=>⟨.exit id,F,h,ds,.no,by rw [Fp.rk];exact hr,.refl _ F,.refl h,fun ro kU S0 g0 w0 S2 hA Q hq=>by rw [qH] at hq;exact Fy hq⟩
 | .bad _,F,h,ds,U,K,hr=>by cases hr
 | .region id ops d,F,h,ds,U,K,hr=>by
  cases d with
  | true=>
   obtain ⟨F',h',T,k1,kp,k2⟩:=rW id ops F h U _ r hr
   exact ⟨.normal,F',h',ds,T,k1,kp,k2 inr ds⟩
  | false=>
   have hr:(match Mk ops with
    | some x=>bif inr then none else UF n x F h ds U (fun F h ds U=>K .normal F h ds U)
    | none=>uR E cx n ops ops F h U (fun F h U=>K .normal F h ds U))=some r:=hr
   cases W1:Mk ops with
   | some x=>
    rw [W1] at hr
    cases inr with
    | true=>cases hr
    | false=>
     obtain ⟨F',i_,k1,kp,k3⟩:=Ll (P:=P) id W1 hr
     exact ⟨.normal,F',h,i_,.no,by rw [Fp.rk];exact k1,kp,.refl h,fun ro kU S0 g0 w0 S2 hA Q hq=>by
      rw [qH] at hq
      obtain rfl:=kU rfl
      exact k3 S0 g0 w0 Q S2 hq⟩
   | none=>
   rw [W1] at hr
   obtain ⟨F',h',T,k1,kp,k2,k3⟩:=sY hE hx ops F h U _ hr
   exact ⟨.normal,F',h',ds,T,k1,kp,k2,fun ro kU S0 g0 w0 S2 hA Q hq=>sn (k3 ro S0 g0 w0 ds S2 hA Q hq)⟩
 | .seq x y,F,h,ds,U,K,hr=>by
  obtain ⟨e,F1,h1,mv,T1,k1,kp,k2,k3⟩:=iL hE hx rW x F h ds U _ hr
  cases e with
  | normal=>
   obtain ⟨e,F2,h2,yM,T2,q1,qp,q2,q3⟩:=iL hE hx rW y F1 h1 mv _ K k1
   refine ⟨e,F2,h2,yM,T1.cat T2,by rw [←Fp.jN];exact q1,kp.trans qp (fun i hi=>zQ _ hi) (fun i hi=>zS _ hi),k2.trans q2,fun ro kU S0 g0 w0 S2 hA Q hq=>?_⟩
   refine s_ (k3 ro kU S0 g0 w0 S2 hA.left _ ?_)
   refine q3 ro kU S0 g0 w0 _ (Agree.right k2 hA) Q ?_
   rw [gW q2];exact hq
  | _=>exact ⟨_,F1,h1,mv,T1,k1,kp.mono (fun i hi=>zQ _ hi),k2,fun ro kU S0 g0 w0 S2 hA Q hq=>s_ (k3 ro kU S0 g0 w0 S2 hA _ hq)⟩
 | .cut J x y,F,h,ds,U,K,hr=>by
  have hr:(match G6 J F h with | some e=>_ | none=>none)=some r:=hr
  split at hr
  ·rename_i En Q3
   obtain ⟨ho,hr⟩:=ah hr
   have EO:=vT ho
   have hv:∀i,i∈J.ni.map (·.1)++J.grow.map (·.1)→i∈mA x++(J.ni.map (·.1)++J.grow.map (·.1)):=fun i hi=>zS _ hi
   obtain ⟨e1,F1,h1,mv,T1,k1,kp,k2,k3⟩:=iL hE hx rW x F h ds .no _ (show rZ E cx inr n dr x F h ds .no _=some r from (gH _ _).symm.trans hr)
   rw [Fp.o5] at k1
   rcases vp k1 with ⟨rfl,s,q1,q2⟩ | ⟨ki,q1⟩
   ·obtain ⟨Fc,hc,u1,u2⟩:=vu q2
    obtain ⟨e,F2,h2,yM,T2,u3,u4,u5,u6⟩:=iL hE hx rW y Fc hc ds .no _ u1
    rw [Fp.o5] at u3
    have u3:K e F2 h2 yM ((U.cat (jT J h.aR En)).cat T2)=some r:=u3
    refine ⟨e,F2,h2,yM,(jT J h.aR En).cat T2,by rw [←Fp.jN];exact u3,(w7 u2 hv).trans u4 (fun i hi=>zQ _ hi) (fun i hi=>zS _ hi),(C2 EO u2).trans u5,fun ro kU S0 g0 w0 S2 hA Q hq=>?_⟩
    obtain ⟨l,m,w,ej⟩:=CZ J h.aR En T2
    rw [ej] at hA hq
    rw [x6] at hq
    rw [all_eq hA]
    intro a w hR
    obtain ⟨ot,hf⟩:=hR.entry
    refine s_ (k3 ro kU S0 g0 w0 (hp h) Agree.self _ ?_) a w hR
    rw [pZ k2]
    intro a1 w1 W_
    refine u6 ro kU S0 g0 w0 (hp hc) Agree.self Q ?_ a1 w1 (Ju EO u2 (kp.mono (fun i hi=>zQ _ hi)) k2 q1 ot hf W_)
    rw [pZ u5];exact hq
   ·refine ⟨e1,F1,h1,mv,T1,q1,kp.mono (fun i hi=>zQ _ (zQ _ hi)),k2,fun ro kU S0 g0 w0 S2 hA Q hq=>s_ (k3 ro kU S0 g0 w0 S2 hA _ ?_)⟩
    cases e1 with
    | normal=>exact absurd rfl ki
    | _=>exact hq
  ·cases hr
 | .cond c x y,F,h,ds,U,K,hr=>by
  obtain ⟨F1,b,k1,k2,k3⟩:=Hd hr
  cases b with
  | true=>
   obtain ⟨e,F2,h2,yM,T2,q1,qp,q2,q3⟩:=iL hE hx rW x F1 h ds U K k1
   refine ⟨e,F2,h2,yM,T2,q1,(Kp.of (l:=[]) k2).trans qp (fun i hi=>by cases hi) (fun i hi=>zQ _ hi),q2,fun ro kU S0 g0 w0 S2 hA Q hq=>?_⟩
   refine xY (b:=true) (by rw [←oZ];exact k3) (fun _=>?_) (fun h=>by cases h)
   rw [←k2]
   exact q3 ro kU S0 g0 w0 S2 hA Q hq
  | false=>
   obtain ⟨e,F2,h2,yM,T2,q1,qp,q2,q3⟩:=iL hE hx rW y F1 h ds U K k1
   refine ⟨e,F2,h2,yM,T2,q1,(Kp.of (l:=[]) k2).trans qp (fun i hi=>by cases hi) (fun i hi=>zS _ hi),q2,fun ro kU S0 g0 w0 S2 hA Q hq=>?_⟩
   refine xY (b:=false) (by rw [←oZ];exact k3) (fun h=>by cases h) (fun _=>?_)
   rw [←k2]
   exact q3 ro kU S0 g0 w0 S2 hA Q hq
 | .block id x,F,h,ds,U,K,hr=>by
  obtain ⟨e,F1,h1,mv,T1,k1,kp,k2,k3⟩:=iL hE hx rW x F h ds U _ hr
  cases e with
  | exit i=>
   have kk:(bif Nat.beq i id then K .normal F1 h1 mv (U.cat T1) else K (.exit i) F1 h1 mv (U.cat T1))=some r:=k1
   cases hb:Nat.beq i id with
   | true=>
    rw [hb] at kk
    obtain rfl:=beq_eq hb
    refine ⟨.normal,F1,h1,mv,T1,kk,kp,k2,fun ro kU S0 g0 w0 S2 hA Q hq=>qE (k3 ro kU S0 g0 w0 S2 hA _ ?_)⟩
    show (if i=i then Q .normal _ else _)
    rw [if_pos rfl];exact hq
   | false=>
    rw [hb] at kk
    refine ⟨.exit i,F1,h1,mv,T1,kk,kp,k2,fun ro kU S0 g0 w0 S2 hA Q hq=>qE (k3 ro kU S0 g0 w0 S2 hA _ ?_)⟩
    show (if i=id then _ else Q (.exit i) _)
    rw [if_neg (fun e=>by rw [e,Nat.beq_refl] at hb;cases hb)];exact hq
  | _=>exact ⟨_,F1,h1,mv,T1,k1,kp,k2,fun ro kU S0 g0 w0 S2 hA Q hq=>qE (k3 ro kU S0 g0 w0 S2 hA _ hq)⟩
 | .loop J x,F,h,ds,U,K,hr=>by
  have hr:(match xN J with | some m=>_ | none=>(match G6 J F h with | some e=>_ | none=>none))=some r:=hr
  split at hr
  ·rename_i m _
   obtain ⟨e,F',h',i_,T,u2,u3,u4,u5⟩:=Bz (P:=P) (fun F h ds U K hr=>iL hE hx rW x F h ds U K hr) m F h ds U hr
   exact ⟨e,F',h',i_,T,u2,u3.mono (fun i hi=>zQ _ hi),u4,fun ro kU S0 g0 w0 S2 hA Q hq a w hR=>wpIn_loop_rounds m (u5 ro kU S0 g0 w0 S2 hA Q hq a w hR)⟩
  split at hr
  ·rename_i En Q3
   obtain ⟨ho,hr⟩:=ah hr
   split at hr
   ·rename_i s0 hs0
    have EO:=vT ho
    have hv:∀i,i∈J.ni.map (·.1)++J.grow.map (·.1)→i∈mA x++(J.ni.map (·.1)++J.grow.map (·.1)):=fun i hi=>zS _ hi
    obtain ⟨Fc,hc,u1,e,F',h',i_,T,u2,u3,u4,u5⟩:=yh (P:=P) (fun F h ds U K hr=>iL hE hx rW x F h ds U K hr) EO hv (fun i hi=>zQ _ hi) lQ s0 ((qa _ _).symm.trans hr)
    refine ⟨e,F',h',i_,_,u2,u3,u4,fun ro kU S0 g0 w0 S2 hA Q hq=>?_⟩
    obtain ⟨l,m,w,ej⟩:=CZ J h.aR En T
    rw [ej] at hA hq
    rw [x6] at hq
    rw [all_eq hA]
    intro a w hR
    obtain ⟨ot,hf⟩:=hR.entry
    exact wpIn_loop_rounds lQ (u5 ro kU S0 g0 w0 ot hf Q hq a w (Ju (T1:=.no) EO u1 (.refl _ F) (.refl h) hs0 ot hf hR))
   ·cases hr
  ·cases hr
 | .range g ps J aa bd,F,h,ds,U,K,hr=>by
  have hr:(bif inr then none else _)=some r:=hr
  obtain ⟨WU,hr⟩:=jb hr
  split at hr
  ·rename_i f fi ca hf
   obtain ⟨hn,hr⟩:=ah hr
   have hn:=bb hn
   obtain ⟨_,t1,hr,QH⟩:=bu hr
   obtain ⟨_,t2,hr,Wl⟩:=bu hr
   obtain ⟨pv,h3,T3,hr,k2⟩:=hx.call β f _ _ _ r hr
   split at hr
   ·rename_i st pe h3q
    obtain ⟨hb,hr⟩:=jb hr
    obtain ⟨_,t4,hr,ht4⟩:=bu hr
    split at hr
    ·rename_i e hj
     obtain ⟨f1,v1⟩:=yf (h:=h) (x:=.cL .yN) (by omega) QH
     obtain ⟨f2,v2⟩:=yf (h:={ h with t:=t1,aR:=h.aR+1 }) (x:=.cL (.loop .ready none)) (show h.aR+1<16777216 by omega) Wl
     have f3:nI { h with t:=t2,aR:=h.aR+1+1 } h3 T3:=⟨k2.out,k2.rd⟩
     obtain ⟨f4,v4⟩:=yO (h:=h3) (q:=h.aR+1) (by omega) ht4
     have f12:=f1.trans f2
     have f34:=f3.trans f4
     refine ⟨e,F,{ h3 with t:=t4 },h.aR::ds,_,hr,.refl _ F,f12.trans f34,fun ro kU S0 g0 w0 S2 hA Q hq=>?_⟩
     obtain rfl:=kU WU
     have Dv:=hA.left
     have xg:=Agree.right f12 hA
     rw [←gW f34,←gW f4] at hq
     rw [←gW f2] at xg hq
     have A1:=Dv.left
     have A2:=Agree.right f1 Dv
     have A3:=xg.left
     have A4:=Agree.right f3 xg
     have GH:S2.fr h.aR:=(A1 h.aR (aB (o:=h.aR) (by omega) (.head _))).2.2 (by show (if h.aR<cG then h.aR≤h.aR else _);rw [if_pos (show h.aR<cG by unfold cG;omega)];exact Nat.le_refl _)
     have QW:(iU (.wr [du h.aR]) (hp { h with t:=t1,aR:=h.aR+1 }) S2).fr (h.aR+1):=(A2 (h.aR+1) (aB (o:=h.aR+1) (by omega) (.head _))).2.2 (by show (if h.aR+1<cG then h.aR+1≤h.aR+1 else _);rw [if_pos (show h.aR+1<cG by unfold cG;omega)];exact Nat.le_refl _)
     have vB:=yY (x:=.cL (.loop st pe)) (by omega) h3q A4 (.head _)
     rw [v2 _ A2] at A3 A4 vB hq
     rw [v4 _ A4] at hq
     rw [v1 _ A1] at QW A3 A4 vB hq
     rintro a w ⟨gg,hI,hxx,hd,hs,hv⟩
     have hI:Inv gg S2 w:=hI
     have hs:a.tmps.size=n:=hs
     refine wpIn_rangeFunc (fun fn _=>?_)
     obtain ⟨i1,x1⟩:=hI.alloc (s:=(0,0)) GH (x:=.cL .yN) (ob:=.deferred (some [])) ⟨_,heap_alloc_new w _,rfl⟩
     have q1:=cl (g:=gg) (o:=h.aR) (p:=(some w.heap.size,(0,0)))
     generalize jE gg h.aR (some w.heap.size,(0,0))=g1 at i1 x1 q1
     obtain ⟨rr,C7⟩:∃rr:Loop,rr={ state:=.ready,pending:=none,fn,tmps:=a.tmps,params:=ps.toArray,assign:=aa.code,body:=bd.code,defers:=w.heap.size }:=⟨_,rfl⟩
     obtain ⟨g2,i2,x2,q2,l2⟩:=i1.Qo QW rr
     have oP:(w.alloc (.deferred (some []))).heap.size=w.heap.size+1:=Array.size_push _
     rw [oP] at q2 l2
     have hu:=wb (st:=fI n F ds S2) hs hv 0 g
     rw [←oZ,hf] at hu
     generalize hev:a.eval g=u at hu
     cases hu with
     | fn _ _ _ fv cv KR Mg h1 h2=>
     obtain ⟨w1,Jf⟩:∃w1,w1=(w.alloc (.deferred (some []))).alloc (.loop rr):=⟨_,rfl⟩
     rw [←Jf] at i2 x2
     rw [show rr.state = .ready by rw [C7],show rr.pending=none by rw [C7]] at i2 x2
     refine ⟨w.heap.size+1,[{ target:=.collected w.heap.size,args:=#[] }],w1,{ target:=.fn (.func f) cv,args:=fv ++ #[.func (.yield (w.heap.size+1)) #[] #[]] },w1,f,(fv.toList ++ .func (.yield (w.heap.size+1)) #[] #[]::cv.toList).toArray,w1,?_,?_,fun f' _=>trivial,?_,fun h=>by simp [FR,Fence.wide] at h,rm ?_⟩
     ·rw [Jf,C7];exact run_enterLoop_outer fn a.tmps ps.toArray aa.code bd.code
     ·simp only [resolve,hev,Deferred.ofValue,Sem.run_pure]
      congr 3
      simp [Act.eval]
     ·have h2:=k2.fn.run ((fv.toList ++ .func (.yield (w.heap.size+1)) #[] #[]::cv.toList).toArray) w1
      simp only [invoke]
      rw [show fv ++ #[.func (.yield (w.heap.size+1)) #[] #[]]++cv=(fv.toList ++ .func (.yield (w.heap.size+1)) #[] #[]::cv.toList).toArray by apply Array.ext';simp]
      exact h2
     ·have hle:=x1.le.trans x2.le
      refine (k2.ok _ A3 g2 w1 (fv.toList ++ .func (.yield (w.heap.size+1)) #[] #[]::cv.toList) i2 (by simp [KR,Mg]) (Qt (by simp [KR]) (fun i c x e1 e2=>(h1 i c x e1 (by simpa using e2)).mono hle)
       (.rA _ n F ps J aa bd _ _ _ q2 l2 (by rw [C7];rfl) (by rw [C7];rfl) (by rw [C7];rfl) (by rw [C7];exact hs) (fun i hi=>by rw [C7];exact (hv i hi).mono hle)) (fun i c x e1 e2=>(h2 i c x e1 (by simpa using e2)).mono hle))).mono ?_
      rintro e1 w3 ⟨v,g3,rfl,_,i3,x3⟩
      obtain ⟨b3,s3,ob3,k1,oO,k3⟩:=i3.cL (h.aR+1) _ vB
      have hb3:=x3.le.bq _ _ q2
      rw [k1] at hb3
      obtain ⟨rfl,rfl⟩:b3=w.heap.size+1∧s3=(0,0):=by simpa using hb3
      obtain ⟨r3,rfl,r1,r2⟩:=k3
      have xe:=run_endLoop (P:=P) oO (by rw [r1];intro hh;rw [hh] at hb;cases hb)
      obtain ⟨i4,x4⟩:=i3.BT (zc:=.exhausted) (J6:=r3.pending) vB k1 oO
      have vE:∀(S:Hp) o ob,(S.del (h.aR+1)).ob o=some ob→(S.set (h.aR+1) (.cL (.loop .exhausted r3.pending))).ob o=some ob:=fun S o ob e=>by
       have e:(if o=h.aR+1 then none else S.ob o)=some ob:=e
       show (if o=h.aR+1 then _ else S.ob o)=some ob
       by_cases ho:o=h.aR+1
       ·rw [if_pos ho] at e;cases e
       ·rw [if_neg ho] at e;rw [if_neg ho];exact e
      have i4:=i4.less (vE _) (fun _ e=>e)
      have x4:=x4.trans (Ext.less (vE _) (fun _ e=>e))
      have w9:=((x1.trans (Jf▸x2)).trans x3).trans x4
      have hR:∀S5,Inv g3 S5 (w3.putObj (w.heap.size+1) (.loop { r3 with state:=.exhausted,pending:=r3.pending }))→Ext S2 gg w S5 g3 (w3.putObj (w.heap.size+1) (.loop { r3 with state:=.exhausted,pending:=r3.pending }))→R S0 g0 w0 (fI n F (h.aR::ds) S5) { a with defers:=[{ target:=.collected w.heap.size,args:=#[] }]++a.defers } (w3.putObj (w.heap.size+1) (.loop { r3 with state:=.exhausted,pending:=r3.pending })):=by
       intro S5 i4 w9
       refine ⟨g3,i4,hxx.trans w9,⟨by have:=hd.1;simp [fI] at this ⊢;exact this,fun i d el e1 e2=>?_⟩,hs,fun i hi=>(hv i hi).mono w9.le⟩
       cases i with
       | zero=>
        simp [fI] at e1 e2;subst e1 e2
        exact ⟨fun _=>⟨w.heap.size,(0,0),(x2.le.trans x3.le).bq _ _ q1,rfl⟩,fun hd=>absurd hd (by omega)⟩
       | succ i=>exact (hd.mono w9.le).2 i d el (by simpa [fI] using e1) (by simpa using e2)
      have hR:=hR _ i4 w9
      have xe:(Instr.endLoop (w.heap.size+1)).run P w3 = .ok r3.pending (w3.putObj (w.heap.size+1) (.loop { r3 with state:=.exhausted,pending:=r3.pending })):=xe
      generalize w3.putObj (w.heap.size+1) (.loop { r3 with state:=.exhausted,pending:=r3.pending })=w4 at hR xe
      refine ⟨r3.pending,_,xe,?_⟩
      rw [r2]
      rcases CV hj with ⟨h5,h6⟩ | ⟨h5,h6⟩ | ⟨id,h5,h6⟩
      ·rw [h6] at hq;rw [h5];exact ⟨_,hR,hq⟩
      ·rw [h6] at hq;rw [h5];exact wpIn_ret ⟨_,hR,hq⟩
      ·rw [h6] at hq;rw [h5];exact wpIn_exit ⟨_,hR,hq⟩
    ·cases hr
   ·cases hr
  ·cases hr
end
end
section
open Go.RowKit
abbrev JK:=(β:Type)→Mq β
def sK:Nat→List A→Option (Tr A)
 | _,[]=>some .nil
 | i,p::ps=>match sK (i+1) ps with
  | some F=>Mi p (fun p=>ff F i (some p) some)
  | none=>none
def rI {β:Type} (E:Env) (n:Nat) (F:Tr A) (h:H):List ResultVar→(List A→List Nat→Option β)→Option β
 | [],k=>k [] []
 | .tmp i::r,k=>bif Nat.blt i n then rI E n F h r (fun ps l=>k (bl F.get i::ps) l) else none
 | .cell a T::r,k=>bif Nat.blt a n then Kw E T (bl F.get a) h (fun v _ T1=>rI E n F h r (fun ps l=>k (v::ps) (T1.rs++l))) else none
def vW {β:Type}:Tr gy→List Nat→(Tr gy→Option β)→Option β
 | t,[],k=>k t
 | t,d::ds,k=>match t.get d with
  | some (.cL .yN)=>bif Nat.blt d 16777216 then ff t d none (fun t=>vW t ds k) else none
  | _=>none
def yn:Exit→Bool
 | .normal=>true
 | .ret=>true
 | _=>false
abbrev FT:=Nat→Option (Func×ay)
structure aO (P:Program) (f:Nat) (fn:Func) (x:ay):Prop where
 bq:P.funcs[f]?=some fn
 body:fn.body=some x.code
 name : (fn.name == "runtime.NumGoroutine") = false
def wk (P:Program) (fns:FT):Prop:=∀f fn x,fns f=some (fn,x)→aO P f fn x
def Lj (E:Env) (fns:FT) (dr:Cx→Nat→JK) (cx:Cx) {β:Type} (fn:Func) (F:Tr A) (h:H) (ds:List Nat) (U:Fp) (K:A→H→Fp→Option β):Option β:=match ds with
 | []=>rI E fn.ntmps F h fn.results.toList (fun ps l=>K (wM ps) h (U.cat (.rd l)))
 | [d]=>bif Nat.ble 16777216 d then (match fns (d / 16777216-1) with
  | some (gn,x)=>match sK 0 [.ptr (d%16777216) 0],fn.results.toList,gn.results.toList with
   | some G,[],[]=>bif Nat.ble 1 gn.ntmps then rZ E cx false gn.ntmps (dr cx gn.ntmps β) x G h [] U (fun e _ h' i_ U'=>bif yn e && i_.isEmpty then K (wM []) h' U' else none) else none
   | _,_,_=>none
  | none=>none) else vW h.t [d] (fun t'=>rI E fn.ntmps F { h with t:=t' } fn.results.toList (fun ps l=>K (wM ps) { h with t:=t' } ((U.cat (.wr ([d].map du))).cat (.rd l))))
 | ds=>vW h.t ds (fun t'=>rI E fn.ntmps F { h with t:=t' } fn.results.toList (fun ps l=>K (wM ps) { h with t:=t' } ((U.cat (.wr (ds.map du))).cat (.rd l))))
def Xi (E:Env) (fns:FT) (dr:Cx→Nat→JK) (cx:Cx) (β:Type) (f:FuncId) (aa:List A) (h:H) (K:A→H→Fp→Option β):Option β:=match fns f with
 | some (fn,x)=>match sK 0 aa with
  | some F=>bif Nat.ble aa.length fn.ntmps then rZ E cx false fn.ntmps (dr cx fn.ntmps β) x F h [] .no (fun e F' h' ds U=>bif yn e then Lj E fns dr cx fn F' h' ds U K else none) else none
  | none=>none
 | none=>none
def JY (E:Env) (dr:Cx→Nat→JK) (cx:Cx) (β:Type) (y:A) (aa:List A) (h:H) (K:A→H→Fp→Option β):Option β:=match y with
 | .rA q n F ps _ lg bd=>match h.t.get q with
  | some (.cL (.loop .ready _))=>bif Nat.blt q 16777216 then wI F ps aa (fun F1=>rZ E cx true n (dr cx n β) lg F1 h [] .no (fun e1 Fa ha mv T1=>match e1 with
   | .normal=>match ha.t.get q with
    | some (.cL (.loop .ready pe))=>ff ha.t q (some (.cL (.loop .busy pe))) (fun t2=>rZ E cx true n (dr cx n β) bd Fa { ha with t:=t2 } mv .no (fun e2 _ hb _ T2=>match hb.t.get q,P5 e2 with
     | some (.cL (.loop _ _)),some jump=>ff hb.t q (some (.cL (.loop (B4 jump) jump))) (fun t3=>K (.v (.bool jump.isNone)) { hb with t:=t3 } ((T1.cat (.wr [du q])).cat (T2.cat (.wr [du q]))))
     | _,_=>none))
    | _=>none
   | _=>none)) else none
  | _=>none
 | _=>none
def wD (E:Env) (fns:FT) (dr:Cx→Nat→JK) (hm:List (Nat×Nat)) (cx:Cx):Cx:=⟨Xi E fns dr cx,hm,JY E dr cx⟩
def Bs (hm:List (Nat×Nat)):Cx:=⟨fun _ _ _ _ _=>none,hm,fun _ _ _ _ _=>none⟩
section
variable {P:Program} {E:Env} {n:Nat}
theorem v_:∀(aa:List A) (i:Nat) (F:Tr A),sK i aa=some F→∀j,bl F.get j=if i≤j then aa.getD (j-i) .un else .un
 | [],i,F,h,j=>by
  cases h
  simp [bl,Tr.get_nil]
 | p::ps,i,F,h,j=>by
  simp only [sK] at h
  split at h
  ·rename_i F1 h1
   have ih:=v_ ps (i+1) F1 h1 j
   rw [xq] at h
   obtain ⟨_,F2,hF,hg⟩:=bu h
   cases hF
   have e:bl F.get j=if j=i then p else bl F1.get j:=by
    simp only [bl,hg]
    by_cases hj:j=i
    ·rw [if_pos hj,if_pos hj]
    ·rw [if_neg hj,if_neg hj]
   rw [e,ih]
   by_cases hj:j=i
   ·subst hj;simp
   ·rw [if_neg hj]
    by_cases hk:i≤j
    ·rw [if_pos hk,if_pos (by omega),show j-i=(j-(i+1))+1 by omega,List.getD_cons_succ]
    ·rw [if_neg hk,if_neg (by omega)]
  ·cases h
theorem CL {P:Program} {T:Nat} {u v:Value} {ad:Addr} {w w':World} {a:Act} {o:Oper} (ho:o.op = .load T (.const u)) (hu:u = .pointer (some ad)) (h:(execOp a.eval o).run P w = .ok (.value v) w'):(loadVar T ad).run P w = .ok v w':=by
 simp only [execOp,ho,Act.eval,hu,Instr.loadAt,Instr.sureAddr,pure_bind] at h
 simp only [Sem.run_bind] at h
 generalize (loadVar T ad).run P w=res at h
 cases res with
 | ok x w1=>
  simp only [Result.andThen_ok,Sem.run_pure,Result.ok.injEq,Next.value.injEq] at h
  obtain ⟨rfl,rfl⟩:=h
  rfl
 | halt x w1=>cases h
theorem Gl {β:Type} {E:Env} {T:Nat} {px:A} {h:H} {K:A→H→Fp→Option β} {r:β} (hr:Kw E T px h K=some r) {g:G} {u:Value} (hv:V g px u):∃ad,u = .pointer (some ad):=by
 unfold Kw at hr
 split at hr
 ·split at hr
  ·cases hv;exact ⟨_,rfl⟩
  ·cases hv;exact ⟨_,rfl⟩
  ·cases hv;exact ⟨_,rfl⟩
  ·cases hr
 ·cases hr
theorem pX {β:Type} {r:β} (hE:bW P E) {F:Tr A} {h:H}:∀(L3:List ResultVar) (k:List A→List Nat→Option β),rI E n F h L3 k=some r →
  ∃ps l,k ps l=some r∧∀S2,Agree (.rd l) (hp h) S2→∀(g:G) (w:World) (tmps:Array Value),Inv g S2 w→(∀i,i<n→V g (bl F.get i) (tmps.getD i undef)) →
   ∃vs:List Value,(L3.mapM (fun rv=>uO rv tmps)).run P w = .ok vs w∧ps.length=vs.length∧∀(i:Nat) (p:A) (v:Value),ps[i]?=some p→vs[i]?=some v→V g p v
 | [],k,hk=>⟨[],[],hk,fun S2 _ g w tmps _ _=>⟨[],rfl,rfl,by simp⟩⟩
 | .tmp i::L3,k,hk=>by
  simp only [rI] at hk
  obtain ⟨hi,hk⟩:=ah hk
  obtain ⟨ps,l,k1,k2⟩:=pX hE L3 _ hk
  refine ⟨_,l,k1,fun S2 hA g w tmps hI hv=>?_⟩
  obtain ⟨vs,q1,q2,q3⟩:=k2 S2 hA g w tmps hI hv
  refine ⟨tmps.getD i undef::vs,?_,by simp [q2],fun k q x e1 e2=>?_⟩
  ·have:(uO (.tmp i) tmps).run P w = .ok (tmps.getD i undef) w:=rfl
   rw [List.mapM_cons]
   simp only [Sem.run_bind,this,Result.andThen_ok]
   rw [q1]
   simp only [Result.andThen_ok,Sem.run_pure]
  ·cases k with
   | zero=>
    simp only [List.getElem?_cons_zero,zI] at e1 e2
    subst e1 e2
    exact hv i (bb hi)
   | succ k=>exact q3 k q x (by simpa using e1) (by simpa using e2)
 | .cell a T::L3,k,hk=>by
  simp only [rI] at hk
  obtain ⟨hi,hk⟩:=ah hk
  obtain ⟨v,l1,k0,kv⟩:=CM hE hk
  obtain ⟨ps,l,k1,k2⟩:=pX hE L3 _ k0
  refine ⟨_,_,k1,fun S2 hA g w tmps hI hv=>?_⟩
  have hA:Agree (.rd (l1++l)) (hp h) S2:=hA
  obtain ⟨vs,q1,q2,q3⟩:=k2 S2 (hA.mono fun i hi=>zS _ hi) g w tmps hI hv
  have hva:=hv a (bb hi)
  obtain ⟨ad,had⟩:=Gl hk hva
  obtain ⟨x, u1, u2⟩ := kv S2 (hA.mono fun i hi => zQ _ hi) { dst := none, op := .load T (.const (tmps.getD a undef)), type := 0, pos := "", after := #[], guard := none } (fun _ => bl F.get a) (.const (tmps.getD a undef)) rfl rfl g w { tmps := #[], defers := [] } hI (fun y hy => by
   simp only [Op.operands,Array.mem_singleton] at hy
   subst hy;exact hva)
  have eQ:(uO (.cell a T) tmps).run P w = .ok x w:=by
   have:=CL rfl had u1
   show (do loadVar T (←asAddr (tmps.getD a undef)):Sem Value).run P w=_
   rw [had]
   exact this
  refine ⟨x::vs,?_,by simp [q2],fun k q y e1 e2=>?_⟩
  ·rw [List.mapM_cons]
   simp only [Sem.run_bind,eQ,Result.andThen_ok]
   rw [q1]
   simp only [Result.andThen_ok,Sem.run_pure]
  ·cases k with
   | zero=>
    simp only [List.getElem?_cons_zero,zI] at e1 e2
    subst e1 e2
    exact u2
   | succ k=>exact q3 k q y (by simpa using e1) (by simpa using e2)
theorem Inv.drop {g:G} {S:Hp} {w:World} (h:Inv g S w) {d b:Nat} {s:Nat×Nat} (ho:S.ob d=some (.cL .yN)) (hg:g.bq d=some (some b,s)) :
  w.heap[b]?=some (.deferred (some []))∧Inv g (S.del d) (w.putObj b (.deferred none))∧Ext S g w (S.del d) g (w.putObj b (.deferred none)):=by
 obtain ⟨b1,s1,ob,k1,k2,k3⟩:=h.cL d _ ho
 rw [hg] at k1
 obtain ⟨rfl,rfl⟩:b=b1∧s=s1:=by simpa using k1
 have k3:ob = .deferred (some []):=k3
 subst k3
 have kB:∀{i x},(S.del d).ob i=some x→i≠d∧S.ob i=some x:=fun {i x} e=>by
  have e:(if i=d then none else S.ob i)=some x:=e
  split at e
  ·cases e
  ·exact ⟨by assumption,e⟩
 have Dc:∀k,k≠b→(w.putObj b (.deferred none)).heap[k]?=w.heap[k]?:=fun k ki=>World.putObj_heap_other ki
 refine ⟨k2,⟨fun i cs e=>?_,fun i x e=>?_,fun i e=>h.fresh i e,fun i b' s' e=>by rw [World.putObj_size];exact h.lt i b' s' e,fun i j x y b1 s1 s2 e1 e2=>h.inj i j _ _ b1 s1 s2 (kB e1).2 (kB e2).2,fun b' i x e=>?_,fun i b' s' j x e k=>h.lv i b' s' j _ (kB e).2 k,fun b' l e=>?_⟩,
  ⟨.refl g,rfl,rfl,rfl,by rw [World.putObj_size];exact Nat.le_refl _,fun k _ hn=>Dc k (fun hh=>hn ⟨d,s,_,ho,by rw [hh];exact hg⟩),fun k ⟨i,s',x,e1,e2⟩=>.inl ⟨i,s',x,(kB e1).2,e2⟩,fun _ _ e=>.inl e,fun _ e=>e,fun _ _ _ e=>.inl e,fun _ _ e=>.inl e⟩⟩
 ·obtain ⟨ki,e⟩:=kB e
  refine (h.cells i cs e).imp id fun ⟨b1,t,q1,cur,ty,q2,q3⟩=>⟨b1,t,q1,cur,ty,?_,q3⟩
  rw [Dc b1 (fun hb=>by subst hb;rw [k2] at q2;cases q2)];exact q2
 ·obtain ⟨ki,e⟩:=kB e
  obtain ⟨b1,s1,o1,q1,q2,q3⟩:=h.cL i x e
  exact ⟨b1,s1,o1,q1,by rw [Dc b1 (fun hb=>by subst hb;exact ki (h.inj i d _ _ b1 s1 s e ho q1 hg))];exact q2,q3⟩
 ·obtain ⟨cur,ty,fz,q1,q2⟩:=h.mem b' i x e
  exact ⟨cur,ty,fz,by rw [Dc b' (fun hb=>by subst hb;rw [k2] at q1;cases q1)];exact q1,q2⟩
 ·obtain ⟨r,q1,q2⟩:=h.lp b' l e
  exact ⟨r,by rw [Dc b' (fun hb=>by subst hb;rw [k2] at q1;cases q1)];exact q1,q2⟩
theorem vV {β:Type} {r:β} {h:H}:∀(ds:List Nat) (t:Tr gy) (k:Tr gy→Option β),vW t ds k=some r→∃t',k t'=some r∧nI { h with t:=t } { h with t:=t' } (.wr (ds.map du)) ∧
  ∀(fn:Func) (tmps:Array Value) (Rr:Ending→World→Prop) S2,Agree (.wr (ds.map du)) (hp { h with t:=t }) S2→∀(g:G) (w:World) (l:List Deferred),Inv g S2 w→nh g ds l →
   (∀w',Inv g (iU (.wr (ds.map du)) (hp { h with t:=t' }) S2) w'→Ext S2 g w (iU (.wr (ds.map du)) (hp { h with t:=t' }) S2) g w'→∃v,(results fn tmps).run P w' = .ok v w'∧Rr (.returned v) w')→LeavesInM (FR none) 0 P fn tmps Rr l .returning w
 | [],t,k,hk=>⟨t,hk,⟨fun _ _=>⟨rfl,Iff.rfl⟩,fun _ _=>⟨rfl,Iff.rfl⟩⟩,fun fn tmps Rr S2 hA g w l hI hd K=>by
  obtain rfl:l=[]:=List.length_eq_zero_iff.1 (by have:=hd.1;simpa using this.symm)
  have e:iU (.wr (List.map du [])) (hp { h with t:=t }) S2=S2:=l_ hA
  rw [e] at K
  exact K w hI (.refl _ g w)⟩
 | d::ds,t,k,hk=>by
  have hk:(match t.get d with | some (.cL .yN)=>_ | _=>none)=some r:=hk
  split at hk
  ·rename_i eY
   obtain ⟨Q1,hk⟩:=ah hk
   have Q1:=bb Q1
   obtain ⟨_,t1,k1,QH⟩:=bu hk
   obtain ⟨t',q1,q2,q3⟩:=vV (h:=h) ds t1 k k1
   obtain ⟨f1,v1⟩:=yO (h:={ h with t:=t }) Q1 QH
   have ec:(Fp.wr [du d]).cat (.wr (ds.map du)) = .wr ((d::ds).map du):=rfl
   have f1:nI { h with t:=t } { h with t:=t1 } (.wr [du d]):=f1
   refine ⟨t',q1,ec▸f1.trans q2,fun fn tmps Rr S2 hA g w l hI hd K=>?_⟩
   rw [←ec] at hA K
   rw [←gW q2] at K
   have A1:=hA.left
   have A2:=Agree.right f1 hA
   have v1:=v1 S2 A1
   have v1:iU (.wr [du d]) (hp { h with t:=t1 }) S2=S2.del d:=v1
   rw [v1] at A2 K
   cases l with
   | nil=>have:=hd.1;simp at this
   | cons el l=>
    obtain ⟨b,s,hg,rfl⟩:=(hd.2 0 d el rfl rfl).1 Q1
    obtain ⟨u1,u2,u3⟩:=hI.drop (yY (x:=.cL .yN) Q1 eY A1 (.head _)) hg
    refine ⟨by simp,.inl ⟨b,_,rfl,run_takeDeferred u1,?_⟩⟩
    exact q3 fn tmps Rr _ A2 g _ l u2 ⟨by have:=hd.1;simpa using this,fun i d el e1 e2=>hd.2 (i+1) d el (by simpa using e1) (by simpa using e2)⟩ (fun w' z1 z2=>K w' z1 (u3.trans z2))
  ·cases hk
theorem TA {g:G} {aa:List A} {vs:List Value} {F:Tr A} {N:Nat} (Xc:sK 0 aa=some F) (hl:aa.length=vs.length) (hn:aa.length≤N) (hv:∀(i:Nat) (p:A) (v:Value),aa[i]?=some p→vs[i]?=some v→V g p v) {S2:Hp} {w:World} (hI:Inv g S2 w) :
  R S2 g w (fI N F [] S2) { tmps:=vs.toArray++Array.replicate (N-vs.toArray.size) undef,defers:=[] } w:=by
 have oP:(vs.toArray++Array.replicate (N-vs.toArray.size) undef).size=N:=by simp;omega
 refine ⟨g,hI,.refl _ g w,⟨rfl,fun i d el e1=>by simp [fI] at e1⟩,oP,fun i hi=>?_⟩
 show V g (bl F.get i) ((vs.toArray++Array.replicate (N-vs.toArray.size) undef).getD i undef)
 rw [v_ aa 0 F Xc i,if_pos (Nat.zero_le i),Nat.sub_zero,Array.getD_eq_getD_getElem?]
 by_cases hia:i<aa.length
 ·rw [Array.getElem?_append_left (by simp;omega)]
  have h1:aa[i]?=some aa[i]:=zD hia
  have h2 : vs[i]? = some (vs[i]'(by omega)) := zD (by omega)
  have:=hv i _ _ h1 h2
  simpa [List.getD,h1,h2] using this
 ·rw [Array.getElem?_append_right (by simp;omega)]
  have h1:aa[i]?=none:=zb (by omega)
  have h2:(Array.replicate (N-vs.toArray.size) undef)[i-vs.toArray.size]?.getD undef=undef:=by
   cases hx:(Array.replicate (N-vs.toArray.size) undef)[i-vs.toArray.size]? with
   | none=>rfl
   | some x=>
    obtain ⟨eg,nK⟩:=Array.getElem?_eq_some_iff.1 hx
    rw [←nK];simp
  rw [h2]
  simp only [List.getD,h1,Option.getD_none]
  exact .un
structure ED (P:Program) (fn:Func) (F:Tr A) (h:H) (ds:List Nat) (h':H) (T:Fp) (pv:A):Prop where
 fr:nI h h' T
 ok:∀S2,Agree T (hp h) S2→∀(g:G) (w:World) (a:Act),Inv g S2 w→nh g ds a.defers→(∀i,i<fn.ntmps→V g (bl F.get i) (a.tmps.getD i undef)) →
  LeavesInM (FR none) 0 P fn a.tmps (fun e w2=>∃v g',e = .returned v∧V g' pv v∧Inv g' (iU T (hp h') S2) w2∧Ext S2 g w (iU T (hp h') S2) g' w2) a.defers .returning w
theorem DS (hE:bW P E) {β:Type} {fn:Func} {F':Tr A} {h':H} {i_:List Nat} {U:Fp} {K:A→H→Fp→Option β} {r:β}
  (k1:vW h'.t i_ (fun t'=>rI E fn.ntmps F' { h' with t:=t' } fn.results.toList (fun ps l=>K (wM ps) { h' with t:=t' } ((U.cat (.wr (i_.map du))).cat (.rd l))))=some r) :
  ∃pv h2 T,K pv h2 (U.cat T)=some r∧ED P fn F' h' i_ h2 T pv:=by
 obtain ⟨t',k5,k6,k7⟩:=vV (P:=P) (h:=h') i_ h'.t _ k1
 obtain ⟨ps,l,k8,k9⟩:=pX (P:=P) hE _ _ k5
 have f3:nI { h' with t:=t' } { h' with t:=t' } (.rd l):=⟨fun _ _=>⟨rfl,Iff.rfl⟩,fun _ _=>⟨rfl,Iff.rfl⟩⟩
 have k6:nI h' { h' with t:=t' } (.wr (i_.map du)):=k6
 refine ⟨_,_,(Fp.wr (i_.map du)).cat (.rd l),by rw [←Fp.jN];exact k8,k6.trans f3,fun S2 hA g w a hI hd hv=>?_⟩
 have A2:Agree (.wr (i_.map du)) (hp h') S2:=hA.left
 have A3:=Agree.right k6 hA
 rw [←gW f3,l_ A3]
 refine k7 fn a.tmps _ _ A2 g w a.defers hI hd (fun w2 i2 x2=>?_)
 obtain ⟨us,u1,u2,u3⟩:=k9 _ A3 g w2 a.tmps i2 hv
 have eQ:=kf (P:=P) (fn:=fn) u1
 refine ⟨_,eQ,_,g,rfl,?_,i2,x2⟩
 match ps,us,u2,u3 with
 | [p],[u],_,u3=>exact u3 0 p u rfl rfl
 | [],[],_,_=>exact .jz [] #[] rfl (by simp)
 | p::q::ps,u::v::us,u2,u3=>
  rw [dif_neg (by simp)]
  exact .jz _ _ (by simpa using u2) (fun i c x e1 e2=>u3 i c x e1 (by simpa using e2))
theorem Li (hE:bW P E) {β:Type} {fn:Func} {F':Tr A} {h':H} {U:Fp} {K:A→H→Fp→Option β} {r:β}
  (k1:rI E fn.ntmps F' h' fn.results.toList (fun ps l=>K (wM ps) h' (U.cat (.rd l)))=some r) :
  ∃pv h2 T,K pv h2 (U.cat T)=some r∧ED P fn F' h' [] h2 T pv:=by
 obtain ⟨ps,l,k8,k9⟩:=pX (P:=P) hE _ _ k1
 have f3:nI h' h' (.rd l):=⟨fun _ _=>⟨rfl,Iff.rfl⟩,fun _ _=>⟨rfl,Iff.rfl⟩⟩
 refine ⟨_,_,.rd l,k8,f3,fun S2 hA g w a hI hd hv=>?_⟩
 rw [l_ hA]
 have sC:a.defers=[]:=List.length_eq_zero_iff.1 (by have:=hd.1;simpa using this.symm)
 rw [sC]
 obtain ⟨us,u1,u2,u3⟩:=k9 _ hA g w a.tmps hI hv
 have eQ:=kf (P:=P) (fn:=fn) u1
 refine ⟨_,eQ,_,g,rfl,?_,hI,.refl _ g w⟩
 match ps,us,u2,u3 with
 | [p],[u],_,u3=>exact u3 0 p u rfl rfl
 | [],[],_,_=>exact .jz [] #[] rfl (by simp)
 | p::q::ps,u::v::us,u2,u3=>
  rw [dif_neg (by simp)]
  exact .jz _ _ (by simpa using u2) (fun i c x e1 e2=>u3 i c x e1 (by simpa using e2))
theorem G7 (hE:bW P E) {fns:FT} (hF:wk P fns) {dr:Cx→Nat→JK} {cx:Cx} (hx:ld P cx) (rW:∀n β,Bb P n (dr cx n β)) {β:Type} {fn:Func} {F':Tr A} {h':H} {i_:List Nat} {U:Fp} {K:A→H→Fp→Option β} {r:β}
  (k1:Lj E fns dr cx fn F' h' i_ U K=some r):∃pv h2 T,K pv h2 (U.cat T)=some r∧ED P fn F' h' i_ h2 T pv:=by
 unfold Lj at k1
 split at k1
 ·exact Li hE k1
 ·rename_i d
  cases hb:Nat.ble 16777216 d with
  | false=>rw [hb] at k1;exact DS hE k1
  | true=>
   rw [hb] at k1
   have hb:=Nat.le_of_ble_eq_true hb
   simp only [cond_true] at k1
   split at k1
   ·rename_i gn x hg
    have QV:=hF _ gn x hg
    split at k1
    ·rename_i Gt hGa KI Wt
     obtain ⟨hn,k1⟩:=ah k1
     have hn:=Nat.le_of_ble_eq_true hn
     obtain ⟨e,F2,h2,yM,T,k2,_,k3,k4⟩:=iL hE hx (rW gn.ntmps β) x Gt h' [] _ _ k1
     obtain ⟨k5,k6⟩:=ah k2
     clear k2
     simp only [zC] at k5
     obtain rfl:yM=[]:=by simpa using k5.2
     refine ⟨_,_,T,k6,k3,fun S2 hA g w a hI hd hv=>?_⟩
     match aeb:a.defers,hd with
     | [el],hd=>
      obtain ⟨v,v1,v2⟩:=(hd.2 0 d el rfl rfl).2 hb
      subst v2
      refine ⟨by simp,.inr ⟨fun h=>by simp [FR,Fence.wide] at h,.func (d / 16777216-1),#[],d / 16777216-1,#[v],rfl,?_,fun _ _=>trivial,?_⟩⟩
      ·have WX:uw P (d / 16777216-1):=⟨gn,QV.bq,QV.name,by rw [QV.body];rfl⟩
       show (callFunc (d / 16777216-1) (#[v] ++ #[])).run P w=_
       exact WX.run _ w
      ·refine CallsDIn.mono (callsDIn_of_wp (R:=fun e w2=>e = .returned (.tuple #[])∧∃g',Inv g' (iU T (hp h2) S2) w2∧Ext S2 g w (iU T (hp h2) S2) g' w2) QV.bq QV.body trivial ?_) ?_
       ·have d0:=k4 none (fun _=>rfl) S2 g w S2 hA (fun e1 st=>e1=e∧st=fI gn.ntmps F2 [] (iU T (hp h2) S2)) ⟨rfl,rfl⟩
        have Xa:=TA (g:=g) (vs:=[v]) hGa rfl (by simpa using hn) (fun i p u e1 e2=>by
         cases i with
         | zero=>cases e1;cases e2;exact v1
         | succ i=>cases e1) hI
        refine wpIn_mono (d0 _ w Xa) ?_
        rintro e1 a2 w2 ⟨st,hR,rfl,rfl⟩
        obtain ⟨g1,i1,x1,d1,s1,_⟩:=hR
        have sC:a2.defers=[]:=List.length_eq_zero_iff.1 (by have:=d1.1;simpa [fI] using this.symm)
        have Gw:(results gn a2.tmps).run P w2 = .ok (.tuple #[]) w2:=by
         have:=kf (P:=P) (fn:=gn) (tmps:=a2.tmps) (vs:=[]) (w:=w2) (by rw [Wt];rfl)
         exact this
        cases e1 with
        | normal=>exact ⟨sC,_,Gw,rfl,g1,i1,x1⟩
        | ret=>exact ⟨sC,_,Gw,rfl,g1,i1,x1⟩
        | _=>exact absurd k5.1 (by simp [yn])
       ·rintro e1 u' w2 ⟨rfl,rfl,g',i1,x1⟩
        have Gw:(results fn a.tmps).run P w2 = .ok (.tuple #[]) w2:=by
         have:=kf (P:=P) (fn:=fn) (tmps:=a.tmps) (vs:=[]) (w:=w2) (by rw [KI];rfl)
         exact this
        exact ⟨_,Gw,_,g',rfl,.jz [] #[] rfl (by simp),i1,x1⟩
     | [],hd=>exact absurd hd.1 (by simp)
     | _::_::_,hd=>exact absurd hd.1 (by simp)
    ·cases k1
   ·cases k1
 ·exact DS hE k1
theorem im {F:Fence} {n:Nat} {fn:Func} {tmps:Array Value} {R R':Ending→World→Prop} (hr:∀e w,R e w→R' e w):∀(ds:List Deferred) (u:FrameMode) (w:World),LeavesInM F n P fn tmps R ds u w→LeavesInM F n P fn tmps R' ds u w
 | [],u,w,h=>by
  cases u with
  | run=>exact h
  | returning=>obtain ⟨v,h1,h2⟩:=h;exact ⟨v,h1,hr _ _ h2⟩
  | panicking c=>exact hr _ _ h
 | d::ds,u,w,h=>by
  obtain ⟨h0,h⟩:=h
  refine ⟨h0,?_⟩
  rcases h with ⟨r,w',h1,h2,h3⟩ | ⟨h1,fv,cap,f,args,h2,h3,h4,h5⟩
  ·exact .inl ⟨r,w',h1,h2,im hr ds u w' h3⟩
  ·refine .inr ⟨h1,fv,cap,f,args,h2,h3,h4,h5.mono ?_⟩
   intro e u' w' he
   cases e with
   | returned v=>exact im hr ds _ _ he
   | panicked c=>exact im hr ds _ _ he
   | outgrown=>exact hr _ _ he
theorem K4 (hE:bW P E) {fns:FT} (hF:wk P fns) {dr:Cx→Nat→JK} {cx:Cx} (hx:ld P cx) (rW:∀n β,Bb P n (dr cx n β)) {β:Type} {f:FuncId} {aa:List A} {h:H} {K:A→H→Fp→Option β} {r:β} (hr:Xi E fns dr cx β f aa h K=some r) :
  ∃pv h' T,K pv h' T=some r∧sM P f aa h h' T pv:=by
 unfold Xi at hr
 split at hr
 ·rename_i fn x hf
  have GG:=hF f fn x hf
  split at hr
  ·rename_i F Xc
   obtain ⟨hn,hr⟩:=ah hr
   have hn:=Nat.le_of_ble_eq_true hn
   obtain ⟨e,F',h',i_,T0,k1,_,k2,k3⟩:=iL hE hx (rW fn.ntmps β) x F h [] .no _ hr
   rw [Fp.o5] at k1
   obtain ⟨k4,k1⟩:=ah k1
   obtain ⟨pv,h2,T,k8,k6,k7⟩:=G7 (P:=P) hE hF hx rW k1
   have f12:nI h h2 (T0.cat T):=k2.trans k6
   refine ⟨_,_,_,k8,f12.out,f12.rd,⟨fn,GG.bq,GG.name,by rw [GG.body];rfl⟩,fun S2 hA g w vs hI hl hv=>?_⟩
   have A1:=hA.left
   have A2:Agree T (hp h') _:=Agree.right k2 hA
   rw [←gW k6]
   have d:=k3 none (fun _=>rfl) S2 g w S2 A1 (fun e1 st=>e1=e∧st=fI fn.ntmps F' i_ (iU T0 (hp h') S2)) ⟨rfl,rfl⟩
   refine (callsIn_wide (n:=0)).1 (callsIn_of_wp_marks (F:=FR none) GG.bq GG.body trivial ?_)
   refine wpIn_mono (d _ w (TA Xc hl hn hv hI)) ?_
   rintro e1 a w' ⟨st,hR,rfl,rfl⟩
   obtain ⟨g1,i1,x1,d1,s1,v1⟩:=hR
   have key:LeavesInM (FR none) 0 P fn a.tmps (fun e w2=>∃v g',e = .returned v∧V g' pv v∧Inv g' (iU T (hp h2) (iU T0 (hp h') S2)) w2∧Ext S2 g w (iU T (hp h2) (iU T0 (hp h') S2)) g' w2) a.defers .returning w':=by
    refine im ?_ _ _ _ (k7 _ A2 g1 w' a i1 d1 v1)
    rintro e w2 ⟨v,g',q1,q2,q3,q4⟩
    exact ⟨v,g',q1,q2,q3,x1.trans q4⟩
   cases e1 with
   | normal=>exact key
   | ret=>exact key
   | _=>exact absurd k4 (by simp [yn])
  ·cases hr
 ·cases hr
theorem Fq (hE:bW P E) {dr:Cx→Nat→JK} {cx:Cx} (hx:ld P cx) (rW:∀n β,Bb P n (dr cx n β)) {β:Type} {y:A} {aa:List A} {h:H} {K:A→H→Fp→Option β} {r:β} (hr:JY E dr cx β y aa h K=some r) :
  ∃pv h' T,K pv h' T=some r∧JH P y aa h h' T pv:=by
 unfold JY at hr
 split at hr
 ·rename_i q n F ps j lg bd
  split at hr
  ·rename_i pe0 hq0
   obtain ⟨hq,hr⟩:=ah hr
   have hq:=bb hq
   obtain ⟨F1,hr,hlen,C6⟩:=sk _ _ _ _ hr
   obtain ⟨e1,Fa,ha,mv,T1,hr,_,f1,d1⟩:=iL hE hx (rW n β) lg F1 h [] .no _ hr
   rw [Fp.o5] at hr
   split at hr
   ·split at hr
    ·rename_i pe hqa
     obtain ⟨_,t2,hr,Wl⟩:=bu hr
     obtain ⟨e2,Fb,hb,yM,T2,hr,_,f3,d2⟩:=iL hE hx (rW n β) bd Fa _ mv .no _ hr
     rw [Fp.o5] at hr
     split at hr
     ·rename_i st3 pe3 jump hqb hj
      obtain ⟨_,t3,hr,ht3⟩:=bu hr
      obtain ⟨f2,v2⟩:=xR (h:=ha) hq Wl
      obtain ⟨f4,v4⟩:=xR (h:=hb) hq ht3
      have f12:=f1.trans f2
      have f34:=f3.trans f4
      have ft:=f12.trans f34
      refine ⟨_,_,_,hr,ft.out,ft.rd,fun S2 hA g w u vs hI hu hl hv=>?_⟩
      have Dv:=hA.left
      have xg:=Agree.right f12 hA
      rw [←gW f34,←gW f4]
      rw [←gW f2] at xg ⊢
      have A1:=Dv.left
      have A2:=Agree.right f1 Dv
      have A3:=xg.left
      have A4:=Agree.right f3 xg
      have dY:=yY (x:=.cL (.loop .ready pe)) hq hqa A2 (.head _)
      have vB:=yY (x:=.cL (.loop st3 pe3)) hq hqb A4 (.head _)
      have GD:S2.ob q=some (.cL (.loop .ready pe0))∨True:=.inr trivial
      rw [v4 _ A4]
      rw [v2 _ A2] at A3 A4 vB ⊢
      cases hu with
      | rA _ _ _ _ _ _ _ b s lp h0 WD h1 h2 h3 h4 h5=>
      obtain ⟨rr,r1,r2⟩:=hI.lp b lp WD
      subst r2
      refine ⟨b,rr,rfl,r1,?_,?_⟩
      ·rw [←hl,hlen,←h1];simp [tE]
      have SJ:(rr.params.zip vs.toArray).foldl (fun tmps (t,a)=>tmps.setIfInBounds t a) rr.tmps=(ps.zip vs).foldl (fun tmps x=>tmps.setIfInBounds x.1 x.2) rr.tmps:=by
       rw [←Array.foldl_toList,Array.toList_zip,←h1];rfl
      rw [SJ]
      obtain ⟨z1,z2⟩:=C6 g n vs rr.tmps hl hv h4 h5
      generalize (ps.zip vs).foldl (fun tmps x=>tmps.setIfInBounds x.1 x.2) rr.tmps=T at z1 z2
      have h2:rr.assign=lg.code:=h2
      have h3:rr.body=bd.code:=h3
      rw [h2,h3]
      refine roundIn_of_wpIn trivial ?_
      show lg.code.wpIn (FR (some b)) 0 P _ _ _
      have Xa:R S2 g w (fI n F1 [] S2) { tmps:=T,defers:=[] } w:=⟨g,hI,.refl _ g w,⟨rfl,fun i d el e1=>by simp [fI] at e1⟩,z1,z2⟩
      refine wpIn_mono (d1 (some b) (fun h=>by cases h) S2 g w S2 A1 (fun e st=>e = .normal∧st=fI n Fa mv (iU T1 (hp ha) S2)) ⟨rfl,rfl⟩ _ w Xa) ?_
      rintro e1 a1 w1 ⟨st,W_,rfl,rfl⟩
      obtain ⟨g1,i1,x1,W2,KH,ES⟩:=W_
      have i1:Inv g1 (iU T1 (hp ha) S2) w1:=i1
      obtain ⟨b1,s1,ob1,q1,q2,q3⟩:=i1.cL q _ dY
      have Q6:=x1.le.bq _ _ h0
      rw [q1] at Q6
      obtain ⟨rfl,rfl⟩:b1=b∧s1=s:=by simpa using Q6
      obtain ⟨TV,rfl,u1,u2⟩:=q3
      obtain ⟨i2,x2⟩:=i1.BT (zc:=.busy) (J6:=TV.pending) dY q1 q2
      rw [u2] at i2 x2
      refine ⟨_,run_beginRound q2 u1,?_⟩
      show bd.code.wpIn (FR (some b1)) 0 P _ _ _
      have eb:({ TV with state:=.busy }:Loop)={ TV with state:=.busy,pending:=pe }:=by rw [←u2]
      rw [eb]
      refine wpIn_mono (d2 (some b1) (fun h=>by cases h) S2 g w _ A3 (fun e st=>e=e2∧st=fI n Fb yM (iU T2 (hp hb) ((iU T1 (hp ha) S2).set q (.cL (.loop .busy pe))))) ⟨rfl,rfl⟩ a1 _ ⟨g1,i2,x1.trans x2,W2,KH,ES⟩) ?_
      rintro SK a2 w3 ⟨st,hR3,rfl,rfl⟩
      obtain ⟨g3,i3,x3,_,_,_⟩:=hR3
      obtain ⟨b3,s3,ob3,p1,p2,p3⟩:=i3.cL q _ vB
      have Q5:=x3.le.bq _ _ h0
      rw [p1] at Q5
      obtain ⟨rfl,rfl⟩:b3=b1∧s3=s1:=by simpa using Q5
      obtain ⟨rr3,rfl,w1',w2'⟩:=p3
      have fin:∀jc:Option Code,P5 SK=some jc→∃v w4,(Instr.endRound b3 jc).run P w3 = .ok v w4∧∃v' g',Ending.returned v = .returned v'∧V g' (.v (.bool jump.isNone)) v'∧Inv g' ((iU T2 (hp hb) ((iU T1 (hp ha) S2).set q (.cL (.loop .busy pe)))).set q (gy.cL (.loop (B4 jump) jump)).low) w4∧Ext S2 g w ((iU T2 (hp hb) ((iU T1 (hp ha) S2).set q (.cL (.loop .busy pe)))).set q (gy.cL (.loop (B4 jump) jump)).low) g' w4:=by
       intro jc hj'
       rw [hj] at hj'
       obtain rfl:=Option.some.inj hj'
       have xe:=run_endRound (P:=P) jump p2
       have est:(if jump.isNone=true then LoopState.ready else LoopState.done)=B4 jump:=by cases jump<;>rfl
       rw [est] at xe
       obtain ⟨i4,x4⟩:=i3.BT (zc:=B4 jump) (J6:=jump) vB p1 p2
       exact ⟨_,_,xe,_,g3,rfl,.v _,i4,x3.trans x4⟩
      cases SK with
      | normal=>exact fin none rfl
      | ret=>exact fin _ rfl
      | exit id=>exact fin _ rfl
      | goto l=>cases hj
      | panic c=>cases hj
      | outgrown=>cases hj
     ·cases hr
    ·cases hr
   ·cases hr
  ·cases hr
 ·cases hr
theorem sj (hE:bW P E) {fns:FT} (hF:wk P fns) {dr:Cx→Nat→JK} {hm:List (Nat×Nat)} {cx:Cx} (hx:ld P cx) (rW:∀n β,Bb P n (dr cx n β)):ld P (wD E fns dr hm cx):=
 ⟨fun _ _ _ _ _ _ h=>K4 hE hF hx rW h,fun _ _ _ _ _ _ h=>Fq hE hx rW h⟩
theorem y6 (hm:List (Nat×Nat)):ld P (Bs hm):=⟨fun _ _ _ _ _ r h=>(by have h:(none:Option _)=some r:=h;cases h),fun _ _ _ _ _ r h=>(by have h:(none:Option _)=some r:=h;cases h)⟩
end
end
section
open Go.RowKit
def cf (T U:Fp):Bool:=(T.w || U.w) && (T.all || U.all || T.rs.any fun a=>U.rs.any (Nat.beq a))
def J1 (ops:Array Oper):Nat→Nat→Nat→Bool
 | 0,_,_=>false
 | f+1,i,j=>dep ops i j || (List.range i).any fun m=>dep ops i m && J1 ops f m j
theorem qC {ops:Array Oper} {L:Nat→Bool} (hd:∀k j,L k=true→dep ops k j=true→L j=true):∀(f k j:Nat),L k=true→J1 ops f k j=true→L j=true
 | 0,_,_,_,h=>by cases h
 | f+1,k,j,hk,h=>by
  simp only [J1,Bool.or_eq_true,List.any_eq_true,zC] at h
  rcases h with h | ⟨m,_,h1,h2⟩
  ·exact hd k j hk h
  ·exact qC hd f m j (hd k m hk h1) h2
theorem Fu {ops:Array Oper} {L:Nat→Bool} {i:Nat} (h:E5 ops i L):∀(f j:Nat),J1 ops f i j=true→L j=true
 | 0,_,h=>by cases h
 | f+1,j,hr=>by
  simp only [J1,Bool.or_eq_true,List.any_eq_true,zC] at hr
  rcases hr with hr | ⟨m,_,h1,h2⟩
  ·exact h.G9 j hr
  ·exact qC h.down f m j (h.G9 m h1) h2
def indep (ops:Array Oper) (m:Nat) (Ts:List Fp):Bool:=(List.range m).all fun i=>(List.range i).all fun j=>!(cf (Ts.getD j .no) (Ts.getD i .no)) || J1 ops m i j
theorem JC {T U:Fp} {x:Nat} (h1:aI T x=true) (h2:aI U x=true) (hw:T.w=true∨U.w=true):cf T U=true:=by
 unfold cf
 rw [zC]
 refine ⟨by rcases hw with h | h<;>simp [h],?_⟩
 unfold aI at h1 h2
 simp only [Bool.or_eq_true,List.any_eq_true] at h1 h2 ⊢
 rcases h1 with h1 | ⟨a,ha,h1⟩
 ·exact .inl (.inl h1)
 ·rcases h2 with h2 | ⟨b,hb,h2⟩
  ·exact .inl (.inr h2)
  ·exact .inr ⟨a,ha,b,hb,by rw [←beq_eq h1,←beq_eq h2];exact Nat.beq_refl _⟩
def mZ (S:Hp) (x:Nat):Option Ob×Prop:=(S.ob x,S.fr x)
theorem qe {S S':Hp} (h:∀x,mZ S x=mZ S' x):S=S':=Hp.ext' (fun i=>congrArg Prod.fst (h i)) (fun i=>by have:=congrArg Prod.snd (h i);exact Iff.of_eq this)
def wA (T:Fp) (H S:Hp):Hp:=bif T.w then iU T H S else S
theorem yW (T:Fp) (H S:Hp) (x:Nat):mZ (wA T H S) x=if (T.w && aI T x)=true then mZ H x else mZ S x:=by
 unfold wA
 cases hw:T.w with
 | false=>simp
 | true=>
  simp only [cond_true,Bool.true_and]
  show (if aI T x=true then H.ob x else S.ob x,if aI T x=true then H.fr x else S.fr x)=_
  cases aI T x<;>rfl
def lJ (L:Nat→Bool):List (Fp×Hp)→Nat→Hp→Hp
 | [],_,S=>S
 | (T,H)::r,j,S=>lJ L r (j+1) (bif L j then wA T H S else S)
def fx (L:Nat→Bool) (x:Nat):List (Fp×Hp)→Nat→Option Ob×Prop→Option Ob×Prop
 | [],_,v=>v
 | (T,H)::r,j,v=>fx L x r (j+1) (if (L j && (T.w && aI T x))=true then mZ H x else v)
theorem iN (L:Nat→Bool) (x:Nat):∀(r:List (Fp×Hp)) (j:Nat) (S:Hp),mZ (lJ L r j S) x=fx L x r j (mZ S x)
 | [],_,_=>rfl
 | (T,H)::r,j,S=>by
  unfold lJ fx
  rw [iN L x r]
  congr 1
  cases hl:L j with
  | true=>simp only [cond_true,Bool.true_and];exact yW T H S x
  | false=>simp
theorem ml {L L':Nat→Bool} {x:Nat}:∀(r:List (Fp×Hp)) (j:Nat) (v:Option Ob×Prop),(∀m T H,r[m]?=some (T,H)→(T.w && aI T x)=true→L (j+m)=L' (j+m))→fx L x r j v=fx L' x r j v
 | [],_,_,_=>rfl
 | (T,H)::r,j,v,h=>by
  unfold fx
  have e:(if (L j && (T.w && aI T x))=true then mZ H x else v)=(if (L' j && (T.w && aI T x))=true then mZ H x else v):=by
   cases hw:(T.w && aI T x) with
   | false=>simp
   | true=>rw [show L j=L' j from h 0 T H rfl hw]
  rw [e]
  exact ml r (j+1) _ (fun m T' H' hm hw=>by have:=h (m+1) T' H' (by simpa using hm) hw;rwa [show j+(m+1)=j+1+m by omega] at this)
def yZ (H0:Hp) (rs:List (Fp×Hp)):Nat→Hp
 | 0=>H0
 | m+1=>match rs[m]? with
  | some q=>q.2
  | none=>H0
def kt (H0:Hp) (rs:List (Fp×Hp)):Prop:=∀m T H,rs[m]?=some (T,H)→(∀x,aI T x=false→mZ H x=mZ (yZ H0 rs m) x)∧(T.w=false→H=yZ H0 rs m)
theorem kb {H0:Hp} {q:Fp×Hp} {rs:List (Fp×Hp)} (m:Nat) (hm:m≤rs.length):yZ H0 (q::rs) (m+1)=yZ q.2 rs m:=by
 cases m with
 | zero=>rfl
 | succ m=>
  show (match (q::rs)[m+1]? with | some q=>q.2 | none=>H0)=(match rs[m]? with | some q'=>q'.2 | none=>q.2)
  rw [List.getElem?_cons_succ,zD (show m<rs.length by omega)]
theorem kt.tail {H0:Hp} {q:Fp×Hp} {rs:List (Fp×Hp)} (h:kt H0 (q::rs)):kt q.2 rs:=fun m T H hm=>by
 have:=h (m+1) T H (by simpa using hm)
 rw [kb m (Nat.le_of_lt (zB.1 hm).1)] at this
 exact this
theorem qc {x:Nat}:∀(rs:List (Fp×Hp)) (H0:Hp) (j i:Nat),kt H0 rs→i≤rs.length→fx (fun k=>decide (k<j+i)) x rs j (mZ H0 x)=mZ (yZ H0 rs i) x
 | [],H0,j,i,_,hi=>by
  have:i=0:=by simpa using hi
  subst this;rfl
 | (T,H)::rs,H0,j,0,hc,_=>by
  have Ql:∀(r:List (Fp×Hp)) (k:Nat) (v:Option Ob×Prop),j≤k→fx (fun k=>decide (k<j+0)) x r k v=v:=by
   intro r
   induction r with
   | nil=>intro k v _;rfl
   | cons q r ih=>
    intro k v hk
    obtain ⟨T,H⟩:=q
    unfold fx
    rw [show (decide (k<j+0))=false by simpa using hk]
    simp only [Bool.false_and,Bool.false_eq_true,if_false]
    exact ih (k+1) v (by omega)
  exact Ql _ j _ (Nat.le_refl _)
 | (T,H)::rs,H0,j,i+1,hc,hi=>by
  unfold fx
  rw [show (decide (j<j+(i+1)))=true by simp]
  simp only [Bool.true_and]
  have h0:=hc 0 T H rfl
  have e:(if (T.w && aI T x)=true then mZ H x else mZ H0 x)=mZ H x:=by
   cases hw:T.w with
   | false=>rw [h0.2 hw];simp [yZ]
   | true=>
    cases ht:aI T x with
    | true=>simp
    | false=>simp only [Bool.and_false,Bool.false_eq_true,if_false];exact (h0.1 x ht).symm
  rw [e,kb i (by simpa using hi)]
  have:=qc (x:=x) rs H (j+1) i hc.tail (by simpa using hi)
  rw [show j+1+i=j+(i+1) by omega] at this
  exact this
theorem vv {ops:Array Oper} {H0 S2:Hp} {rs:List (Fp×Hp)} (hc:kt H0 rs) (hi:indep ops rs.length (rs.map (·.1))=true) (hA:∀T H,(T,H)∈rs→Agree T H0 S2) {i:Nat} {T:Fp} {H:Hp} (hr:rs[i]?=some (T,H)) {L:Nat→Bool} (ha:E5 ops i L) :
  Agree T (yZ H0 rs i) (lJ L rs 0 S2)∧lJ (ins L i) rs 0 S2=wA T H (lJ L rs 0 S2):=by
 have eg:=(zB.1 hr).1
 have Js:∀(a b:Nat) (Ta Tb:Fp) (Ha Hb:Hp),b<rs.length→a<b→rs[a]?=some (Ta,Ha)→rs[b]?=some (Tb,Hb)→cf Ta Tb=true→J1 ops rs.length b a=true:=fun a b Ta Tb Ha Hb h1 h2 h3 h4 h5=>by
  unfold indep at hi
  have:=List.all_eq_true.1 (List.all_eq_true.1 hi b (List.mem_range.2 h1)) a (List.mem_range.2 h2)
  have ga:(rs.map (·.1)).getD a .no=Ta:=by simp [zA,zL,h3]
  have gb:(rs.map (·.1)).getD b .no=Tb:=by simp [zA,zL,h4]
  rw [ga,gb,h5] at this
  simpa using this
 have seg:∀x,aI T x=true→∀m T' H',rs[m]?=some (T',H')→(T'.w && aI T' x)=true→m≠i→L m=decide (m<i):=fun x hx m T' H' hm hw ki=>by
  simp only [zC] at hw
  have hml:=(zB.1 hm).1
  rcases Nat.lt_or_ge m i with xc | xc
  ·rw [show decide (m<i)=true by simpa using xc]
   exact Fu ha _ m (Js m i T' T H' H eg xc hm hr (JC hw.2 hx (.inl hw.1)))
  ·have xc:i<m:=by omega
   rw [show decide (m<i)=false by simp;omega]
   cases hl:L m with
   | false=>rfl
   | true=>
    have:=qC ha.down _ m i hl (Js i m T T' H H' hml xc hr hm (JC hx hw.2 (.inr hw.1)))
    rw [ha.new] at this;cases this
 have base:∀x,aI T x=true→mZ S2 x=mZ H0 x:=fun x hx=>by
  have:=hA T H (zG hr) x hx
  exact Prod.ext this.1 (propext this.2)
 have pre:∀x,aI T x=true→mZ (lJ L rs 0 S2) x=mZ (yZ H0 rs i) x:=fun x hx=>by
  rw [iN,base x hx,←qc rs H0 0 i hc (Nat.le_of_lt eg)]
  refine ml rs 0 _ (fun m T' H' hm hw=>?_)
  simp only [Nat.zero_add]
  by_cases xc:m=i
  ·subst xc;rw [ha.new];simp
  ·exact seg x hx m T' H' hm hw xc
 refine ⟨fun x hx=>?_,qe fun x=>?_⟩
 ·have:=pre x hx
  exact ⟨congrArg Prod.fst this,Iff.of_eq (congrArg Prod.snd this)⟩
 ·rw [yW]
  by_cases hw:(T.w && aI T x)=true
  ·rw [if_pos hw]
   simp only [zC] at hw
   have e:yZ H0 rs (i+1)=H:=by
    show (match rs[i]? with | some q=>q.2 | none=>H0)=H
    rw [hr]
   rw [←e,iN,base x hw.2,←qc rs H0 0 (i+1) hc eg]
   refine ml rs 0 _ (fun m T' H' hm We=>?_)
   simp only [Nat.zero_add]
   by_cases xc:m=i
   ·subst xc;simp [ins]
   ·have:=seg x hw.2 m T' H' hm We xc
    show (m == i || L m)=decide (m<i+1)
    rw [this,show (m == i)=false by simpa using xc,Bool.false_or]
    by_cases h1:m<i
    ·rw [show decide (m<i)=true by simpa using h1,show decide (m<i+1)=true by simp;omega]
    ·rw [show decide (m<i)=false by simpa using h1,show decide (m<i+1)=false by simp;omega]
  ·rw [if_neg hw,iN,iN]
   refine ml rs 0 _ (fun m T' H' hm We=>?_)
   simp only [Nat.zero_add]
   by_cases xc:m=i
   ·subst xc;rw [hr] at hm;cases hm;exact absurd We hw
   ·show (m == i || L m)=L m
    rw [show (m == i)=false by simpa using xc,Bool.false_or]
end
section
open Go.RowKit
section
variable {P:Program} {E:Env} {cx:Cx} {n:Nat} {β:Type} {r:β}
def lT:List Fp→Fp
 | []=>.no
 | T::r=>T.cat (lT r)
def xv (E:Env) (cx:Cx) (n:Nat) (l0:List Oper):List Oper→Tr A→H→List Fp→(Tr A→H→List Fp→Option β)→Option β
 | [],F,h,acc,K=>K F h acc
 | o::l,F,h,acc,K=>match o.guard with
  | none=>Kk E cx n o.op F h (fun F pv h' T=>te F o.dst pv (fun F'=>xv E cx n l0 l F' h' (acc++[T]) K))
  | some (j,want)=>GR l0 n F j want (fun F b=>bif b then Kk E cx n o.op F h (fun F pv h' T=>te F o.dst pv (fun F'=>xv E cx n l0 l F' h' (acc++[T]) K)) else te F o.dst .un (fun F'=>xv E cx n l0 l F' h (acc++[.no]) K))
def YN (E:Env) (cx:Cx) (n:Nat) (β:Type) (_id:Nat) (ops:List Oper) (F:Tr A) (h:H) (U:Fp) (K:Tr A→H→Fp→Option β):Option β:=
 bif Tv ops.toArray then xv E cx n ops ops F h [] (fun F h Ts=>bif indep ops.toArray ops.length Ts then K F h (U.cat (lT Ts)) else none) else none
def oG (ops:Array Oper) (H0:Hp) (rs:List (Fp×Hp)) (Sf:(Nat→Bool)→Hp) (k:Nat):Prop:=
 ∀m T H,rs[m]?=some (T,H)→∀L,E5 ops (k+m) L→Agree T (yZ H0 rs m) (Sf L)∧Sf (ins L (k+m))=wA T H (Sf L)
theorem oG.tail {ops:Array Oper} {H0:Hp} {q:Fp×Hp} {rs:List (Fp×Hp)} {Sf:(Nat→Bool)→Hp} {k:Nat} (h:oG ops H0 (q::rs) Sf k):oG ops q.2 rs Sf (k+1):=fun m T H hm L ha=>by
 have:=h (m+1) T H (by simpa using hm) L (by rwa [show k+(m+1)=k+1+m by omega])
 rw [kb m (Nat.le_of_lt (zB.1 hm).1),show k+(m+1)=k+1+m by omega] at this
 exact this
theorem kt.cons {H0:Hp} {T:Fp} {H:Hp} {rs:List (Fp×Hp)} (h1:∀x,aI T x=false→mZ H x=mZ H0 x) (h2:T.w=false→H=H0) (h:kt H rs):kt H0 ((T,H)::rs):=fun m T' H' hm=>by
 cases m with
 | zero=>simp at hm;obtain ⟨rfl,rfl⟩:=hm;exact ⟨h1,h2⟩
 | succ m=>
  have KN:rs[m]?=some (T',H'):=by simpa using hm
  rw [kb m (Nat.le_of_lt (zB.1 KN).1)]
  exact h m T' H' KN
theorem ua (hE:bW P E) (hx:ld P cx) {l0:List Oper}:∀(l:List Oper) (F:Tr A) (h:H) (acc:List Fp) (K:Tr A→H→List Fp→Option β),xv E cx n l0 l F h acc K=some r →
  ∃F' h' rs,K F' h' (acc++rs.map (·.1))=some r∧Kp (pU l) F F'∧rs.length=l.length∧kt (hp h) rs∧(∀x,wt (lT (rs.map (·.1))) x=false→mZ (hp h') x=mZ (hp h) x)∧yZ (hp h) rs rs.length=hp h'∧∀Sf k,oG l0.toArray (hp h) rs Sf k→∀ds S (Kf:St→Prop),Kf (fI n F' ds S)→q_ P l0.toArray Sf l k (fI n F ds S) Kf
 | [],F,h,acc,K,hr=>⟨F,h,[],by have hr:K F h acc=some r:=hr;simpa using hr,.refl _ F,rfl,fun m T H hm=>by simp at hm,fun _ _=>rfl,rfl,fun Sf k _ ds S Kf hk=>hk⟩
 | o::l,F,h,acc,K,hr=>by
  have yes:∀(F:Tr A),Kk E cx n o.op F h (fun F pv h' T=>te F o.dst pv (fun F'=>xv E cx n l0 l F' h' (acc++[T]) K))=some r →
    (∀ds S,o.guard=none∨∃j want,o.guard=some (j,want)∧mi l0.toArray (fI n F ds S) j want=some true) →
    ∃F' h' rs,K F' h' (acc++rs.map (·.1))=some r∧Kp (pU (o::l)) F F'∧rs.length=(o::l).length∧kt (hp h) rs∧(∀x,wt (lT (rs.map (·.1))) x=false→mZ (hp h') x=mZ (hp h) x)∧yZ (hp h) rs rs.length=hp h'∧∀Sf k,oG l0.toArray (hp h) rs Sf k→∀ds S (Kf:St→Prop),Kf (fI n F' ds S)→q_ P l0.toArray Sf (o::l) k (fI n F ds S) Kf:=fun F hr hg=>by
   obtain ⟨F0,e0,pv,h1,T1,k1,k2⟩:=Cr hE hx hr
   obtain ⟨F1,k3,Kx,k4⟩:=pY k1
   obtain ⟨F2,h2,rs,k5,V5,k6,k7,kw,k8,k9⟩:=ua hE hx l F1 h1 (acc++[T1]) K k3
   have hg:∀ds S,o.guard=none∨∃j want,o.guard=some (j,want)∧mi l0.toArray (fI n F0 ds S) j want=some true:=fun ds S=>by rw [e0];exact hg ds S
   refine ⟨F2,h2,(T1,hp h1)::rs,by simpa using k5,(Kp.of (l:=[]) e0).trans (m:=pU (o::l)) (Kx.trans V5 (fun i hi=>zQ _ hi) (fun i hi=>zS _ hi)) (fun i hi=>by cases hi) (fun i hi=>hi),by simp [k6],kt.cons (fun x hx=>Prod.ext (k2.out x hx).1 (propext (k2.out x hx).2)) (fun hw=>qe fun x=>Prod.ext (k2.rd x (E7 hw)).1 (propext (k2.rd x (E7 hw)).2)) k7,fun x hx=>(kw x (qf hx).2).trans (Prod.ext (k2.rd x (qf hx).1).1 (propext (k2.rd x (qf hx).1).2)),by rw [zR,kb _ (Nat.le_refl _)];exact k8,fun Sf k hs ds S Kf hk=>?_⟩
   rw [←e0 ds S]
   refine ⟨pv,?_,?_⟩
   ·have mg:∀L,E5 l0.toArray k L→A_ P o ((fI n F0 ds S).uA 0) (Sf L) (Sf (ins L k)) pv:=fun L ha=>by
     obtain ⟨q1,q2⟩:=hs 0 T1 (hp h1) rfl L ha
     have q1:Agree T1 (hp h) (Sf L):=q1
     have q2:Sf (ins L k)=wA T1 (hp h1) (Sf L):=q2
     rw [←oZ,q2]
     have:=k2.ok (Sf L) q1
     unfold wA
     cases hw:T1.w with
     | true=>exact this
     | false=>
      rw [show hp h1=hp h from qe fun x=>Prod.ext (k2.rd x (E7 hw)).1 (propext (k2.rd x (E7 hw)).2),l_ q1] at this
      exact this
    unfold si
    rcases hg ds S with hg | ⟨j,want,hg,hv⟩
    ·rw [hg];exact ⟨0,mg⟩
    ·rw [hg];exact .inl ⟨hv,0,mg⟩
   ·have:=k9 Sf (k+1) hs.tail ds S Kf hk
    rw [←k4 n ds S S,show ((fI n F0 ds S).put o.dst pv).to S=(fI n F0 ds S).put o.dst pv from ta _ _] at this
    exact this
  unfold xv at hr
  split at hr
  ·rename_i hg
   exact yes F hr (fun _ _=>.inl hg)
  ·rename_i j want hg
   obtain ⟨F1,b,k1,k2,k3⟩:=yB hr
   cases b with
   | true=>
    simp only [cond_true] at k1
    obtain ⟨F',h',rs,q1,qp,q2,q3,qw,q4,q5⟩:=yes F1 k1 (fun ds S=>.inr ⟨j,want,hg,by rw [k2];exact k3 ds S⟩)
    refine ⟨F',h',rs,q1,(Kp.of (l:=[]) k2).trans qp (fun i hi=>by cases hi) (fun i hi=>hi),q2,q3,qw,q4,fun Sf k hs ds S Kf hk=>?_⟩
    rw [←k2]
    exact q5 Sf k hs ds S Kf hk
   | false=>
    simp only [cond_false] at k1
    obtain ⟨F2,k4,Kx,k5⟩:=pY k1
    obtain ⟨F',h',rs,q1,qp,q2,q3,qw,q4,q5⟩:=ua hE hx l F2 h (acc++[.no]) K k4
    refine ⟨F',h',(.no,hp h)::rs,by simpa using q1,(Kp.of (l:=[]) k2).trans (m:=pU (o::l)) (Kx.trans qp (fun i hi=>zQ _ hi) (fun i hi=>zS _ hi)) (fun i hi=>by cases hi) (fun i hi=>hi),by simp [q2],.cons (fun _ _=>rfl) (fun _=>rfl) q3,fun x hx=>qw x (qf hx).2,by rw [zR,kb _ (Nat.le_refl _)];exact q4,fun Sf k hs ds S Kf hk=>⟨.un,?_,?_⟩⟩
    ·unfold si
     rw [hg]
     exact .inr ⟨k3 ds S,fun g=>.un,fun L ha=>(hs 0 .no (hp h) rfl L ha).2⟩
    ·have:=q5 Sf (k+1) hs.tail ds S Kf hk
     rw [←k5 n ds S S,show ((fI n F1 ds S).put o.dst .un).to S=(fI n F1 ds S).put o.dst .un from ta _ _] at this
     rw [←k2]
     exact this
theorem nk {x:Nat}:∀(Ts:List Fp),aI (lT Ts) x=Ts.any fun T=>aI T x
 | []=>rfl
 | T::r=>by
  show aI (T.cat (lT r)) x=_
  rw [iF,nk r,List.any_cons]
theorem AX {H0:Hp}:∀(rs:List (Fp×Hp)),kt H0 rs→(∀x,aI (lT (rs.map (·.1))) x=false→mZ (yZ H0 rs rs.length) x=mZ H0 x)∧((lT (rs.map (·.1))).w=false→yZ H0 rs rs.length=H0):=fun rs=>by
 induction rs generalizing H0 with
 | nil=>exact fun _=>⟨fun _ _=>rfl,fun _=>rfl⟩
 | cons q rs ih=>
  intro hc
  obtain ⟨T,H⟩:=q
  obtain ⟨i1,i2⟩:=ih hc.tail
  have h0:=hc 0 T H rfl
  rw [zR,kb _ (Nat.le_refl _)]
  refine ⟨fun x hx=>?_,fun hw=>?_⟩
  ·have hx:aI (T.cat (lT (rs.map (·.1)))) x=false:=hx
   rw [iF,Bool.or_eq_false_iff] at hx
   exact (i1 x hx.2).trans (h0.1 x hx.1)
  ·have hw:(T.w || (lT (rs.map (·.1))).w)=false:=hw
   rw [Bool.or_eq_false_iff] at hw
   exact (i2 hw.2).trans (h0.2 hw.1)
theorem DW (hE:bW P E) (hx:ld P cx) (hm:P.follows .mixedOrders=true) (n:Nat) (β:Type):Bb P n (YN E cx n β):=fun id ops F h U K r hr=>by
 obtain ⟨hch,hr⟩:=ah hr
 obtain ⟨F',h',rs,k1,kp,k2,k3,kw,k4,k5⟩:=ua hE hx ops F h [] _ hr
 rw [List.nil_append] at k1
 obtain ⟨hi,k1⟩:=ah k1
 rw [←k2] at hi
 refine ⟨F',h',lT (rs.map (·.1)),k1,kp,fun inr ds=>?_⟩
 obtain ⟨e1,e2⟩:=AX rs k3
 rw [k4] at e1 e2
 refine ⟨⟨fun x hx=>⟨congrArg Prod.fst (e1 x hx),Iff.of_eq (congrArg Prod.snd (e1 x hx))⟩,fun x hx=>⟨congrArg Prod.fst (kw x hx),Iff.of_eq (congrArg Prod.snd (kw x hx))⟩⟩,fun ro _ S0 g0 w0 S2 hA Q hq=>?_⟩
 have rX:∀T H,(T,H)∈rs→Agree T (hp h) S2:=fun T H AA x hx=>hA x (by
  rw [nk,List.any_eq_true]
  exact ⟨T,List.mem_map.2 ⟨_,AA,rfl⟩,hx⟩)
 have zero:∀(r:List (Fp×Hp)) (j:Nat) (S:Hp),lJ (fun _=>false) r j S=S:=fun r=>by
  induction r with
  | nil=>exact fun _ _=>rfl
  | cons q r ih=>exact fun j S=>ih (j+1) S
 refine Fz (fun L=>lJ L rs 0 S2) hm hch (zero rs 0 S2) ?_
 refine k5 (fun L=>lJ L rs 0 S2) 0 (fun m T H WA L ha=>?_) ds S2 _ ?_
 ·rw [Nat.zero_add] at ha ⊢
  exact vv k3 hi rX WA ha
 ·have e:lJ (fun j=>decide (j<ops.length)) rs 0 S2=iU (lT (rs.map (·.1))) (hp h') S2:=qe fun x=>by
   rw [iN]
   cases ht:aI (lT (rs.map (·.1))) x with
   | true=>
    have b:mZ S2 x=mZ (hp h) x:=Prod.ext (hA x ht).1 (propext (hA x ht).2)
    have:=qc (x:=x) rs (hp h) 0 rs.length k3 (Nat.le_refl _)
    rw [Nat.zero_add,k4,k2] at this
    rw [b,this]
    show mZ (hp h') x=(if aI (lT (rs.map (·.1))) x=true then (hp h').ob x else S2.ob x,if aI (lT (rs.map (·.1))) x=true then (hp h').fr x else S2.fr x)
    rw [if_pos ht,if_pos ht];rfl
   | false=>
    rw [ml (L':=fun _=>false) rs 0 _ (fun m T H WA hw=>by
     simp only [zC] at hw
     have:aI (lT (rs.map (·.1))) x=true:=by
      rw [nk,List.any_eq_true]
      exact ⟨T,List.mem_map.2 ⟨_,zG WA,rfl⟩,hw.2⟩
     rw [this] at ht;cases ht),←iN,zero]
    show mZ S2 x=(if aI (lT (rs.map (·.1))) x=true then (hp h').ob x else S2.ob x,if aI (lT (rs.map (·.1))) x=true then (hp h').fr x else S2.fr x)
    rw [if_neg (by rw [ht];simp),if_neg (by rw [ht];simp)];rfl
  show Q .normal ((fI n F' ds S2).to (lJ (fun j=>decide (j<ops.length)) rs 0 S2))
  rw [e]
  exact hq
end
end
open Go.RowKit
inductive ur (P:Program):Nat→Nat→A8→Prop
 | nil (a b:Nat):ur P a b .nil
 | no {a b:Nat} {l r:A8} (h1:ur P (2*a) (a+b) l) (h2:ur P (2*a) (2*a+b) r):ur P a b (.node l none r)
 | yes {a b:Nat} {e:cS} {l r:A8} (h:bt P b e) (h1:ur P (2*a) (a+b) l) (h2:ur P (2*a) (2*a+b) r):ur P a b (.node l (some e) r)
theorem Fi {P:Program} {T:A8} {a b:Nat} (h:ur P a b T):∀t e,ct T t=some e→bt P (a*t+b) e:=by
 have key:∀(a b:Nat) (l r:A8),(∀t e,ct l t=some e→bt P (2*a*t+(a+b)) e)→(∀t e,ct r t=some e→bt P (2*a*t+(2*a+b)) e) →
   ∀n e v,ct (.node l v r) (n+1)=some e→bt P (a*(n+1)+b) e:=by
  intro a b l r hl hr n e v ht
  rw [y9] at ht
  cases hn:Nat.beq (n%2) 0 with
  | true=>
   rw [hn] at ht
   have h0:=Nat.eq_of_beq_eq_true hn
   have:=hl _ e ht
   have e1:a*(n+1)+b=2*a*(n / 2)+(a+b):=by
    have:n=2*(n / 2):=by omega
    generalize n / 2=k at this
    subst this
    rw [Nat.mul_add,Nat.mul_one,Nat.mul_comm 2 a,Nat.mul_assoc];omega
   rw [e1];exact this
  | false=>
   rw [hn] at ht
   have h0:n%2≠0:=fun h=>by rw [h] at hn;cases hn
   have:=hr _ e ht
   have e1:a*(n+1)+b=2*a*(n / 2)+(2*a+b):=by
    have:n=2*(n / 2)+1:=by omega
    generalize n / 2=k at this
    subst this
    rw [show 2*k+1+1=2*(k+1) by omega,←Nat.mul_assoc,Nat.mul_comm a 2,Nat.mul_add,Nat.mul_one];omega
   rw [e1];exact this
 induction h with
 | nil=>intro t e h;cases h
 | no h1 h2 C3 Gr=>
  intro t e ht
  cases t with
  | zero=>cases ht
  | succ n=>exact key _ _ _ _ C3 Gr n e _ ht
 | yes h h1 h2 C3 Gr=>
  intro t e ht
  cases t with
  | zero=>cases ht;rw [Nat.mul_zero,Nat.zero_add];exact h
  | succ n=>exact key _ _ _ _ C3 Gr n e _ ht
theorem E_ {P:Program} {T:A8} (h:ur P 1 0 T):∀t e,ct T t=some e→bt P t e:=fun t e ht=>by
 have:=Fi h t e ht
 rwa [Nat.one_mul,Nat.add_zero] at this
inductive UK (P:Program):List Nat→Prop
 | nil:UK P []
 | cons {t:Nat} {r:List Nat} (h:hJ P t) (k:UK P r):UK P (t::r)
theorem Lc {P:Program} {l:List Nat} (h:UK P l):∀t,l.any (Nat.beq t)=true→hJ P t:=by
 induction h with
 | nil=>intro f h;simp at h
 | cons h k ih=>
  rename_i f0 r
  intro f hf
  rw [List.any_cons,Bool.or_eq_true] at hf
  rcases hf with hf | hf
  ·obtain rfl:=Nat.eq_of_beq_eq_true hf;exact h
  ·exact ih f hf
theorem cC {P : Program} {t : Nat} {fs : Array Field} (h1 : P.stoodInHeld t = false) (h2 : P.eqGuardType P.depth t = false) (h3 : P.underlying t = some (.struct fs)) (h4 : fs.toList.all (fun f => f.name != "_") = true) : hJ P t :=
 ⟨h1,h2,fun fs' e f hf=>by
  rw [h3] at e
  cases e
  have:=List.all_eq_true.1 h4 f hf
  simpa using this⟩
theorem az {P:Program} {t:Nat} {e:cS} (h1:P.underlying t=some e.d) (h2:TI P t e.size e.bytes e.zero) (h3:∀fs,e.d = .struct fs→∀w:World,(fs.mapM fun f=>(do pure (f.offset,←sizeOf f.type):Sem (Nat×Nat))).run P w = .ok e.pl.toArray w)
  (h4:∀u,e.t=some u→u.size=e.size∧oN u (jP e.zero)=some u.cK):bt P t e where
 u:=h1
 ti:=h2
 pl:=h3
 ts:=fun u hu=>(h4 u hu).1
 tz:=fun u hu g=>by
  obtain ⟨i,t1,t2,t3,t4,t5,t6⟩:=h2
  exact (jg (g:=g) u _ _ (h4 u hu).2).2 _ (nO t6 g)
theorem j0 {e:cS} (h:e.t=none):∀u,e.t=some u→u.size=e.size∧oN u (jP e.zero)=some u.cK:=fun u hu=>by rw [h] at hu;cases hu
theorem aQ {e:cS} {u:Ty} (h:e.t=some u) (h1:u.size=e.size) (h2:oN u (jP e.zero)=some u.cK):∀u,e.t=some u→u.size=e.size∧oN u (jP e.zero)=some u.cK:=fun u' hu=>by rw [h] at hu;cases hu;exact ⟨h1,h2⟩
inductive HT where
 | o
 | n (h:Option LH) (x y:HT)
def HT.h:HT→Option LH
 | .o=>none
 | .n h _ _=>h
def HT.l:HT→HT
 | .o=>.o
 | .n _ x _=>x
def HT.r:HT→HT
 | .o=>.o
 | .n _ _ y=>y
def Qm:LH:=⟨[],[],[],[],[],[]⟩
def mkSeq (h:Option LH) (x y:ay):ay:=match h with
 | some h=>.cut h x y
 | none=>.seq x y
def CF (h:Option LH) (x:ay):ay:=match h with
 | some h=>.loop h x
 | none=>.loop Qm x
def comp:Code→HT→ay
 | .skip,_=>.skip
 | .ret,_=>.ret
 | .exit id,_=>.exit id
 | .region id ops d,_=>.region id ops.toList d
 | .seq x y,t=>mkSeq t.h (comp x t.l) (comp y t.r)
 | .cond c x y,t=>.cond c (comp x t.l) (comp y t.r)
 | .block id x,t=>.block id (comp x t.l)
 | .loop x,t=>CF t.h (comp x t.l)
 | .rangeFunc g ps x y,t=>.range g ps.toList Qm (comp x t.l) (comp y t.r)
 | c,_=>.bad c
theorem wS (h:Option LH) (x y:ay):(mkSeq h x y).code = .seq x.code y.code:=by cases h<;>rfl
theorem vn (h:Option LH) (x:ay):(CF h x).code = .loop x.code:=by cases h<;>rfl
theorem AS (c:Code) (t:HT):(comp c t).code=c:=by
 fun_induction comp c t<;>simp_all [ay.code,wS,vn]
def au (f:Func):Code:=match f.body with
 | some c=>c
 | none=>.skip
theorem ak {P : Program} {f : Nat} {fn : Func} {t : HT} (h1 : P.funcs[f]? = some fn) (h2 : fn.body = some (au fn)) (h3 : (fn.name == "runtime.NumGoroutine") = false) : aO P f fn (comp (au fn) t) := ⟨h1, by rw [AS]; exact h2, h3⟩
section
open Go.RowKit
structure uv (P:Program) (f:FuncId) (t:Ty):Prop where
 fn:uw P f
 ok:∀(n:Nat) (w:World),n≤16777216→Calls P f #[.slice none 0 0,.int .i64 (n:Int)] w fun e w'=>∃v,e = .returned v∧((v = .slice none 0 0∧w'=w)∨∃vs ty cap,v = .slice (some ⟨w.heap.size,0,none⟩) 0 cap∧w'=w.drew.alloc (.cells vs ty)∧cap*t.size≤vs.size∧cap≤maxLen)
structure oL (P:Program) (f:FuncId) (t:Ty):Prop where
 fn:uw P f
 none:∀(n c:Nat) (w:World),Calls P f #[.slice none n c] w fun e w'=>e = .returned (.slice none 0 0)∧w'=w
 some:∀(g:G) (S:Hp) (q:Nat),S.fr q→∀l:List t.T,l.length≤16777216→∀(w:World),Inv g S w→∀(a:Addr) (n c:Nat),(∀w2,Inv g S w2→Given g w2 (.slice (some a) n c) t.size l.length (l.flatMap (aA t))) →
  Calls P f #[.slice (some a) n c] w fun e w'=>∃v g',e = .returned v∧V g' (.tw (.loc q) t.size) v∧Inv g' (S.new q (.cells (l.flatMap (aA t)))) w'∧Ext S g w (S.new q (.cells (l.flatMap (aA t)))) g' w'
inductive Mr where
 | fn (sg:dM) (F:Plain sg)
 | grow (t:Ty)
 | clone (t:Ty)
abbrev uy:=Nat→Option Mr
def Mr.Ok (P:Program) (f:FuncId):Mr→Prop
 | .fn sg F=>bJ P f sg F
 | .grow t=>uv P f t
 | .clone t=>oL P f t
def lR (P:Program) (rC:uy):Prop:=∀f e,rC f=some e→e.Ok P f
def yA {β:Type} (t:Ty) (aa:List A) (h:H) (K:A→H→Fp→Option β):Option β:=match aa with
 | [.v (.slice none 0 0),.v (.int .i64 n)]=>gd (bc n) (gd (bB (nN n) 16777216) (mX (.row t []) h (fun q h'=>K (.tw (.loc q) t.size) h' (.wr [du q]))))
 | _=>none
def ue {β:Type} (t:Ty) (aa:List A) (h:H) (K:A→H→Fp→Option β):Option β:=match aa with
 | [py]=>wE h t py (fun l T=>gd (bB (len (α:=t.T) l) 16777216) (mX (.row t l) h (fun q h'=>K (.tw (.loc q) t.size) h' ⟨false,du q::T,true,[du q]⟩)))
 | _=>none
def Lo (rC:uy) (xr:Cx):Cx:=⟨fun β f aa h K=>match rC f with
 | some (.fn sg F)=>UH sg F aa h K
 | some (.grow t)=>yA t aa h K
 | some (.clone t)=>ue t aa h K
 | none=>xr.call β f aa h K,xr.hm,xr.rA⟩
section
variable {P:Program} {E:Env}
theorem Dw {β:Type} {f:FuncId} {t:Ty} (hg:uv P f t) {aa:List A} {h:H} {K:A→H→Fp→Option β} {r:β} (hr:yA t aa h K=some r):∃pv h' T,K pv h' T=some r∧sM P f aa h h' T pv:=by
 unfold yA at hr
 split at hr
 ·rename_i n
  obtain ⟨hp,hr⟩:=bC hr
  have hp:0≤n:=hp
  obtain ⟨hn,hr⟩:=bC hr
  have hn:n.toNat≤16777216:=hn
  have QM:n=((n.toNat:Nat):Int):=by omega
  obtain ⟨h',k1,hq,hf,hh⟩:=fP hr
  have hT:∀u∈[Up.new h.aR (gy.row t []).low],aI (.wr [du h.aR]) u.id=true:=fun u hu=>by rcases zF.1 hu with rfl;exact aB (o:=h.aR) hq (.head _)
  have hW:∀u∈[Up.new h.aR (gy.row t []).low],wt (.wr [du h.aR]) u.id=true:=fun u hu=>by rcases zF.1 hu with rfl;exact aB (l:=[du h.aR]) (w:=false) (s:=[]) (o:=h.aR) hq (.head _)
  refine ⟨_,_,_,k1,fun i hi=>by rw [hh];exact dB _ _ i (fun u hu e=>by rw [e,hT u hu] at hi;cases hi),fun i hi=>by rw [hh];exact dB _ _ i (fun u hu e=>by rw [e,hW u hu] at hi;cases hi),hg.fn,fun S2 hA=>?_⟩
  rw [hh,ij hT hA]
  show PC P f _ S2 (S2.new h.aR (.cells [])) _
  have Dm:S2.fr h.aR:=(hA _ (aB hq (.head _))).2.2 hf
  intro g w vs hI hl hv
  match vs,hl with
  | [u,v],_=>
   have e1:=(hv 0 _ _ rfl rfl).gh
   have e2:=(hv 1 _ _ rfl rfl).gh
   subst e1 e2
   rw [QM]
   refine (hg.ok n.toNat w hn).mono ?_
   rintro e w' ⟨v,rfl,⟨rfl,rfl⟩ | ⟨vs,ty,cap,rfl,rfl,k3,k4⟩⟩
   ·obtain ⟨q1,q2⟩:=hI.emp Dm
    exact ⟨_,_,rfl,.sc (.loc h.aR) t.size none cl,q1,q2⟩
   ·obtain ⟨q1,q2⟩:=hI.drew.lG Dm (cs:=[]) (vs:=vs) ty (Nat.zero_le _) ⟨by simp,fun j c x e=>by simp at e⟩
    refine ⟨_,_,rfl,.tw (.loc h.aR) t.size 0 w.heap.size cap vs.size ?_ (Nat.zero_le _) k4 k3 0 (fun _=>rfl),q1,Inv.sP q2⟩
    rw [Nat.zero_mul];exact cl
 ·cases hr
theorem AV {β:Type} {f:FuncId} {t:Ty} (hg:oL P f t) {aa:List A} {h:H} {K:A→H→Fp→Option β} {r:β} (hr:ue t aa h K=some r):∃pv h' T,K pv h' T=some r∧sM P f aa h h' T pv:=by
 unfold ue at hr
 split at hr
 ·rename_i py
  obtain ⟨l,T,hr,tS⟩:=sS hr
  obtain ⟨hn,hr⟩:=bC hr
  have hn:List.length (α:=t.T) l≤16777216:=hn
  obtain ⟨h',k1,hq,hf,hh⟩:=fP hr
  have hT:∀u∈[Up.new h.aR (gy.row t l).low],aI ⟨false,du h.aR::T,true,[du h.aR]⟩ u.id=true:=fun u hu=>by rcases zF.1 hu with rfl;exact aB (o:=h.aR) hq (.head _)
  have hW:∀u∈[Up.new h.aR (gy.row t l).low],wt ⟨false,du h.aR::T,true,[du h.aR]⟩ u.id=true:=fun u hu=>by rcases zF.1 hu with rfl;exact aB (l:=[du h.aR]) (w:=false) (s:=[]) (o:=h.aR) hq (.head _)
  refine ⟨_,_,_,k1,fun i hi=>by rw [hh];exact dB _ _ i (fun u hu e=>by rw [e,hT u hu] at hi;cases hi),fun i hi=>by rw [hh];exact dB _ _ i (fun u hu e=>by rw [e,hW u hu] at hi;cases hi),hg.fn,fun S2 hA=>?_⟩
  rw [hh,ij hT hA]
  show PC P f _ S2 (S2.new h.aR (.cells (List.flatMap (aA t) l))) _
  have Dm:S2.fr h.aR:=(hA _ (aB hq (.head _))).2.2 hf
  have tS:=tS S2 (hA.mono fun i hi=>.tail _ hi)
  intro g w vs hI Ut hv
  match vs,Ut with
  | [u],_=>
   have e1:=hv 0 _ _ rfl rfl
   have Uz:∀w2,Inv g S2 w2→Given g w2 u t.size l.length (l.flatMap (aA t)):=fun w2 hI2=>tS g w2 u hI2 e1
   obtain ⟨A,c,us,rfl,k2,k3,k4⟩:=Uz w hI
   cases A with
   | none=>
    have WH:l=[]:=by
     rcases Nat.eq_zero_or_pos l.length with h0 | h0
     ·exact zZ h0
     ·obtain ⟨_,e,_⟩:=k4 h0;cases e
    refine (hg.none _ c w).mono ?_
    rintro e w' ⟨rfl,rfl⟩
    rw [WH]
    obtain ⟨q1,q2⟩:=hI.emp Dm
    exact ⟨_,_,rfl,.sc (.loc h.aR) t.size none cl,q1,q2⟩
   | some a=>exact hg.some g S2 h.aR Dm l hn w hI a _ c Uz
 ·cases hr
theorem yQ {rC:uy} (hc:lR P rC) {xr:Cx} (hf:ld P xr):ld P (Lo rC xr):=⟨fun β f aa h K r hr=>by
 have hr:(match rC f with | some (.fn sg F)=>UH sg F aa h K | some (.grow t)=>yA t aa h K | some (.clone t)=>ue t aa h K | none=>xr.call β f aa h K)=some r:=hr
 split at hr
 ·rename_i sg F he
  exact Ls (hc f _ he) hr
 ·rename_i t he
  exact Dw (hc f _ he) hr
 ·rename_i t he
  exact AV (hc f _ he) hr
 ·exact hf.call β f aa h K r hr,hf.rA⟩
def YQ (E:Env) (fns:FT) (hm:List (Nat×Nat)) (rC:uy):Nat→Cx
 | 0=>Lo rC (Bs hm)
 | k+1=>Lo rC (wD E fns (fun cx n=>YN E cx n) hm (YQ E fns hm rC k))
def YR (E:Env) (fns:FT) (hm:List (Nat×Nat)) (rC:uy) (k:Nat):Cx:=wD E fns (fun cx n=>YN E cx n) hm (YQ E fns hm rC k)
theorem ub (hE:bW P E) (Dg:P.follows .mixedOrders=true) {fns:FT} (hF:wk P fns) {hm:List (Nat×Nat)} {rC:uy} (hc:lR P rC):∀k,ld P (YQ E fns hm rC k)
 | 0=>yQ hc (y6 hm)
 | k+1=>yQ hc (sj hE hF (ub hE Dg hF hc k) (fun n β=>DW hE (ub hE Dg hF hc k) Dg n β))
theorem rb (hE:bW P E) (Dg:P.follows .mixedOrders=true) {fns:FT} (hF:wk P fns) {hm:List (Nat×Nat)} {rC:uy} (hc:lR P rC) (k:Nat):ld P (YR E fns hm rC k):=sj hE hF (ub hE Dg hF hc k) (fun n β=>DW hE (ub hE Dg hF hc k) Dg n β)
theorem bJ.of {f:FuncId} {sg:dM} {F G:Plain sg} (h:bJ P f sg G) (e:∀x c d,F x c d=G x c d):bJ P f sg F:=by
 have:F=G:=funext fun x=>funext fun c=>funext fun d=>e x c d
 rw [this];exact h
end
end
section
open Go.RowKit
def aj {α:Type} (d:α) (l:List α) (i:Nat) (f:α→α):List α:=aU l i (f (nth d l i))
def ctN:uy:=fun _=>none
def ctC (f:Nat) (sg:dM) (F:Plain sg) (l:uy):uy:=fun g=>bif Nat.beq g f then some (.fn sg F) else l g
def ctG (f:Nat) (t:Ty) (l:uy):uy:=fun g=>bif Nat.beq g f then some (.grow t) else l g
def ctL (f:Nat) (t:Ty) (l:uy):uy:=fun g=>bif Nat.beq g f then some (.clone t) else l g
theorem aN {P:Program}:lR P ctN:=fun f e h=>by cases h
theorem ao {P:Program} {f:Nat} {sg:dM} {F:Plain sg} {l:uy} (h:bJ P f sg F) (k:lR P l):lR P (ctC f sg F l):=fun g e hg=>by
 have hg:(bif Nat.beq g f then some (Mr.fn sg F) else l g)=some e:=hg
 cases hb:Nat.beq g f with
 | true=>rw [hb] at hg;cases hg;rw [beq_eq hb];exact h
 | false=>rw [hb] at hg;exact k g e hg
theorem DZ {P:Program} {f:Nat} {t:Ty} {l:uy} (h:oL P f t) (k:lR P l):lR P (ctL f t l):=fun g e hg=>by
 have hg:(bif Nat.beq g f then some (Mr.clone t) else l g)=some e:=hg
 cases hb:Nat.beq g f with
 | true=>rw [hb] at hg;cases hg;rw [beq_eq hb];exact h
 | false=>rw [hb] at hg;exact k g e hg
theorem Lt {P:Program} {f:Nat} {t:Ty} {l:uy} (h:uv P f t) (k:lR P l):lR P (ctG f t l):=fun g e hg=>by
 have hg:(bif Nat.beq g f then some (Mr.grow t) else l g)=some e:=hg
 cases hb:Nat.beq g f with
 | true=>rw [hb] at hg;cases hg;rw [beq_eq hb];exact h
 | false=>rw [hb] at hg;exact k g e hg
inductive Hz (P:Program):Nat→Nat→Tr (Func×ay)→Prop
 | nil (a b:Nat):Hz P a b .nil
 | no {a b:Nat} {l r:Tr (Func×ay)} (h1:Hz P (2*a) (a+b) l) (h2:Hz P (2*a) (2*a+b) r):Hz P a b (.node l none r)
 | yes {a b:Nat} {fn:Func} {x:ay} {l r:Tr (Func×ay)} (h:aO P b fn x) (h1:Hz P (2*a) (a+b) l) (h2:Hz P (2*a) (2*a+b) r):Hz P a b (.node l (some (fn,x)) r)
theorem K3 {P:Program} {T:Tr (Func×ay)} {a b:Nat} (h:Hz P a b T):∀t fn x,T.get t=some (fn,x)→aO P (a*t+b) fn x:=by
 have key:∀(a b:Nat) (l r:Tr (Func×ay)),(∀t fn x,l.get t=some (fn,x)→aO P (2*a*t+(a+b)) fn x)→(∀t fn x,r.get t=some (fn,x)→aO P (2*a*t+(2*a+b)) fn x) →
   ∀n fn x v,(Tr.node l v r).get (n+1)=some (fn,x)→aO P (a*(n+1)+b) fn x:=by
  intro a b l r hl hr n fn x v ht
  rw [Tr.g6] at ht
  cases hn:Nat.beq (n%2) 0 with
  | true=>
   rw [hn] at ht
   have h0:=Nat.eq_of_beq_eq_true hn
   have:=hl _ fn x ht
   have e1:a*(n+1)+b=2*a*(n / 2)+(a+b):=by
    have:n=2*(n / 2):=by omega
    generalize n / 2=k at this
    subst this
    rw [Nat.mul_add,Nat.mul_one,Nat.mul_comm 2 a,Nat.mul_assoc];omega
   rw [e1];exact this
  | false=>
   rw [hn] at ht
   have h0:n%2≠0:=fun h=>by rw [h] at hn;cases hn
   have:=hr _ fn x ht
   have e1:a*(n+1)+b=2*a*(n / 2)+(2*a+b):=by
    have:n=2*(n / 2)+1:=by omega
    generalize n / 2=k at this
    subst this
    rw [show 2*k+1+1=2*(k+1) by omega,←Nat.mul_assoc,Nat.mul_comm a 2,Nat.mul_add,Nat.mul_one];omega
   rw [e1];exact this
 induction h with
 | nil=>intro t fn x h;cases h
 | no h1 h2 C3 Gr=>
  intro t fn x ht
  cases t with
  | zero=>cases ht
  | succ n=>exact key _ _ _ _ C3 Gr n fn x _ ht
 | yes h h1 h2 C3 Gr=>
  intro t fn x ht
  cases t with
  | zero=>cases ht;rw [Nat.mul_zero,Nat.zero_add];exact h
  | succ n=>exact key _ _ _ _ C3 Gr n fn x _ ht
theorem K2 {P:Program} {T:Tr (Func×ay)} (h:Hz P 1 0 T):wk P (fun f=>T.get f):=fun f fn x hf=>by
 have:=K3 h f fn x hf
 rwa [Nat.one_mul,Nat.add_zero] at this
theorem SM {P:Program} {E:Env} {fns:FT} {hm:List (Nat×Nat)} {rC:uy} (hE:bW P E) (Dg:P.follows .mixedOrders=true) (hF:wk P fns) (hc:lR P rC) (k:Nat) {f:FuncId} {sg:dM} {F:Plain sg} (e:∀x c d,F x c d=JX (YR E fns hm rC k) f sg x c d):bJ P f sg F:=
 (Fl (rb hE Dg hF hc k) f sg).of e
theorem _root_.Go.Bm.V.Iu {g:G} {t:Ty} {f:Bool} {l:List t.T} {v:Value} (hv:V g (.tl t f l) v):(∃a n c,v = .slice (some a) n c∧VD g.mem (.sl t.size f (l.map (cZ t))) v)∨(l=[]∧v = .slice none 0 0):=by
 cases hv with
 | tl _ _ _ _ hd=>
  generalize qb:List.map (cZ t) l=es at hd
  have pa:es.length=l.length:=by rw [←qb,zH]
  have mY:=hd
  cases hd with
  | sV sz full A=>
   cases A with
   | none=>exact .inr ⟨zZ pa.symm,rfl⟩
   | some a=>exact .inl ⟨_,_,_,rfl,mY⟩
  | sl _ _ _ a cap vs hz hc hf hn hx hl hm ER=>
   cases a with
   | some p=>exact .inl ⟨_,_,_,rfl,mY⟩
   | none=>
    have h0:cap=0:=hn rfl
    have h1:es.length=0:=by omega
    refine .inr ⟨zZ (by omega),?_⟩
    rw [h0,h1];rfl
theorem PC.less {P:Program} {f:FuncId} {aa:List A} {S S1 S2:Hp} {r:A} (h:PC P f aa S S1 r) (hs:∀o x,S2.ob o=some x→S1.ob o=some x) (hf:∀o,S2.fr o→S1.fr o):PC P f aa S S2 r:=fun g w vs hI hl hv=>by
 refine (h g w vs hI hl hv).mono ?_
 rintro e w' ⟨v,g',rfl,q1,q2,q3⟩
 exact ⟨v,g',rfl,q1,q2.less hs hf,q3.trans (.less hs hf)⟩
theorem Jj {h:H} {i:Nat} (hl:i<cG):(hp h).ob i=fH h.t i∧((hp h).fr i↔h.aR≤i):=⟨if_pos hl,by show (if i<cG then _ else _)↔_;rw [if_pos hl]⟩
theorem oj {t:Tr gy} {n m:Nat} {l:List Rg} {k k':List Nat} (h:n≤m):(∀o x,(hp ⟨.nil,m,l,k'⟩).ob o=some x→(hp ⟨t,n,l,k⟩).ob o=some x)∧∀o,(hp ⟨.nil,m,l,k'⟩).fr o→(hp ⟨t,n,l,k⟩).fr o:=by
 refine ⟨fun o x e=>?_,fun o e=>?_⟩
 ·by_cases ho:o<cG
  ·rw [(Jj ho).1] at e
   have e0:fH .nil o=none:=by unfold fH;rw [Tr.get_nil]
   rw [show (⟨.nil,m,l,k'⟩:H).t = .nil from rfl,e0] at e
   cases e
  ·rw [(fe ho).1] at e ⊢;exact e
 ·by_cases ho:o<cG
  ·rw [(Jj ho).2] at e ⊢;exact Nat.le_trans h e
  ·rw [(fe ho).2] at e ⊢;exact e
theorem ud {P:Program} {cx:Cx} (hx:ld P cx) {f:FuncId} {t:Ty} {rs:List (Bool×Ty)} {F:List t.T→Option (kc rs×Unit)}
  (hn:Fm cx f ⟨[(false,.aK t)],rs,[],[]⟩ [.v (.slice none 0 0)] () ()=F []) (h1:∀l,Fm cx f ⟨[(false,.aK t)],rs,[],[]⟩ [.nn t l] () ()=F l):bJ P f ⟨[(false,.aK t)],rs,[],[]⟩ (fun x _ _=>F x.1):=by
 refine ⟨fun x c d y h=>(nY hx f _ _ c d y.1 y.2 ((h1 x.1).trans h)).1,fun x c d y d' h=>?_⟩
 obtain ⟨l,u⟩:=x
 obtain ⟨_,t1,n1,k1,p1⟩:=nY hx f _ _ c d y d' ((h1 l).trans h)
 obtain ⟨a1,a2⟩:=oj (t:=t1) (n:=n1) (m:=n1) (l:=dx [] d'++dx [] c) (k:=k1) (k':=k1) (Nat.le_refl _)
 have full:∀m,n1≤m→PC P f [.nn t l] (hp (h0 [] [] c d)) (hp ⟨.nil,m,dx [] d'++dx [] c,k1⟩) (uN rs y):=fun m hm=>p1.less (oj hm).1 (oj hm).2
 cases l with
 | cons a l=>
  refine ⟨.nil,n1,k1,fun g w vs hI hl hv=>?_⟩
  match vs,hl with
  | [v],_=>
   rcases (hv 0 _ _ rfl rfl:V g (.tl t false (a::l)) v).Iu with ⟨b,n,c2,rfl,hd⟩ | ⟨e,_⟩
   ·exact full n1 (Nat.le_refl _) g w _ hI rfl fun i p v e1 e2=>by
     cases i with
     | zero=>cases e1;cases e2;exact .nn _ _ _ _ _ hd
     | succ i=>cases e1
   ·cases e
 | nil=>
  obtain ⟨_,t0,n0,k0,p0⟩:=nY hx f _ _ c d y d' (hn.trans h)
  refine ⟨.nil,n1+n0,k1,fun g w vs hI hl hv=>?_⟩
  match vs,hl with
  | [v],_=>
   rcases (hv 0 _ _ rfl rfl:V g (.tl t false []) v).Iu with ⟨b,n,c2,rfl,hd⟩ | ⟨_,rfl⟩
   ·exact full _ (Nat.le_add_right _ _) g w _ hI rfl fun i p v e1 e2=>by
     cases i with
     | zero=>cases e1;cases e2;exact .nn _ _ _ _ _ hd
     | succ i=>cases e1
   ·exact (p0.less (S2:=hp ⟨.nil,n1+n0,dx [] d'++dx [] c,k1⟩) (oj (Nat.le_add_left _ _)).1 (oj (Nat.le_add_left _ _)).2) g w _ hI rfl fun i p v e1 e2=>by
     cases i with
     | zero=>cases e1;cases e2;exact .v _
     | succ i=>cases e1
end
end Go.Bm
namespace Go.Proofs.YtfffmmahegdfiaaGreat
open Go.Bm
set_option maxRecDepth 20000
def R0:RK:=(.box (.pair (.pair (.int .i64) (.pair (.int .i64) (.pair (.int .i64) (.int .i64)))) (.pair (.jU 9 1) (.pair (.ptr 1) (.pair (.ptr 3) (.pair (.jU 5 1) (.pair (.jU 7 14) (.int .i64))))))))
def R1:RK:=(.box (.jU 2 1))
def R2:RK:=(.row (.int .u8))
def R3:RK:=(.box (.pair (.int .i64) (.pair (.int .i64) (.jU 4 2))))
def R4:RK:=(.row (.pair (.int .i64) (.int .i64)))
def R5:RK:=(.row (.ptr 6))
def R6:RK:=(.box (.pair (.aK (.pair (.int .u8) (.pair (.int .u8) (.pair (.int .u8) (.pair (.int .u8) (.pair (.int .i64) (.pair (.int .i64) (.int .i64)))))))) (.pair (.jU 8 1) (.pair (.aK (.pair (.int .i64) .bool)) (.pair (.pair (.pair (.int .u8) (.pair (.int .u8) (.pair (.int .u8) (.pair (.int .u8) (.pair (.int .i64) (.pair (.int .i64) (.int .i64))))))) (.pair (.int .i64) (.pair (.int .i64) (.pair (.int .u64) (.pair (.int .u64) (.pair (.aK (.pair (.int .i64) .bool)) (.pair (.int .u64) (.pair (.int .u64) (.pair (.int .i64) (.pair (.int .i64) (.pair (.aK (.int .i64)) (.pair (.int .i64) (.pair (.aK (.int .i64)) (.pair (.int .i64) (.pair .bool (.pair .bool (.pair .bool (.pair (.int .i64) (.pair (.int .i64) (.aK (.int .i64))))))))))))))))))))) (.pair .bool (.int .i64)))))))
def R7:RK:=(.row (.pair (.int .i64) (.pair (.pair (.int .u8) (.pair (.int .u8) (.pair (.int .u8) (.pair (.int .u8) (.pair (.int .i64) (.pair (.int .i64) (.int .i64))))))) (.pair (.int .i64) (.pair (.int .i64) (.pair (.int .i64) (.pair (.int .i64) (.pair (.int .i64) (.aK (.int .i64))))))))))
def R8:RK:=(.row (.int .u64))
def R9:RK:=(.row (.aK (.pair (.int .u8) (.pair (.int .i64) (.int .i64)))))
def ty1:cS:=⟨.func #[] #[] false,1,8,.nilFunc,[],none,false⟩
theorem te1:bt Tryz.prog 1 ty1:=az Tryz.underlying1 (aT (by kernel_rfl) rfl rfl) (fun _ h=>by cases h) (j0 rfl)
def ty2:cS:=⟨.int .i64,1,8,.int .i64 0,[],(some (.int .i64)),false⟩
theorem te2:bt Tryz.prog 2 ty2:=az Tryz.underlying2 (aT (by kernel_rfl) rfl rfl) (fun _ h=>by cases h) (aQ rfl (by kernel_rfl) (by kernel_rfl))
def ty3:cS:=⟨.int .i64,1,8,.int .i64 0,[],(some (.int .i64)),false⟩
theorem Vw:bt Tryz.prog 3 ty3:=az Tryz.underlying3 (aT (by kernel_rfl) rfl rfl) (fun _ h=>by cases h) (aQ rfl (by kernel_rfl) (by kernel_rfl))
def ty4:cS:=⟨.bool,1,1,.bool false,[],(some .bool),false⟩
theorem te4:bt Tryz.prog 4 ty4:=az Tryz.underlying4 (aT (by kernel_rfl) rfl rfl) (fun _ h=>by cases h) (aQ rfl (by kernel_rfl) (by kernel_rfl))
def ty5:cS:=⟨.int .u8,1,1,.int .u8 0,[],(some (.int .u8)),false⟩
theorem te5:bt Tryz.prog 5 ty5:=az Tryz.underlying5 (aT (by kernel_rfl) rfl rfl) (fun _ h=>by cases h) (aQ rfl (by kernel_rfl) (by kernel_rfl))
def ty9:cS:=⟨.string,1,16,.string ByteArray.empty,[],none,false⟩
theorem te9:bt Tryz.prog 9 ty9:=az Tryz.underlying9 (aT (by kernel_rfl) rfl rfl) (fun _ h=>by cases h) (j0 rfl)
def Oh:cS:=⟨.int .u64,1,8,.int .u64 0,[],(some (.int .u64)),false⟩
theorem VH:bt Tryz.prog 12 Oh:=az Tryz.underlying12 (aT (by kernel_rfl) rfl rfl) (fun _ h=>by cases h) (aQ rfl (by kernel_rfl) (by kernel_rfl))
def Og : cS := ⟨.struct #[⟨"msg", 9, 0, false, "", "runtime", 0⟩, ⟨"addr", 12, 1, false, "", "runtime", 16⟩], 2, 24, .agg #[.string ByteArray.empty, .int .u64 0], [(0, 1), (1, 1)], none, false⟩
theorem VG:bt Tryz.prog 13 Og:=az Tryz.underlying13 (aT (by kernel_rfl) rfl rfl) (fun fs h w=>by cases h;kernel_rfl) (j0 rfl)
def Of:cS:=⟨.int .i32,1,4,.int .i32 0,[],(some (.int .i32)),false⟩
theorem VF:bt Tryz.prog 21 Of:=az Tryz.underlying21 (aT (by kernel_rfl) rfl rfl) (fun _ h=>by cases h) (aQ rfl (by kernel_rfl) (by kernel_rfl))
def Oe : cS := ⟨.struct #[⟨"Scopes", 3, 0, false, "", "", 0⟩, ⟨"Threads", 3, 1, false, "", "", 8⟩, ⟨"Immortal", 3, 2, false, "", "", 16⟩, ⟨"Heap", 3, 3, false, "", "", 24⟩], 4, 32, .agg #[.int .i64 0, .int .i64 0, .int .i64 0, .int .i64 0], [(0, 1), (1, 1), (2, 1), (3, 1)], (some (.pair (.int .i64) (.pair (.int .i64) (.pair (.int .i64) (.int .i64))))), false⟩
theorem VE:bt Tryz.prog 22 Oe:=az Tryz.underlying22 (aT (by kernel_rfl) rfl rfl) (fun fs h w=>by cases h;kernel_rfl) (aQ rfl (by kernel_rfl) (by kernel_rfl))
def Od : cS := ⟨.struct #[⟨"Scopes", 3, 0, false, "", "", 0⟩, ⟨"Threads", 3, 1, false, "", "", 8⟩, ⟨"Immortal", 3, 2, false, "", "", 16⟩, ⟨"Heap", 3, 3, false, "", "", 24⟩], 4, 32, .agg #[.int .i64 0, .int .i64 0, .int .i64 0, .int .i64 0], [(0, 1), (1, 1), (2, 1), (3, 1)], (some (.pair (.int .i64) (.pair (.int .i64) (.pair (.int .i64) (.int .i64))))), false⟩
theorem VC:bt Tryz.prog 23 Od:=az Tryz.underlying23 (aT (by kernel_rfl) rfl rfl) (fun fs h w=>by cases h;kernel_rfl) (aQ rfl (by kernel_rfl) (by kernel_rfl))
def Oc:cS:=⟨.slice 59,1,24,.slice none 0 0,[],(some (.aK (.aK (.pair (.int .u8) (.pair (.int .i64) (.int .i64)))))),false⟩
theorem VB:bt Tryz.prog 24 Oc:=az Tryz.underlying24 (aT (by kernel_rfl) rfl rfl) (fun _ h=>by cases h) (aQ rfl (by kernel_rfl) (by kernel_rfl))
def Oa:cS:=⟨.slice 49,1,24,.slice none 0 0,[],(some (.aK (.aK (.pair (.int .u8) (.pair (.int .u8) (.pair (.int .u8) (.pair (.int .u8) (.pair (.int .i64) (.pair (.int .i64) (.int .i64)))))))))),false⟩
theorem VA:bt Tryz.prog 25 Oa:=az Tryz.underlying25 (aT (by kernel_rfl) rfl rfl) (fun _ h=>by cases h) (aQ rfl (by kernel_rfl) (by kernel_rfl))
def N_ : cS := ⟨.struct #[⟨"P", 23, 0, false, "", "", 0⟩, ⟨"Fins", 24, 4, false, "", "", 32⟩, ⟨"Progs", 25, 5, false, "", "", 56⟩], 6, 80, .agg #[.int .i64 0, .int .i64 0, .int .i64 0, .int .i64 0, .slice none 0 0, .slice none 0 0], [(0, 4), (4, 1), (5, 1)], (some (.pair (.pair (.int .i64) (.pair (.int .i64) (.pair (.int .i64) (.int .i64)))) (.pair (.aK (.aK (.pair (.int .u8) (.pair (.int .i64) (.int .i64))))) (.aK (.aK (.pair (.int .u8) (.pair (.int .u8) (.pair (.int .u8) (.pair (.int .u8) (.pair (.int .i64) (.pair (.int .i64) (.int .i64)))))))))))), false⟩
theorem Vz:bt Tryz.prog 26 N_:=az Tryz.underlying26 (aT (by kernel_rfl) rfl rfl) (fun fs h w=>by cases h;kernel_rfl) (aQ rfl (by kernel_rfl) (by kernel_rfl))
def N9 : cS := ⟨.struct #[⟨"P", 23, 0, false, "", "", 0⟩, ⟨"Fins", 24, 4, false, "", "", 32⟩, ⟨"Progs", 25, 5, false, "", "", 56⟩], 6, 80, .agg #[.int .i64 0, .int .i64 0, .int .i64 0, .int .i64 0, .slice none 0 0, .slice none 0 0], [(0, 4), (4, 1), (5, 1)], (some (.pair (.pair (.int .i64) (.pair (.int .i64) (.pair (.int .i64) (.int .i64)))) (.pair (.aK (.aK (.pair (.int .u8) (.pair (.int .i64) (.int .i64))))) (.aK (.aK (.pair (.int .u8) (.pair (.int .u8) (.pair (.int .u8) (.pair (.int .u8) (.pair (.int .i64) (.pair (.int .i64) (.int .i64)))))))))))), false⟩
theorem Vy:bt Tryz.prog 27 N9:=az Tryz.underlying27 (aT (by kernel_rfl) rfl rfl) (fun fs h w=>by cases h;kernel_rfl) (aQ rfl (by kernel_rfl) (by kernel_rfl))
def N8:cS:=⟨.slice 5,1,24,.slice none 0 0,[],(some (.aK (.int .u8))),false⟩
theorem Vx:bt Tryz.prog 28 N8:=az Tryz.underlying28 (aT (by kernel_rfl) rfl rfl) (fun _ h=>by cases h) (aQ rfl (by kernel_rfl) (by kernel_rfl))
def N7:cS:=⟨.pointer 75,1,8,.pointer none,[],(some (.ptr 0)),false⟩
theorem Vv:bt Tryz.prog 32 N7:=az Tryz.underlying32 (aT (by kernel_rfl) rfl rfl) (fun _ h=>by cases h) (aQ rfl (by kernel_rfl) (by kernel_rfl))
def N6:cS:=⟨.int .i64,1,8,.int .i64 0,[],(some (.int .i64)),false⟩
theorem Vu:bt Tryz.prog 33 N6:=az Tryz.underlying33 (aT (by kernel_rfl) rfl rfl) (fun _ h=>by cases h) (aQ rfl (by kernel_rfl) (by kernel_rfl))
def N5:cS:=⟨.array 4 3,4,32,.agg #[.int .i64 0,.int .i64 0,.int .i64 0,.int .i64 0],[],(some (.arr 4 (.int .i64))),false⟩
theorem Vt:bt Tryz.prog 36 N5:=az Tryz.underlying36 (aT (by kernel_rfl) rfl rfl) (fun _ h=>by cases h) (aQ rfl (by kernel_rfl) (by kernel_rfl))
def N4:cS:=⟨.slice 47,1,24,.slice none 0 0,[],(some (.aK (.pair (.int .i64) (.pair (.pair (.int .u8) (.pair (.int .u8) (.pair (.int .u8) (.pair (.int .u8) (.pair (.int .i64) (.pair (.int .i64) (.int .i64))))))) (.pair (.int .i64) (.pair (.int .i64) (.pair (.int .i64) (.pair (.int .i64) (.pair (.int .i64) (.aK (.int .i64))))))))))),false⟩
theorem Fg:bt Tryz.prog 39 N4:=az Tryz.underlying39 (aT (by kernel_rfl) rfl rfl) (fun _ h=>by cases h) (aQ rfl (by kernel_rfl) (by kernel_rfl))
def N3 : cS := ⟨.struct #[⟨"Op", 5, 0, false, "", "", 0⟩, ⟨"R", 5, 1, false, "", "", 1⟩, ⟨"H", 5, 2, false, "", "", 2⟩, ⟨"V", 5, 3, false, "", "", 3⟩, ⟨"A", 3, 4, false, "", "", 8⟩, ⟨"B", 3, 5, false, "", "", 16⟩, ⟨"C", 3, 6, false, "", "", 24⟩], 7, 32, .agg #[.int .u8 0, .int .u8 0, .int .u8 0, .int .u8 0, .int .i64 0, .int .i64 0, .int .i64 0], [(0, 1), (1, 1), (2, 1), (3, 1), (4, 1), (5, 1), (6, 1)], (some (.pair (.int .u8) (.pair (.int .u8) (.pair (.int .u8) (.pair (.int .u8) (.pair (.int .i64) (.pair (.int .i64) (.int .i64)))))))), false⟩
theorem Vr:bt Tryz.prog 41 N3:=az Tryz.underlying41 (aT (by kernel_rfl) rfl rfl) (fun fs h w=>by cases h;kernel_rfl) (aQ rfl (by kernel_rfl) (by kernel_rfl))
def N2 : cS := ⟨.struct #[⟨"Op", 5, 0, false, "", "", 0⟩, ⟨"R", 5, 1, false, "", "", 1⟩, ⟨"H", 5, 2, false, "", "", 2⟩, ⟨"V", 5, 3, false, "", "", 3⟩, ⟨"A", 3, 4, false, "", "", 8⟩, ⟨"B", 3, 5, false, "", "", 16⟩, ⟨"C", 3, 6, false, "", "", 24⟩], 7, 32, .agg #[.int .u8 0, .int .u8 0, .int .u8 0, .int .u8 0, .int .i64 0, .int .i64 0, .int .i64 0], [(0, 1), (1, 1), (2, 1), (3, 1), (4, 1), (5, 1), (6, 1)], (some (.pair (.int .u8) (.pair (.int .u8) (.pair (.int .u8) (.pair (.int .u8) (.pair (.int .i64) (.pair (.int .i64) (.int .i64)))))))), false⟩
theorem Vq:bt Tryz.prog 42 N2:=az Tryz.underlying42 (aT (by kernel_rfl) rfl rfl) (fun fs h w=>by cases h;kernel_rfl) (aQ rfl (by kernel_rfl) (by kernel_rfl))
def N1:cS:=⟨.slice 3,1,24,.slice none 0 0,[],(some (.aK (.int .i64))),false⟩
theorem Ff:bt Tryz.prog 43 N1:=az Tryz.underlying43 (aT (by kernel_rfl) rfl rfl) (fun _ h=>by cases h) (aQ rfl (by kernel_rfl) (by kernel_rfl))
def N0 : cS := ⟨.struct #[⟨"Code", 33, 0, false, "", "", 0⟩, ⟨"N", 3, 1, false, "", "", 8⟩, ⟨"Said", 43, 2, false, "", "", 16⟩], 3, 40, .agg #[.int .i64 0, .int .i64 0, .slice none 0 0], [(0, 1), (1, 1), (2, 1)], (some (.pair (.int .i64) (.pair (.int .i64) (.aK (.int .i64))))), false⟩
theorem Vp:bt Tryz.prog 44 N0:=az Tryz.underlying44 (aT (by kernel_rfl) rfl rfl) (fun fs h w=>by cases h;kernel_rfl) (aQ rfl (by kernel_rfl) (by kernel_rfl))
def NZ : cS := ⟨.struct #[⟨"Code", 33, 0, false, "", "", 0⟩, ⟨"N", 3, 1, false, "", "", 8⟩, ⟨"Said", 43, 2, false, "", "", 16⟩], 3, 40, .agg #[.int .i64 0, .int .i64 0, .slice none 0 0], [(0, 1), (1, 1), (2, 1)], (some (.pair (.int .i64) (.pair (.int .i64) (.aK (.int .i64))))), false⟩
theorem Vo:bt Tryz.prog 45 NZ:=az Tryz.underlying45 (aT (by kernel_rfl) rfl rfl) (fun fs h w=>by cases h;kernel_rfl) (aQ rfl (by kernel_rfl) (by kernel_rfl))
def NY : cS := ⟨.struct #[⟨"Thread", 3, 0, false, "", "", 0⟩, ⟨"Call", 42, 1, false, "", "", 8⟩, ⟨"From", 3, 8, false, "", "", 40⟩, ⟨"Point", 3, 9, false, "", "", 48⟩, ⟨"To", 3, 10, false, "", "", 56⟩, ⟨"Answer", 45, 11, false, "", "", 64⟩], 14, 104, .agg #[.int .i64 0, .int .u8 0, .int .u8 0, .int .u8 0, .int .u8 0, .int .i64 0, .int .i64 0, .int .i64 0, .int .i64 0, .int .i64 0, .int .i64 0, .int .i64 0, .int .i64 0, .slice none 0 0], [(0, 1), (1, 7), (8, 1), (9, 1), (10, 1), (11, 3)], (some (.pair (.int .i64) (.pair (.pair (.int .u8) (.pair (.int .u8) (.pair (.int .u8) (.pair (.int .u8) (.pair (.int .i64) (.pair (.int .i64) (.int .i64))))))) (.pair (.int .i64) (.pair (.int .i64) (.pair (.int .i64) (.pair (.int .i64) (.pair (.int .i64) (.aK (.int .i64)))))))))), false⟩
theorem Vn:bt Tryz.prog 46 NY:=az Tryz.underlying46 (aT (by kernel_rfl) rfl rfl) (fun fs h w=>by cases h;kernel_rfl) (aQ rfl (by kernel_rfl) (by kernel_rfl))
def NX : cS := ⟨.struct #[⟨"Thread", 3, 0, false, "", "", 0⟩, ⟨"Call", 42, 1, false, "", "", 8⟩, ⟨"From", 3, 8, false, "", "", 40⟩, ⟨"Point", 3, 9, false, "", "", 48⟩, ⟨"To", 3, 10, false, "", "", 56⟩, ⟨"Answer", 45, 11, false, "", "", 64⟩], 14, 104, .agg #[.int .i64 0, .int .u8 0, .int .u8 0, .int .u8 0, .int .u8 0, .int .i64 0, .int .i64 0, .int .i64 0, .int .i64 0, .int .i64 0, .int .i64 0, .int .i64 0, .int .i64 0, .slice none 0 0], [(0, 1), (1, 7), (8, 1), (9, 1), (10, 1), (11, 3)], (some (.pair (.int .i64) (.pair (.pair (.int .u8) (.pair (.int .u8) (.pair (.int .u8) (.pair (.int .u8) (.pair (.int .i64) (.pair (.int .i64) (.int .i64))))))) (.pair (.int .i64) (.pair (.int .i64) (.pair (.int .i64) (.pair (.int .i64) (.pair (.int .i64) (.aK (.int .i64)))))))))), false⟩
theorem Oo:bt Tryz.prog 47 NX:=az Tryz.underlying47 (aT (by kernel_rfl) rfl rfl) (fun fs h w=>by cases h;kernel_rfl) (aQ rfl (by kernel_rfl) (by kernel_rfl))
def NW:cS:=⟨.slice 42,1,24,.slice none 0 0,[],(some (.aK (.pair (.int .u8) (.pair (.int .u8) (.pair (.int .u8) (.pair (.int .u8) (.pair (.int .i64) (.pair (.int .i64) (.int .i64))))))))),false⟩
theorem Vm:bt Tryz.prog 49 NW:=az Tryz.underlying49 (aT (by kernel_rfl) rfl rfl) (fun _ h=>by cases h) (aQ rfl (by kernel_rfl) (by kernel_rfl))
def NV:cS:=⟨.slice 80,1,24,.slice none 0 0,[],(some (.aK (.int .u64))),false⟩
theorem Vl:bt Tryz.prog 51 NV:=az Tryz.underlying51 (aT (by kernel_rfl) rfl rfl) (fun _ h=>by cases h) (aQ rfl (by kernel_rfl) (by kernel_rfl))
def NU:cS:=⟨.array 4 51,4,96,.agg #[.slice none 0 0,.slice none 0 0,.slice none 0 0,.slice none 0 0],[],(some (.arr 4 (.aK (.int .u64)))),false⟩
theorem Vk:bt Tryz.prog 52 NU:=az Tryz.underlying52 (aT (by kernel_rfl) rfl rfl) (fun _ h=>by cases h) (aQ rfl (by kernel_rfl) (by kernel_rfl))
def NT:cS:=⟨.slice 95,1,24,.slice none 0 0,[],(some (.aK (.pair (.int .i64) .bool))),false⟩
theorem Vj:bt Tryz.prog 53 NT:=az Tryz.underlying53 (aT (by kernel_rfl) rfl rfl) (fun _ h=>by cases h) (aQ rfl (by kernel_rfl) (by kernel_rfl))
def NS:cS:=⟨.array 4 53,4,96,.agg #[.slice none 0 0,.slice none 0 0,.slice none 0 0,.slice none 0 0],[],(some (.arr 4 (.aK (.pair (.int .i64) .bool)))),false⟩
theorem Vi:bt Tryz.prog 54 NS:=az Tryz.underlying54 (aT (by kernel_rfl) rfl rfl) (fun _ h=>by cases h) (aQ rfl (by kernel_rfl) (by kernel_rfl))
def NR:cS:=⟨.slice 78,1,24,.slice none 0 0,[],(some (.aK (.pair (.int .u8) (.pair (.int .i64) (.int .i64))))),false⟩
theorem Vh:bt Tryz.prog 59 NR:=az Tryz.underlying59 (aT (by kernel_rfl) rfl rfl) (fun _ h=>by cases h) (aQ rfl (by kernel_rfl) (by kernel_rfl))
def NQ:cS:=⟨.pointer 140,1,8,.pointer none,[],(some (.ptr 1)),false⟩
theorem Vg:bt Tryz.prog 69 NQ:=az Tryz.underlying69 (aT (by kernel_rfl) rfl rfl) (fun _ h=>by cases h) (aQ rfl (by kernel_rfl) (by kernel_rfl))
def NP:cS:=⟨.pointer 143,1,8,.pointer none,[],(some (.ptr 3)),false⟩
theorem Vf:bt Tryz.prog 70 NP:=az Tryz.underlying70 (aT (by kernel_rfl) rfl rfl) (fun _ h=>by cases h) (aQ rfl (by kernel_rfl) (by kernel_rfl))
def NO:cS:=⟨.slice 79,1,24,.slice none 0 0,[],none,false⟩
theorem Ve:bt Tryz.prog 73 NO:=az Tryz.underlying73 (aT (by kernel_rfl) rfl rfl) (fun _ h=>by cases h) (j0 rfl)
def NN : cS := ⟨.struct #[⟨"p", 23, 0, false, "", "penfold/world", 0⟩, ⟨"fins", 24, 4, false, "", "penfold/world", 32⟩, ⟨"arena", 69, 5, false, "", "penfold/world", 56⟩, ⟨"ground", 70, 6, false, "", "penfold/world", 64⟩, ⟨"threads", 73, 7, false, "", "penfold/world", 72⟩, ⟨"ops", 39, 8, false, "", "penfold/world", 96⟩, ⟨"steps", 3, 9, false, "", "penfold/world", 120⟩], 10, 128, .agg #[.int .i64 0, .int .i64 0, .int .i64 0, .int .i64 0, .slice none 0 0, .pointer none, .pointer none, .slice none 0 0, .slice none 0 0, .int .i64 0], [(0, 4), (4, 1), (5, 1), (6, 1), (7, 1), (8, 1), (9, 1)], none, false⟩
theorem Vd:bt Tryz.prog 74 NN:=az Tryz.underlying74 (aT (by kernel_rfl) rfl rfl) (fun fs h w=>by cases h;kernel_rfl) (j0 rfl)
def NM : cS := ⟨.struct #[⟨"p", 23, 0, false, "", "penfold/world", 0⟩, ⟨"fins", 24, 4, false, "", "penfold/world", 32⟩, ⟨"arena", 69, 5, false, "", "penfold/world", 56⟩, ⟨"ground", 70, 6, false, "", "penfold/world", 64⟩, ⟨"threads", 73, 7, false, "", "penfold/world", 72⟩, ⟨"ops", 39, 8, false, "", "penfold/world", 96⟩, ⟨"steps", 3, 9, false, "", "penfold/world", 120⟩], 10, 128, .agg #[.int .i64 0, .int .i64 0, .int .i64 0, .int .i64 0, .slice none 0 0, .pointer none, .pointer none, .slice none 0 0, .slice none 0 0, .int .i64 0], [(0, 4), (4, 1), (5, 1), (6, 1), (7, 1), (8, 1), (9, 1)], (some (.pair (.pair (.int .i64) (.pair (.int .i64) (.pair (.int .i64) (.int .i64)))) (.pair (.jU 9 1) (.pair (.ptr 1) (.pair (.ptr 3) (.pair (.jU 5 1) (.pair (.jU 7 14) (.int .i64)))))))), false⟩
theorem Vc:bt Tryz.prog 75 NM:=az Tryz.underlying75 (aT (by kernel_rfl) rfl rfl) (fun fs h w=>by cases h;kernel_rfl) (aQ rfl (by kernel_rfl) (by kernel_rfl))
def NL : cS := ⟨.struct #[⟨"Op", 5, 0, false, "", "", 0⟩, ⟨"A", 3, 1, false, "", "", 8⟩, ⟨"B", 3, 2, false, "", "", 16⟩], 3, 24, .agg #[.int .u8 0, .int .i64 0, .int .i64 0], [(0, 1), (1, 1), (2, 1)], (some (.pair (.int .u8) (.pair (.int .i64) (.int .i64)))), false⟩
theorem Vb:bt Tryz.prog 77 NL:=az Tryz.underlying77 (aT (by kernel_rfl) rfl rfl) (fun fs h w=>by cases h;kernel_rfl) (aQ rfl (by kernel_rfl) (by kernel_rfl))
def NK : cS := ⟨.struct #[⟨"Op", 5, 0, false, "", "", 0⟩, ⟨"A", 3, 1, false, "", "", 8⟩, ⟨"B", 3, 2, false, "", "", 16⟩], 3, 24, .agg #[.int .u8 0, .int .i64 0, .int .i64 0], [(0, 1), (1, 1), (2, 1)], (some (.pair (.int .u8) (.pair (.int .i64) (.int .i64)))), false⟩
theorem Va:bt Tryz.prog 78 NK:=az Tryz.underlying78 (aT (by kernel_rfl) rfl rfl) (fun fs h w=>by cases h;kernel_rfl) (aQ rfl (by kernel_rfl) (by kernel_rfl))
def NJ:cS:=⟨.pointer 84,1,8,.pointer none,[],(some (.ptr 6)),false⟩
theorem U_:bt Tryz.prog 79 NJ:=az Tryz.underlying79 (aT (by kernel_rfl) rfl rfl) (fun _ h=>by cases h) (aQ rfl (by kernel_rfl) (by kernel_rfl))
def NI:cS:=⟨.int .u64,1,8,.int .u64 0,[],(some (.int .u64)),false⟩
theorem UZ:bt Tryz.prog 80 NI:=az Tryz.underlying80 (aT (by kernel_rfl) rfl rfl) (fun _ h=>by cases h) (aQ rfl (by kernel_rfl) (by kernel_rfl))
def NH : cS := ⟨.struct #[⟨"Call", 42, 0, false, "", "", 0⟩, ⟨"Pc", 3, 7, false, "", "", 32⟩, ⟨"Area", 3, 8, false, "", "", 40⟩, ⟨"Hand", 80, 9, false, "", "", 48⟩, ⟨"Val", 80, 10, false, "", "", 56⟩, ⟨"Chain", 53, 11, false, "", "", 64⟩, ⟨"Word", 80, 12, false, "", "", 88⟩, ⟨"Next", 80, 13, false, "", "", 96⟩, ⟨"At", 3, 14, false, "", "", 104⟩, ⟨"Top", 3, 15, false, "", "", 112⟩, ⟨"List", 43, 16, false, "", "", 120⟩, ⟨"Op", 3, 17, false, "", "", 144⟩, ⟨"Said", 43, 18, false, "", "", 152⟩, ⟨"N", 3, 19, false, "", "", 176⟩, ⟨"Held", 4, 20, false, "", "", 184⟩, ⟨"Done", 4, 21, false, "", "", 185⟩, ⟨"Point", 4, 22, false, "", "", 186⟩, ⟨"Answer", 45, 23, false, "", "", 192⟩], 26, 232, .agg #[.int .u8 0, .int .u8 0, .int .u8 0, .int .u8 0, .int .i64 0, .int .i64 0, .int .i64 0, .int .i64 0, .int .i64 0, .int .u64 0, .int .u64 0, .slice none 0 0, .int .u64 0, .int .u64 0, .int .i64 0, .int .i64 0, .slice none 0 0, .int .i64 0, .slice none 0 0, .int .i64 0, .bool false, .bool false, .bool false, .int .i64 0, .int .i64 0, .slice none 0 0], [(0, 7), (7, 1), (8, 1), (9, 1), (10, 1), (11, 1), (12, 1), (13, 1), (14, 1), (15, 1), (16, 1), (17, 1), (18, 1), (19, 1), (20, 1), (21, 1), (22, 1), (23, 3)], (some (.pair (.pair (.int .u8) (.pair (.int .u8) (.pair (.int .u8) (.pair (.int .u8) (.pair (.int .i64) (.pair (.int .i64) (.int .i64))))))) (.pair (.int .i64) (.pair (.int .i64) (.pair (.int .u64) (.pair (.int .u64) (.pair (.aK (.pair (.int .i64) .bool)) (.pair (.int .u64) (.pair (.int .u64) (.pair (.int .i64) (.pair (.int .i64) (.pair (.aK (.int .i64)) (.pair (.int .i64) (.pair (.aK (.int .i64)) (.pair (.int .i64) (.pair .bool (.pair .bool (.pair .bool (.pair (.int .i64) (.pair (.int .i64) (.aK (.int .i64)))))))))))))))))))))), false⟩
theorem UY:bt Tryz.prog 81 NH:=az Tryz.underlying81 (aT (by kernel_rfl) rfl rfl) (fun fs h w=>by cases h;kernel_rfl) (aQ rfl (by kernel_rfl) (by kernel_rfl))
def NG : cS := ⟨.struct #[⟨"Call", 42, 0, false, "", "", 0⟩, ⟨"Pc", 3, 7, false, "", "", 32⟩, ⟨"Area", 3, 8, false, "", "", 40⟩, ⟨"Hand", 80, 9, false, "", "", 48⟩, ⟨"Val", 80, 10, false, "", "", 56⟩, ⟨"Chain", 53, 11, false, "", "", 64⟩, ⟨"Word", 80, 12, false, "", "", 88⟩, ⟨"Next", 80, 13, false, "", "", 96⟩, ⟨"At", 3, 14, false, "", "", 104⟩, ⟨"Top", 3, 15, false, "", "", 112⟩, ⟨"List", 43, 16, false, "", "", 120⟩, ⟨"Op", 3, 17, false, "", "", 144⟩, ⟨"Said", 43, 18, false, "", "", 152⟩, ⟨"N", 3, 19, false, "", "", 176⟩, ⟨"Held", 4, 20, false, "", "", 184⟩, ⟨"Done", 4, 21, false, "", "", 185⟩, ⟨"Point", 4, 22, false, "", "", 186⟩, ⟨"Answer", 45, 23, false, "", "", 192⟩], 26, 232, .agg #[.int .u8 0, .int .u8 0, .int .u8 0, .int .u8 0, .int .i64 0, .int .i64 0, .int .i64 0, .int .i64 0, .int .i64 0, .int .u64 0, .int .u64 0, .slice none 0 0, .int .u64 0, .int .u64 0, .int .i64 0, .int .i64 0, .slice none 0 0, .int .i64 0, .slice none 0 0, .int .i64 0, .bool false, .bool false, .bool false, .int .i64 0, .int .i64 0, .slice none 0 0], [(0, 7), (7, 1), (8, 1), (9, 1), (10, 1), (11, 1), (12, 1), (13, 1), (14, 1), (15, 1), (16, 1), (17, 1), (18, 1), (19, 1), (20, 1), (21, 1), (22, 1), (23, 3)], (some (.pair (.pair (.int .u8) (.pair (.int .u8) (.pair (.int .u8) (.pair (.int .u8) (.pair (.int .i64) (.pair (.int .i64) (.int .i64))))))) (.pair (.int .i64) (.pair (.int .i64) (.pair (.int .u64) (.pair (.int .u64) (.pair (.aK (.pair (.int .i64) .bool)) (.pair (.int .u64) (.pair (.int .u64) (.pair (.int .i64) (.pair (.int .i64) (.pair (.aK (.int .i64)) (.pair (.int .i64) (.pair (.aK (.int .i64)) (.pair (.int .i64) (.pair .bool (.pair .bool (.pair .bool (.pair (.int .i64) (.pair (.int .i64) (.aK (.int .i64)))))))))))))))))))))), false⟩
theorem UX:bt Tryz.prog 82 NG:=az Tryz.underlying82 (aT (by kernel_rfl) rfl rfl) (fun fs h w=>by cases h;kernel_rfl) (aQ rfl (by kernel_rfl) (by kernel_rfl))
def NF : cS := ⟨.struct #[⟨"calls", 49, 0, false, "", "penfold/world", 0⟩, ⟨"regs", 51, 1, false, "", "penfold/world", 24⟩, ⟨"entries", 53, 2, false, "", "penfold/world", 48⟩, ⟨"run", 82, 3, false, "", "penfold/world", 72⟩, ⟨"busy", 4, 29, false, "", "penfold/world", 304⟩, ⟨"at", 3, 30, false, "", "penfold/world", 312⟩], 31, 320, .agg #[.slice none 0 0, .slice none 0 0, .slice none 0 0, .int .u8 0, .int .u8 0, .int .u8 0, .int .u8 0, .int .i64 0, .int .i64 0, .int .i64 0, .int .i64 0, .int .i64 0, .int .u64 0, .int .u64 0, .slice none 0 0, .int .u64 0, .int .u64 0, .int .i64 0, .int .i64 0, .slice none 0 0, .int .i64 0, .slice none 0 0, .int .i64 0, .bool false, .bool false, .bool false, .int .i64 0, .int .i64 0, .slice none 0 0, .bool false, .int .i64 0], [(0, 1), (1, 1), (2, 1), (3, 26), (29, 1), (30, 1)], (some (.pair (.aK (.pair (.int .u8) (.pair (.int .u8) (.pair (.int .u8) (.pair (.int .u8) (.pair (.int .i64) (.pair (.int .i64) (.int .i64)))))))) (.pair (.aK (.int .u64)) (.pair (.aK (.pair (.int .i64) .bool)) (.pair (.pair (.pair (.int .u8) (.pair (.int .u8) (.pair (.int .u8) (.pair (.int .u8) (.pair (.int .i64) (.pair (.int .i64) (.int .i64))))))) (.pair (.int .i64) (.pair (.int .i64) (.pair (.int .u64) (.pair (.int .u64) (.pair (.aK (.pair (.int .i64) .bool)) (.pair (.int .u64) (.pair (.int .u64) (.pair (.int .i64) (.pair (.int .i64) (.pair (.aK (.int .i64)) (.pair (.int .i64) (.pair (.aK (.int .i64)) (.pair (.int .i64) (.pair .bool (.pair .bool (.pair .bool (.pair (.int .i64) (.pair (.int .i64) (.aK (.int .i64))))))))))))))))))))) (.pair .bool (.int .i64))))))), false⟩
theorem UW:bt Tryz.prog 83 NF:=az Tryz.underlying83 (aT (by kernel_rfl) rfl rfl) (fun fs h w=>by cases h;kernel_rfl) (aQ rfl (by kernel_rfl) (by kernel_rfl))
def ND : cS := ⟨.struct #[⟨"calls", 49, 0, false, "", "penfold/world", 0⟩, ⟨"regs", 51, 1, false, "", "penfold/world", 24⟩, ⟨"entries", 53, 2, false, "", "penfold/world", 48⟩, ⟨"run", 82, 3, false, "", "penfold/world", 72⟩, ⟨"busy", 4, 29, false, "", "penfold/world", 304⟩, ⟨"at", 3, 30, false, "", "penfold/world", 312⟩], 31, 320, .agg #[.slice none 0 0, .slice none 0 0, .slice none 0 0, .int .u8 0, .int .u8 0, .int .u8 0, .int .u8 0, .int .i64 0, .int .i64 0, .int .i64 0, .int .i64 0, .int .i64 0, .int .u64 0, .int .u64 0, .slice none 0 0, .int .u64 0, .int .u64 0, .int .i64 0, .int .i64 0, .slice none 0 0, .int .i64 0, .slice none 0 0, .int .i64 0, .bool false, .bool false, .bool false, .int .i64 0, .int .i64 0, .slice none 0 0, .bool false, .int .i64 0], [(0, 1), (1, 1), (2, 1), (3, 26), (29, 1), (30, 1)], (some (.pair (.aK (.pair (.int .u8) (.pair (.int .u8) (.pair (.int .u8) (.pair (.int .u8) (.pair (.int .i64) (.pair (.int .i64) (.int .i64)))))))) (.pair (.jU 8 1) (.pair (.aK (.pair (.int .i64) .bool)) (.pair (.pair (.pair (.int .u8) (.pair (.int .u8) (.pair (.int .u8) (.pair (.int .u8) (.pair (.int .i64) (.pair (.int .i64) (.int .i64))))))) (.pair (.int .i64) (.pair (.int .i64) (.pair (.int .u64) (.pair (.int .u64) (.pair (.aK (.pair (.int .i64) .bool)) (.pair (.int .u64) (.pair (.int .u64) (.pair (.int .i64) (.pair (.int .i64) (.pair (.aK (.int .i64)) (.pair (.int .i64) (.pair (.aK (.int .i64)) (.pair (.int .i64) (.pair .bool (.pair .bool (.pair .bool (.pair (.int .i64) (.pair (.int .i64) (.aK (.int .i64))))))))))))))))))))) (.pair .bool (.int .i64))))))), false⟩
theorem UU:bt Tryz.prog 84 ND:=az Tryz.underlying84 (aT (by kernel_rfl) rfl rfl) (fun fs h w=>by cases h;kernel_rfl) (aQ rfl (by kernel_rfl) (by kernel_rfl))
def NC:cS:=⟨.pointer 47,1,8,.pointer none,[],none,false⟩
theorem UT:bt Tryz.prog 89 NC:=az Tryz.underlying89 (aT (by kernel_rfl) rfl rfl) (fun _ h=>by cases h) (j0 rfl)
def NB : cS := ⟨.struct #[⟨"Scope", 3, 0, false, "", "", 0⟩, ⟨"Counted", 4, 1, false, "", "", 8⟩], 2, 16, .agg #[.int .i64 0, .bool false], [(0, 1), (1, 1)], (some (.pair (.int .i64) .bool)), false⟩
theorem US:bt Tryz.prog 94 NB:=az Tryz.underlying94 (aT (by kernel_rfl) rfl rfl) (fun fs h w=>by cases h;kernel_rfl) (aQ rfl (by kernel_rfl) (by kernel_rfl))
def NA : cS := ⟨.struct #[⟨"Scope", 3, 0, false, "", "", 0⟩, ⟨"Counted", 4, 1, false, "", "", 8⟩], 2, 16, .agg #[.int .i64 0, .bool false], [(0, 1), (1, 1)], (some (.pair (.int .i64) .bool)), false⟩
theorem UR:bt Tryz.prog 95 NA:=az Tryz.underlying95 (aT (by kernel_rfl) rfl rfl) (fun fs h w=>by cases h;kernel_rfl) (aQ rfl (by kernel_rfl) (by kernel_rfl))
def Nz:cS:=⟨.func #[135,78] #[] false,1,8,.nilFunc,[],none,false⟩
theorem UQ:bt Tryz.prog 97 Nz:=az Tryz.underlying97 (aT (by kernel_rfl) rfl rfl) (fun _ h=>by cases h) (j0 rfl)
def Ny : cS := ⟨.struct #[⟨"a", 3, 0, false, "", "penfold/fin", 0⟩, ⟨"b", 3, 1, false, "", "penfold/fin", 8⟩, ⟨"do", 97, 2, false, "", "penfold/fin", 16⟩], 3, 24, .agg #[.int .i64 0, .int .i64 0, .nilFunc], [(0, 1), (1, 1), (2, 1)], none, false⟩
theorem UP:bt Tryz.prog 98 Ny:=az Tryz.underlying98 (aT (by kernel_rfl) rfl rfl) (fun fs h w=>by cases h;kernel_rfl) (j0 rfl)
def Nx : cS := ⟨.struct #[⟨"a", 3, 0, false, "", "penfold/fin", 0⟩, ⟨"b", 3, 1, false, "", "penfold/fin", 8⟩, ⟨"do", 97, 2, false, "", "penfold/fin", 16⟩], 3, 24, .agg #[.int .i64 0, .int .i64 0, .nilFunc], [(0, 1), (1, 1), (2, 1)], none, false⟩
theorem UO:bt Tryz.prog 99 Nx:=az Tryz.underlying99 (aT (by kernel_rfl) rfl rfl) (fun fs h w=>by cases h;kernel_rfl) (j0 rfl)
def Is:cS:=⟨.array 5 99,15,120,.agg #[.int .i64 0,.int .i64 0,.nilFunc,.int .i64 0,.int .i64 0,.nilFunc,.int .i64 0,.int .i64 0,.nilFunc,.int .i64 0,.int .i64 0,.nilFunc,.int .i64 0,.int .i64 0,.nilFunc],[],none,false⟩
theorem O9:bt Tryz.prog 100 Is:=az Tryz.underlying100 (aT (by kernel_rfl) rfl rfl) (fun _ h=>by cases h) (j0 rfl)
def Ir : cS := ⟨.struct #[⟨"At", 3, 0, false, "", "", 0⟩, ⟨"Size", 3, 1, false, "", "", 8⟩], 2, 16, .agg #[.int .i64 0, .int .i64 0], [(0, 1), (1, 1)], (some (.pair (.int .i64) (.int .i64))), false⟩
theorem O8:bt Tryz.prog 107 Ir:=az Tryz.underlying107 (aT (by kernel_rfl) rfl rfl) (fun fs h w=>by cases h;kernel_rfl) (aQ rfl (by kernel_rfl) (by kernel_rfl))
def Iq : cS := ⟨.struct #[⟨"At", 3, 0, false, "", "", 0⟩, ⟨"Size", 3, 1, false, "", "", 8⟩], 2, 16, .agg #[.int .i64 0, .int .i64 0], [(0, 1), (1, 1)], (some (.pair (.int .i64) (.int .i64))), false⟩
theorem O7:bt Tryz.prog 108 Iq:=az Tryz.underlying108 (aT (by kernel_rfl) rfl rfl) (fun fs h w=>by cases h;kernel_rfl) (aQ rfl (by kernel_rfl) (by kernel_rfl))
def Ip : cS := ⟨.struct #[⟨"a", 69, 0, false, "", "penfold/found", 0⟩, ⟨"p", 23, 1, false, "", "penfold/found", 8⟩, ⟨"s", 3, 5, false, "", "penfold/found", 40⟩], 6, 48, .agg #[.pointer none, .int .i64 0, .int .i64 0, .int .i64 0, .int .i64 0, .int .i64 0], [(0, 1), (1, 4), (5, 1)], (some (.pair (.ptr 1) (.pair (.pair (.int .i64) (.pair (.int .i64) (.pair (.int .i64) (.int .i64)))) (.int .i64)))), false⟩
theorem O6:bt Tryz.prog 113 Ip:=az Tryz.underlying113 (aT (by kernel_rfl) rfl rfl) (fun fs h w=>by cases h;kernel_rfl) (aQ rfl (by kernel_rfl) (by kernel_rfl))
def Io : cS := ⟨.struct #[⟨"a", 69, 0, false, "", "penfold/found", 0⟩, ⟨"p", 23, 1, false, "", "penfold/found", 8⟩, ⟨"s", 3, 5, false, "", "penfold/found", 40⟩], 6, 48, .agg #[.pointer none, .int .i64 0, .int .i64 0, .int .i64 0, .int .i64 0, .int .i64 0], [(0, 1), (1, 4), (5, 1)], (some (.pair (.ptr 1) (.pair (.pair (.int .i64) (.pair (.int .i64) (.pair (.int .i64) (.int .i64)))) (.int .i64)))), false⟩
theorem O5:bt Tryz.prog 114 Io:=az Tryz.underlying114 (aT (by kernel_rfl) rfl rfl) (fun fs h w=>by cases h;kernel_rfl) (aQ rfl (by kernel_rfl) (by kernel_rfl))
def Im : cS := ⟨.struct #[⟨"State", 3, 0, false, "", "", 0⟩, ⟨"Count", 3, 1, false, "", "", 8⟩, ⟨"Parent", 3, 2, false, "", "", 16⟩, ⟨"Epoch", 3, 3, false, "", "", 24⟩], 4, 32, .agg #[.int .i64 0, .int .i64 0, .int .i64 0, .int .i64 0], [(0, 1), (1, 1), (2, 1), (3, 1)], (some (.pair (.int .i64) (.pair (.int .i64) (.pair (.int .i64) (.int .i64))))), false⟩
theorem O4:bt Tryz.prog 116 Im:=az Tryz.underlying116 (aT (by kernel_rfl) rfl rfl) (fun fs h w=>by cases h;kernel_rfl) (aQ rfl (by kernel_rfl) (by kernel_rfl))
def Il : cS := ⟨.struct #[⟨"State", 3, 0, false, "", "", 0⟩, ⟨"Count", 3, 1, false, "", "", 8⟩, ⟨"Parent", 3, 2, false, "", "", 16⟩, ⟨"Epoch", 3, 3, false, "", "", 24⟩], 4, 32, .agg #[.int .i64 0, .int .i64 0, .int .i64 0, .int .i64 0], [(0, 1), (1, 1), (2, 1), (3, 1)], (some (.pair (.int .i64) (.pair (.int .i64) (.pair (.int .i64) (.int .i64))))), false⟩
theorem O3:bt Tryz.prog 117 Il:=az Tryz.underlying117 (aT (by kernel_rfl) rfl rfl) (fun fs h w=>by cases h;kernel_rfl) (aQ rfl (by kernel_rfl) (by kernel_rfl))
def Ik : cS := ⟨.struct #[⟨"p", 23, 0, false, "", "penfold/begin", 0⟩, ⟨"l", 53, 4, false, "", "penfold/begin", 32⟩, ⟨"c", 42, 5, false, "", "penfold/begin", 56⟩, ⟨"h", 80, 12, false, "", "penfold/begin", 88⟩, ⟨"v", 80, 13, false, "", "penfold/begin", 96⟩], 14, 104, .agg #[.int .i64 0, .int .i64 0, .int .i64 0, .int .i64 0, .slice none 0 0, .int .u8 0, .int .u8 0, .int .u8 0, .int .u8 0, .int .i64 0, .int .i64 0, .int .i64 0, .int .u64 0, .int .u64 0], [(0, 4), (4, 1), (5, 7), (12, 1), (13, 1)], (some (.pair (.pair (.int .i64) (.pair (.int .i64) (.pair (.int .i64) (.int .i64)))) (.pair (.aK (.pair (.int .i64) .bool)) (.pair (.pair (.int .u8) (.pair (.int .u8) (.pair (.int .u8) (.pair (.int .u8) (.pair (.int .i64) (.pair (.int .i64) (.int .i64))))))) (.pair (.int .u64) (.int .u64)))))), false⟩
theorem O2:bt Tryz.prog 120 Ik:=az Tryz.underlying120 (aT (by kernel_rfl) rfl rfl) (fun fs h w=>by cases h;kernel_rfl) (aQ rfl (by kernel_rfl) (by kernel_rfl))
def Ij : cS := ⟨.struct #[⟨"p", 23, 0, false, "", "penfold/begin", 0⟩, ⟨"l", 53, 4, false, "", "penfold/begin", 32⟩, ⟨"c", 42, 5, false, "", "penfold/begin", 56⟩, ⟨"h", 80, 12, false, "", "penfold/begin", 88⟩, ⟨"v", 80, 13, false, "", "penfold/begin", 96⟩], 14, 104, .agg #[.int .i64 0, .int .i64 0, .int .i64 0, .int .i64 0, .slice none 0 0, .int .u8 0, .int .u8 0, .int .u8 0, .int .u8 0, .int .i64 0, .int .i64 0, .int .i64 0, .int .u64 0, .int .u64 0], [(0, 4), (4, 1), (5, 7), (12, 1), (13, 1)], (some (.pair (.pair (.int .i64) (.pair (.int .i64) (.pair (.int .i64) (.int .i64)))) (.pair (.aK (.pair (.int .i64) .bool)) (.pair (.pair (.int .u8) (.pair (.int .u8) (.pair (.int .u8) (.pair (.int .u8) (.pair (.int .i64) (.pair (.int .i64) (.int .i64))))))) (.pair (.int .u64) (.int .u64)))))), false⟩
theorem O1:bt Tryz.prog 121 Ij:=az Tryz.underlying121 (aT (by kernel_rfl) rfl rfl) (fun fs h w=>by cases h;kernel_rfl) (aQ rfl (by kernel_rfl) (by kernel_rfl))
def Ii:cS:=⟨.pointer 137,1,8,.pointer none,[],none,false⟩
theorem O0:bt Tryz.prog 135 Ii:=az Tryz.underlying135 (aT (by kernel_rfl) rfl rfl) (fun _ h=>by cases h) (j0 rfl)
def Ih : cS := ⟨.struct #[⟨"slots", 51, 0, false, "", "penfold/fin", 0⟩, ⟨"said", 43, 1, false, "", "penfold/fin", 24⟩, ⟨"held", 4, 2, false, "", "penfold/fin", 48⟩, ⟨"skip", 3, 3, false, "", "penfold/fin", 56⟩], 4, 64, .agg #[.slice none 0 0, .slice none 0 0, .bool false, .int .i64 0], [(0, 1), (1, 1), (2, 1), (3, 1)], (some (.pair (.aK (.int .u64)) (.pair (.aK (.int .i64)) (.pair .bool (.int .i64))))), false⟩
theorem OZ:bt Tryz.prog 136 Ih:=az Tryz.underlying136 (aT (by kernel_rfl) rfl rfl) (fun fs h w=>by cases h;kernel_rfl) (aQ rfl (by kernel_rfl) (by kernel_rfl))
def Ig : cS := ⟨.struct #[⟨"slots", 51, 0, false, "", "penfold/fin", 0⟩, ⟨"said", 43, 1, false, "", "penfold/fin", 24⟩, ⟨"held", 4, 2, false, "", "penfold/fin", 48⟩, ⟨"skip", 3, 3, false, "", "penfold/fin", 56⟩], 4, 64, .agg #[.slice none 0 0, .slice none 0 0, .bool false, .int .i64 0], [(0, 1), (1, 1), (2, 1), (3, 1)], none, false⟩
theorem OY:bt Tryz.prog 137 Ig:=az Tryz.underlying137 (aT (by kernel_rfl) rfl rfl) (fun fs h w=>by cases h;kernel_rfl) (j0 rfl)
def Ie : cS := ⟨.struct #[⟨"b", 28, 0, false, "", "penfold/arena", 0⟩], 1, 24, .agg #[.slice none 0 0], [(0, 1)], (some (.aK (.int .u8))), false⟩
theorem OX:bt Tryz.prog 139 Ie:=az Tryz.underlying139 (aT (by kernel_rfl) rfl rfl) (fun fs h w=>by cases h;kernel_rfl) (aQ rfl (by kernel_rfl) (by kernel_rfl))
def Ic : cS := ⟨.struct #[⟨"b", 28, 0, false, "", "penfold/arena", 0⟩], 1, 24, .agg #[.slice none 0 0], [(0, 1)], (some (.jU 2 1)), false⟩
theorem OW:bt Tryz.prog 140 Ic:=az Tryz.underlying140 (aT (by kernel_rfl) rfl rfl) (fun fs h w=>by cases h;kernel_rfl) (aQ rfl (by kernel_rfl) (by kernel_rfl))
def Ib:cS:=⟨.slice 108,1,24,.slice none 0 0,[],(some (.aK (.pair (.int .i64) (.int .i64)))),false⟩
theorem OV:bt Tryz.prog 141 Ib:=az Tryz.underlying141 (aT (by kernel_rfl) rfl rfl) (fun _ h=>by cases h) (aQ rfl (by kernel_rfl) (by kernel_rfl))
def Ia : cS := ⟨.struct #[⟨"from", 3, 0, false, "", "penfold/ground", 0⟩, ⟨"end", 3, 1, false, "", "penfold/ground", 8⟩, ⟨"free", 141, 2, false, "", "penfold/ground", 16⟩], 3, 40, .agg #[.int .i64 0, .int .i64 0, .slice none 0 0], [(0, 1), (1, 1), (2, 1)], (some (.pair (.int .i64) (.pair (.int .i64) (.aK (.pair (.int .i64) (.int .i64)))))), false⟩
theorem OU:bt Tryz.prog 142 Ia:=az Tryz.underlying142 (aT (by kernel_rfl) rfl rfl) (fun fs h w=>by cases h;kernel_rfl) (aQ rfl (by kernel_rfl) (by kernel_rfl))
def H_ : cS := ⟨.struct #[⟨"from", 3, 0, false, "", "penfold/ground", 0⟩, ⟨"end", 3, 1, false, "", "penfold/ground", 8⟩, ⟨"free", 141, 2, false, "", "penfold/ground", 16⟩], 3, 40, .agg #[.int .i64 0, .int .i64 0, .slice none 0 0], [(0, 1), (1, 1), (2, 1)], (some (.pair (.int .i64) (.pair (.int .i64) (.jU 4 2)))), false⟩
theorem OT:bt Tryz.prog 143 H_:=az Tryz.underlying143 (aT (by kernel_rfl) rfl rfl) (fun fs h w=>by cases h;kernel_rfl) (aQ rfl (by kernel_rfl) (by kernel_rfl))
def H9 : cS := ⟨.struct #[⟨"Scope", 3, 0, false, "", "", 0⟩, ⟨"Epoch", 3, 1, false, "", "", 8⟩, ⟨"At", 3, 2, false, "", "", 16⟩], 3, 24, .agg #[.int .i64 0, .int .i64 0, .int .i64 0], [(0, 1), (1, 1), (2, 1)], (some (.pair (.int .i64) (.pair (.int .i64) (.int .i64)))), false⟩
theorem OS:bt Tryz.prog 151 H9:=az Tryz.underlying151 (aT (by kernel_rfl) rfl rfl) (fun fs h w=>by cases h;kernel_rfl) (aQ rfl (by kernel_rfl) (by kernel_rfl))
def H8 : cS := ⟨.struct #[⟨"Scope", 3, 0, false, "", "", 0⟩, ⟨"Epoch", 3, 1, false, "", "", 8⟩, ⟨"At", 3, 2, false, "", "", 16⟩], 3, 24, .agg #[.int .i64 0, .int .i64 0, .int .i64 0], [(0, 1), (1, 1), (2, 1)], (some (.pair (.int .i64) (.pair (.int .i64) (.int .i64)))), false⟩
theorem OR:bt Tryz.prog 152 H8:=az Tryz.underlying152 (aT (by kernel_rfl) rfl rfl) (fun fs h w=>by cases h;kernel_rfl) (aQ rfl (by kernel_rfl) (by kernel_rfl))
def H7:cS:=⟨.func #[166] #[] false,1,8,.nilFunc,[],none,false⟩
theorem OQ:bt Tryz.prog 165 H7:=az Tryz.underlying165 (aT (by kernel_rfl) rfl rfl) (fun _ h=>by cases h) (j0 rfl)
def H6:cS:=⟨.pointer 170,1,8,.pointer none,[],none,false⟩
theorem OP:bt Tryz.prog 166 H6:=az Tryz.underlying166 (aT (by kernel_rfl) rfl rfl) (fun _ h=>by cases h) (j0 rfl)
def H5:cS:=⟨.map 3 165,1,8,.map none,[],none,false⟩
theorem OO:bt Tryz.prog 167 H5:=az Tryz.underlying167 (aT (by kernel_rfl) rfl rfl) (fun _ h=>by cases h) (j0 rfl)
def H4 : cS := ⟨.struct #[⟨"p", 23, 0, false, "", "penfold/take", 0⟩, ⟨"a", 69, 4, false, "", "penfold/take", 32⟩, ⟨"r", 82, 5, false, "", "penfold/take", 40⟩], 31, 272, .agg #[.int .i64 0, .int .i64 0, .int .i64 0, .int .i64 0, .pointer none, .int .u8 0, .int .u8 0, .int .u8 0, .int .u8 0, .int .i64 0, .int .i64 0, .int .i64 0, .int .i64 0, .int .i64 0, .int .u64 0, .int .u64 0, .slice none 0 0, .int .u64 0, .int .u64 0, .int .i64 0, .int .i64 0, .slice none 0 0, .int .i64 0, .slice none 0 0, .int .i64 0, .bool false, .bool false, .bool false, .int .i64 0, .int .i64 0, .slice none 0 0], [(0, 4), (4, 1), (5, 26)], (some (.pair (.pair (.int .i64) (.pair (.int .i64) (.pair (.int .i64) (.int .i64)))) (.pair (.ptr 1) (.pair (.pair (.int .u8) (.pair (.int .u8) (.pair (.int .u8) (.pair (.int .u8) (.pair (.int .i64) (.pair (.int .i64) (.int .i64))))))) (.pair (.int .i64) (.pair (.int .i64) (.pair (.int .u64) (.pair (.int .u64) (.pair (.aK (.pair (.int .i64) .bool)) (.pair (.int .u64) (.pair (.int .u64) (.pair (.int .i64) (.pair (.int .i64) (.pair (.aK (.int .i64)) (.pair (.int .i64) (.pair (.aK (.int .i64)) (.pair (.int .i64) (.pair .bool (.pair .bool (.pair .bool (.pair (.int .i64) (.pair (.int .i64) (.aK (.int .i64)))))))))))))))))))))))), false⟩
theorem ON:bt Tryz.prog 169 H4:=az Tryz.underlying169 (aT (by kernel_rfl) rfl rfl) (fun fs h w=>by cases h;kernel_rfl) (aQ rfl (by kernel_rfl) (by kernel_rfl))
def H3 : cS := ⟨.struct #[⟨"p", 23, 0, false, "", "penfold/take", 0⟩, ⟨"a", 69, 4, false, "", "penfold/take", 32⟩, ⟨"r", 82, 5, false, "", "penfold/take", 40⟩], 31, 272, .agg #[.int .i64 0, .int .i64 0, .int .i64 0, .int .i64 0, .pointer none, .int .u8 0, .int .u8 0, .int .u8 0, .int .u8 0, .int .i64 0, .int .i64 0, .int .i64 0, .int .i64 0, .int .i64 0, .int .u64 0, .int .u64 0, .slice none 0 0, .int .u64 0, .int .u64 0, .int .i64 0, .int .i64 0, .slice none 0 0, .int .i64 0, .slice none 0 0, .int .i64 0, .bool false, .bool false, .bool false, .int .i64 0, .int .i64 0, .slice none 0 0], [(0, 4), (4, 1), (5, 26)], (some (.pair (.pair (.int .i64) (.pair (.int .i64) (.pair (.int .i64) (.int .i64)))) (.pair (.ptr 1) (.pair (.pair (.int .u8) (.pair (.int .u8) (.pair (.int .u8) (.pair (.int .u8) (.pair (.int .i64) (.pair (.int .i64) (.int .i64))))))) (.pair (.int .i64) (.pair (.int .i64) (.pair (.int .u64) (.pair (.int .u64) (.pair (.aK (.pair (.int .i64) .bool)) (.pair (.int .u64) (.pair (.int .u64) (.pair (.int .i64) (.pair (.int .i64) (.pair (.aK (.int .i64)) (.pair (.int .i64) (.pair (.aK (.int .i64)) (.pair (.int .i64) (.pair .bool (.pair .bool (.pair .bool (.pair (.int .i64) (.pair (.int .i64) (.aK (.int .i64)))))))))))))))))))))))), false⟩
theorem OM:bt Tryz.prog 170 H3:=az Tryz.underlying170 (aT (by kernel_rfl) rfl rfl) (fun fs h w=>by cases h;kernel_rfl) (aQ rfl (by kernel_rfl) (by kernel_rfl))
def H2:cS:=⟨.pointer 173,1,8,.pointer none,[],none,false⟩
theorem OL:bt Tryz.prog 171 H2:=az Tryz.underlying171 (aT (by kernel_rfl) rfl rfl) (fun _ h=>by cases h) (j0 rfl)
def HZ : cS := ⟨.struct #[⟨"a", 69, 0, false, "", "penfold/enter", 0⟩, ⟨"at", 3, 1, false, "", "penfold/enter", 8⟩, ⟨"r", 82, 2, false, "", "penfold/enter", 16⟩], 28, 248, .agg #[.pointer none, .int .i64 0, .int .u8 0, .int .u8 0, .int .u8 0, .int .u8 0, .int .i64 0, .int .i64 0, .int .i64 0, .int .i64 0, .int .i64 0, .int .u64 0, .int .u64 0, .slice none 0 0, .int .u64 0, .int .u64 0, .int .i64 0, .int .i64 0, .slice none 0 0, .int .i64 0, .slice none 0 0, .int .i64 0, .bool false, .bool false, .bool false, .int .i64 0, .int .i64 0, .slice none 0 0], [(0, 1), (1, 1), (2, 26)], (some (.pair (.ptr 1) (.pair (.int .i64) (.pair (.pair (.int .u8) (.pair (.int .u8) (.pair (.int .u8) (.pair (.int .u8) (.pair (.int .i64) (.pair (.int .i64) (.int .i64))))))) (.pair (.int .i64) (.pair (.int .i64) (.pair (.int .u64) (.pair (.int .u64) (.pair (.aK (.pair (.int .i64) .bool)) (.pair (.int .u64) (.pair (.int .u64) (.pair (.int .i64) (.pair (.int .i64) (.pair (.aK (.int .i64)) (.pair (.int .i64) (.pair (.aK (.int .i64)) (.pair (.int .i64) (.pair .bool (.pair .bool (.pair .bool (.pair (.int .i64) (.pair (.int .i64) (.aK (.int .i64)))))))))))))))))))))))), false⟩
theorem OK:bt Tryz.prog 172 HZ:=az Tryz.underlying172 (aT (by kernel_rfl) rfl rfl) (fun fs h w=>by cases h;kernel_rfl) (aQ rfl (by kernel_rfl) (by kernel_rfl))
def HY : cS := ⟨.struct #[⟨"a", 69, 0, false, "", "penfold/enter", 0⟩, ⟨"at", 3, 1, false, "", "penfold/enter", 8⟩, ⟨"r", 82, 2, false, "", "penfold/enter", 16⟩], 28, 248, .agg #[.pointer none, .int .i64 0, .int .u8 0, .int .u8 0, .int .u8 0, .int .u8 0, .int .i64 0, .int .i64 0, .int .i64 0, .int .i64 0, .int .i64 0, .int .u64 0, .int .u64 0, .slice none 0 0, .int .u64 0, .int .u64 0, .int .i64 0, .int .i64 0, .slice none 0 0, .int .i64 0, .slice none 0 0, .int .i64 0, .bool false, .bool false, .bool false, .int .i64 0, .int .i64 0, .slice none 0 0], [(0, 1), (1, 1), (2, 26)], (some (.pair (.ptr 1) (.pair (.int .i64) (.pair (.pair (.int .u8) (.pair (.int .u8) (.pair (.int .u8) (.pair (.int .u8) (.pair (.int .i64) (.pair (.int .i64) (.int .i64))))))) (.pair (.int .i64) (.pair (.int .i64) (.pair (.int .u64) (.pair (.int .u64) (.pair (.aK (.pair (.int .i64) .bool)) (.pair (.int .u64) (.pair (.int .u64) (.pair (.int .i64) (.pair (.int .i64) (.pair (.aK (.int .i64)) (.pair (.int .i64) (.pair (.aK (.int .i64)) (.pair (.int .i64) (.pair .bool (.pair .bool (.pair .bool (.pair (.int .i64) (.pair (.int .i64) (.aK (.int .i64)))))))))))))))))))))))), false⟩
theorem OJ:bt Tryz.prog 173 HY:=az Tryz.underlying173 (aT (by kernel_rfl) rfl rfl) (fun fs h w=>by cases h;kernel_rfl) (aQ rfl (by kernel_rfl) (by kernel_rfl))
def HX:cS:=⟨.map 3 1,1,8,.map none,[],none,false⟩
theorem OI:bt Tryz.prog 174 HX:=az Tryz.underlying174 (aT (by kernel_rfl) rfl rfl) (fun _ h=>by cases h) (j0 rfl)
def HW:cS:=⟨.func #[180] #[] false,1,8,.nilFunc,[],none,false⟩
theorem OH:bt Tryz.prog 176 HW:=az Tryz.underlying176 (aT (by kernel_rfl) rfl rfl) (fun _ h=>by cases h) (j0 rfl)
def HV:cS:=⟨.map 3 176,1,8,.map none,[],none,false⟩
theorem OG:bt Tryz.prog 178 HV:=az Tryz.underlying178 (aT (by kernel_rfl) rfl rfl) (fun _ h=>by cases h) (j0 rfl)
def HU:cS:=⟨.pointer 182,1,8,.pointer none,[],none,false⟩
theorem OF:bt Tryz.prog 180 HU:=az Tryz.underlying180 (aT (by kernel_rfl) rfl rfl) (fun _ h=>by cases h) (j0 rfl)
def HR : cS := ⟨.struct #[⟨"p", 23, 0, false, "", "penfold/leave", 0⟩, ⟨"fins", 24, 4, false, "", "penfold/leave", 32⟩, ⟨"a", 69, 5, false, "", "penfold/leave", 56⟩, ⟨"r", 82, 6, false, "", "penfold/leave", 64⟩], 32, 296, .agg #[.int .i64 0, .int .i64 0, .int .i64 0, .int .i64 0, .slice none 0 0, .pointer none, .int .u8 0, .int .u8 0, .int .u8 0, .int .u8 0, .int .i64 0, .int .i64 0, .int .i64 0, .int .i64 0, .int .i64 0, .int .u64 0, .int .u64 0, .slice none 0 0, .int .u64 0, .int .u64 0, .int .i64 0, .int .i64 0, .slice none 0 0, .int .i64 0, .slice none 0 0, .int .i64 0, .bool false, .bool false, .bool false, .int .i64 0, .int .i64 0, .slice none 0 0], [(0, 4), (4, 1), (5, 1), (6, 26)], (some (.pair (.pair (.int .i64) (.pair (.int .i64) (.pair (.int .i64) (.int .i64)))) (.pair (.aK (.aK (.pair (.int .u8) (.pair (.int .i64) (.int .i64))))) (.pair (.ptr 1) (.pair (.pair (.int .u8) (.pair (.int .u8) (.pair (.int .u8) (.pair (.int .u8) (.pair (.int .i64) (.pair (.int .i64) (.int .i64))))))) (.pair (.int .i64) (.pair (.int .i64) (.pair (.int .u64) (.pair (.int .u64) (.pair (.aK (.pair (.int .i64) .bool)) (.pair (.int .u64) (.pair (.int .u64) (.pair (.int .i64) (.pair (.int .i64) (.pair (.aK (.int .i64)) (.pair (.int .i64) (.pair (.aK (.int .i64)) (.pair (.int .i64) (.pair .bool (.pair .bool (.pair .bool (.pair (.int .i64) (.pair (.int .i64) (.aK (.int .i64))))))))))))))))))))))))), false⟩
theorem OE:bt Tryz.prog 181 HR:=az Tryz.underlying181 (aT (by kernel_rfl) rfl rfl) (fun fs h w=>by cases h;kernel_rfl) (aQ rfl (by kernel_rfl) (by kernel_rfl))
def HQ : cS := ⟨.struct #[⟨"p", 23, 0, false, "", "penfold/leave", 0⟩, ⟨"fins", 24, 4, false, "", "penfold/leave", 32⟩, ⟨"a", 69, 5, false, "", "penfold/leave", 56⟩, ⟨"r", 82, 6, false, "", "penfold/leave", 64⟩], 32, 296, .agg #[.int .i64 0, .int .i64 0, .int .i64 0, .int .i64 0, .slice none 0 0, .pointer none, .int .u8 0, .int .u8 0, .int .u8 0, .int .u8 0, .int .i64 0, .int .i64 0, .int .i64 0, .int .i64 0, .int .i64 0, .int .u64 0, .int .u64 0, .slice none 0 0, .int .u64 0, .int .u64 0, .int .i64 0, .int .i64 0, .slice none 0 0, .int .i64 0, .slice none 0 0, .int .i64 0, .bool false, .bool false, .bool false, .int .i64 0, .int .i64 0, .slice none 0 0], [(0, 4), (4, 1), (5, 1), (6, 26)], (some (.pair (.pair (.int .i64) (.pair (.int .i64) (.pair (.int .i64) (.int .i64)))) (.pair (.jU 9 1) (.pair (.ptr 1) (.pair (.pair (.int .u8) (.pair (.int .u8) (.pair (.int .u8) (.pair (.int .u8) (.pair (.int .i64) (.pair (.int .i64) (.int .i64))))))) (.pair (.int .i64) (.pair (.int .i64) (.pair (.int .u64) (.pair (.int .u64) (.pair (.aK (.pair (.int .i64) .bool)) (.pair (.int .u64) (.pair (.int .u64) (.pair (.int .i64) (.pair (.int .i64) (.pair (.aK (.int .i64)) (.pair (.int .i64) (.pair (.aK (.int .i64)) (.pair (.int .i64) (.pair .bool (.pair .bool (.pair .bool (.pair (.int .i64) (.pair (.int .i64) (.aK (.int .i64))))))))))))))))))))))))), false⟩
theorem OD:bt Tryz.prog 182 HQ:=az Tryz.underlying182 (aT (by kernel_rfl) rfl rfl) (fun fs h w=>by cases h;kernel_rfl) (aQ rfl (by kernel_rfl) (by kernel_rfl))
def HP:cS:=⟨.pointer 185,1,8,.pointer none,[],none,false⟩
theorem OC:bt Tryz.prog 183 HP:=az Tryz.underlying183 (aT (by kernel_rfl) rfl rfl) (fun _ h=>by cases h) (j0 rfl)
def HO : cS := ⟨.struct #[⟨"p", 23, 0, false, "", "penfold/slots", 0⟩, ⟨"a", 69, 4, false, "", "penfold/slots", 32⟩, ⟨"r", 82, 5, false, "", "penfold/slots", 40⟩, ⟨"refused", 33, 31, false, "", "penfold/slots", 272⟩], 32, 280, .agg #[.int .i64 0, .int .i64 0, .int .i64 0, .int .i64 0, .pointer none, .int .u8 0, .int .u8 0, .int .u8 0, .int .u8 0, .int .i64 0, .int .i64 0, .int .i64 0, .int .i64 0, .int .i64 0, .int .u64 0, .int .u64 0, .slice none 0 0, .int .u64 0, .int .u64 0, .int .i64 0, .int .i64 0, .slice none 0 0, .int .i64 0, .slice none 0 0, .int .i64 0, .bool false, .bool false, .bool false, .int .i64 0, .int .i64 0, .slice none 0 0, .int .i64 0], [(0, 4), (4, 1), (5, 26), (31, 1)], (some (.pair (.pair (.int .i64) (.pair (.int .i64) (.pair (.int .i64) (.int .i64)))) (.pair (.ptr 1) (.pair (.pair (.pair (.int .u8) (.pair (.int .u8) (.pair (.int .u8) (.pair (.int .u8) (.pair (.int .i64) (.pair (.int .i64) (.int .i64))))))) (.pair (.int .i64) (.pair (.int .i64) (.pair (.int .u64) (.pair (.int .u64) (.pair (.aK (.pair (.int .i64) .bool)) (.pair (.int .u64) (.pair (.int .u64) (.pair (.int .i64) (.pair (.int .i64) (.pair (.aK (.int .i64)) (.pair (.int .i64) (.pair (.aK (.int .i64)) (.pair (.int .i64) (.pair .bool (.pair .bool (.pair .bool (.pair (.int .i64) (.pair (.int .i64) (.aK (.int .i64))))))))))))))))))))) (.int .i64))))), false⟩
theorem OB:bt Tryz.prog 184 HO:=az Tryz.underlying184 (aT (by kernel_rfl) rfl rfl) (fun fs h w=>by cases h;kernel_rfl) (aQ rfl (by kernel_rfl) (by kernel_rfl))
def HN : cS := ⟨.struct #[⟨"p", 23, 0, false, "", "penfold/slots", 0⟩, ⟨"a", 69, 4, false, "", "penfold/slots", 32⟩, ⟨"r", 82, 5, false, "", "penfold/slots", 40⟩, ⟨"refused", 33, 31, false, "", "penfold/slots", 272⟩], 32, 280, .agg #[.int .i64 0, .int .i64 0, .int .i64 0, .int .i64 0, .pointer none, .int .u8 0, .int .u8 0, .int .u8 0, .int .u8 0, .int .i64 0, .int .i64 0, .int .i64 0, .int .i64 0, .int .i64 0, .int .u64 0, .int .u64 0, .slice none 0 0, .int .u64 0, .int .u64 0, .int .i64 0, .int .i64 0, .slice none 0 0, .int .i64 0, .slice none 0 0, .int .i64 0, .bool false, .bool false, .bool false, .int .i64 0, .int .i64 0, .slice none 0 0, .int .i64 0], [(0, 4), (4, 1), (5, 26), (31, 1)], (some (.pair (.pair (.int .i64) (.pair (.int .i64) (.pair (.int .i64) (.int .i64)))) (.pair (.ptr 1) (.pair (.pair (.pair (.int .u8) (.pair (.int .u8) (.pair (.int .u8) (.pair (.int .u8) (.pair (.int .i64) (.pair (.int .i64) (.int .i64))))))) (.pair (.int .i64) (.pair (.int .i64) (.pair (.int .u64) (.pair (.int .u64) (.pair (.aK (.pair (.int .i64) .bool)) (.pair (.int .u64) (.pair (.int .u64) (.pair (.int .i64) (.pair (.int .i64) (.pair (.aK (.int .i64)) (.pair (.int .i64) (.pair (.aK (.int .i64)) (.pair (.int .i64) (.pair .bool (.pair .bool (.pair .bool (.pair (.int .i64) (.pair (.int .i64) (.aK (.int .i64))))))))))))))))))))) (.int .i64))))), false⟩
theorem OA:bt Tryz.prog 185 HN:=az Tryz.underlying185 (aT (by kernel_rfl) rfl rfl) (fun fs h w=>by cases h;kernel_rfl) (aQ rfl (by kernel_rfl) (by kernel_rfl))
def HM:cS:=⟨.int .u64,1,8,.int .u64 0,[],(some (.int .u64)),false⟩
theorem Oz:bt Tryz.prog 191 HM:=az Tryz.underlying191 (aT (by kernel_rfl) rfl rfl) (fun _ h=>by cases h) (aQ rfl (by kernel_rfl) (by kernel_rfl))
def HL:cS:=⟨.slice 33,1,24,.slice none 0 0,[],(some (.aK (.int .i64))),false⟩
theorem Oy:bt Tryz.prog 196 HL:=az Tryz.underlying196 (aT (by kernel_rfl) rfl rfl) (fun _ h=>by cases h) (aQ rfl (by kernel_rfl) (by kernel_rfl))
def HK:cS:=⟨.pointer 108,1,8,.pointer none,[],none,false⟩
theorem Ox:bt Tryz.prog 203 HK:=az Tryz.underlying203 (aT (by kernel_rfl) rfl rfl) (fun _ h=>by cases h) (j0 rfl)
def HJ : cS := ⟨.struct #[⟨"Size", 3, 0, false, "", "", 0⟩, ⟨"Slots", 3, 1, false, "", "", 8⟩, ⟨"Tag", 3, 2, false, "", "", 16⟩, ⟨"Done", 4, 3, false, "", "", 24⟩, ⟨"Scope", 3, 4, false, "", "", 32⟩, ⟨"Epoch", 3, 5, false, "", "", 40⟩], 6, 48, .agg #[.int .i64 0, .int .i64 0, .int .i64 0, .bool false, .int .i64 0, .int .i64 0], [(0, 1), (1, 1), (2, 1), (3, 1), (4, 1), (5, 1)], (some (.pair (.int .i64) (.pair (.int .i64) (.pair (.int .i64) (.pair .bool (.pair (.int .i64) (.int .i64))))))), false⟩
theorem Ow:bt Tryz.prog 207 HJ:=az Tryz.underlying207 (aT (by kernel_rfl) rfl rfl) (fun fs h w=>by cases h;kernel_rfl) (aQ rfl (by kernel_rfl) (by kernel_rfl))
def HI : cS := ⟨.struct #[⟨"Size", 3, 0, false, "", "", 0⟩, ⟨"Slots", 3, 1, false, "", "", 8⟩, ⟨"Tag", 3, 2, false, "", "", 16⟩, ⟨"Done", 4, 3, false, "", "", 24⟩, ⟨"Scope", 3, 4, false, "", "", 32⟩, ⟨"Epoch", 3, 5, false, "", "", 40⟩], 6, 48, .agg #[.int .i64 0, .int .i64 0, .int .i64 0, .bool false, .int .i64 0, .int .i64 0], [(0, 1), (1, 1), (2, 1), (3, 1), (4, 1), (5, 1)], (some (.pair (.int .i64) (.pair (.int .i64) (.pair (.int .i64) (.pair .bool (.pair (.int .i64) (.int .i64))))))), false⟩
theorem Ov:bt Tryz.prog 208 HI:=az Tryz.underlying208 (aT (by kernel_rfl) rfl rfl) (fun fs h w=>by cases h;kernel_rfl) (aQ rfl (by kernel_rfl) (by kernel_rfl))
def HH:cS:=⟨.slice 43,1,24,.slice none 0 0,[],(some (.aK (.aK (.int .i64)))),false⟩
theorem Ou:bt Tryz.prog 234 HH:=az Tryz.underlying234 (aT (by kernel_rfl) rfl rfl) (fun _ h=>by cases h) (aQ rfl (by kernel_rfl) (by kernel_rfl))
def HG:cS:=⟨.int .u32,1,4,.int .u32 0,[],(some (.int .u32)),false⟩
theorem Ot:bt Tryz.prog 243 HG:=az Tryz.underlying243 (aT (by kernel_rfl) rfl rfl) (fun _ h=>by cases h) (aQ rfl (by kernel_rfl) (by kernel_rfl))
def HF:cS:=⟨.pointer 5,1,8,.pointer none,[],none,false⟩
theorem Oq:bt Tryz.prog 247 HF:=az Tryz.underlying247 (aT (by kernel_rfl) rfl rfl) (fun _ h=>by cases h) (j0 rfl)
theorem YJ:hJ Tryz.prog 22:=cC Tryz.stoodInHeld22 Tryz.eqGuardType22 Tryz.underlying22 (by decide)
theorem YI:hJ Tryz.prog 23:=cC Tryz.stoodInHeld23 Tryz.eqGuardType23 Tryz.underlying23 (by decide)
theorem YH:hJ Tryz.prog 41:=cC Tryz.stoodInHeld41 Tryz.eqGuardType41 Tryz.underlying41 (by decide)
theorem YG:hJ Tryz.prog 42:=cC Tryz.stoodInHeld42 Tryz.eqGuardType42 Tryz.underlying42 (by decide)
theorem YF:hJ Tryz.prog 46:=cC Tryz.stoodInHeld46 Tryz.eqGuardType46 Tryz.underlying46 (by decide)
theorem YE:hJ Tryz.prog 47:=cC Tryz.stoodInHeld47 Tryz.eqGuardType47 Tryz.underlying47 (by decide)
theorem YD:hJ Tryz.prog 77:=cC Tryz.stoodInHeld77 Tryz.eqGuardType77 Tryz.underlying77 (by decide)
theorem YC:hJ Tryz.prog 78:=cC Tryz.stoodInHeld78 Tryz.eqGuardType78 Tryz.underlying78 (by decide)
theorem YB:hJ Tryz.prog 94:=cC Tryz.stoodInHeld94 Tryz.eqGuardType94 Tryz.underlying94 (by decide)
theorem YA:hJ Tryz.prog 95:=cC Tryz.stoodInHeld95 Tryz.eqGuardType95 Tryz.underlying95 (by decide)
theorem SH:hJ Tryz.prog 107:=cC Tryz.stoodInHeld107 Tryz.eqGuardType107 Tryz.underlying107 (by decide)
theorem SG:hJ Tryz.prog 108:=cC Tryz.stoodInHeld108 Tryz.eqGuardType108 Tryz.underlying108 (by decide)
theorem SF:hJ Tryz.prog 113:=cC Tryz.stoodInHeld113 Tryz.eqGuardType113 Tryz.underlying113 (by decide)
theorem SE:hJ Tryz.prog 114:=cC Tryz.stoodInHeld114 Tryz.eqGuardType114 Tryz.underlying114 (by decide)
theorem SC:hJ Tryz.prog 116:=cC Tryz.stoodInHeld116 Tryz.eqGuardType116 Tryz.underlying116 (by decide)
theorem SB:hJ Tryz.prog 117:=cC Tryz.stoodInHeld117 Tryz.eqGuardType117 Tryz.underlying117 (by decide)
theorem SA:hJ Tryz.prog 151:=cC Tryz.stoodInHeld151 Tryz.eqGuardType151 Tryz.underlying151 (by decide)
theorem Sz:hJ Tryz.prog 152:=cC Tryz.stoodInHeld152 Tryz.eqGuardType152 Tryz.underlying152 (by decide)
theorem Sy:hJ Tryz.prog 169:=cC Tryz.stoodInHeld169 Tryz.eqGuardType169 Tryz.underlying169 (by decide)
theorem Sw:hJ Tryz.prog 170:=cC Tryz.stoodInHeld170 Tryz.eqGuardType170 Tryz.underlying170 (by decide)
theorem Sv:hJ Tryz.prog 172:=cC Tryz.stoodInHeld172 Tryz.eqGuardType172 Tryz.underlying172 (by decide)
theorem Su:hJ Tryz.prog 173:=cC Tryz.stoodInHeld173 Tryz.eqGuardType173 Tryz.underlying173 (by decide)
theorem Ss:hJ Tryz.prog 184:=cC Tryz.stoodInHeld184 Tryz.eqGuardType184 Tryz.underlying184 (by decide)
theorem Sr:hJ Tryz.prog 185:=cC Tryz.stoodInHeld185 Tryz.eqGuardType185 Tryz.underlying185 (by decide)
theorem Sq:hJ Tryz.prog 207:=cC Tryz.stoodInHeld207 Tryz.eqGuardType207 Tryz.underlying207 (by decide)
theorem So:hJ Tryz.prog 208:=cC Tryz.stoodInHeld208 Tryz.eqGuardType208 Tryz.underlying208 (by decide)
def env:Env:=⟨(.node (.node (.node (.node (.node (.node (.node (.node .nil none .nil) none (.node .nil (some HM) .nil)) none (.node (.node .nil none .nil) (some NA) (.node .nil none .nil))) none (.node (.node (.node .nil (some H_) .nil) (some NJ) (.node .nil (some HJ) .nil)) (some NX) (.node (.node .nil none .nil) none (.node .nil none .nil)))) none (.node (.node (.node (.node .nil (some Ii) .nil) none (.node .nil none .nil)) (some N4) (.node (.node .nil (some H5) .nil) none (.node .nil none .nil))) (some Od) (.node (.node (.node .nil (some H9) .nil) none (.node .nil none .nil)) none (.node (.node .nil (some HP) .nil) none (.node .nil (some HF) .nil))))) (some ty3) (.node (.node (.node (.node (.node .nil none .nil) none (.node .nil none .nil)) none (.node (.node .nil none .nil) (some Nx) (.node .nil none .nil))) none (.node (.node (.node .nil none .nil) (some NF) (.node .nil none .nil)) (some NV) (.node (.node .nil none .nil) none (.node .nil (some HG) .nil)))) none (.node (.node (.node (.node .nil (some Ie) .nil) (some NM) (.node .nil (some HK) .nil)) (some N1) (.node (.node .nil (some H2) .nil) (some Ir) (.node .nil none .nil))) (some N9) (.node (.node (.node .nil none .nil) none (.node .nil none .nil)) (some NR) (.node (.node .nil none .nil) none .nil))))) (some ty1) (.node (.node (.node (.node (.node (.node .nil none .nil) none (.node .nil none .nil)) (some N6) (.node (.node .nil none .nil) (some Nz) (.node .nil none .nil))) none (.node (.node (.node .nil none .nil) (some NH) (.node .nil none .nil)) (some NW) (.node (.node .nil none .nil) (some Ip) (.node .nil none .nil)))) (some ty9) (.node (.node (.node (.node .nil (some Ig) .nil) (some NO) (.node .nil none .nil)) (some N3) (.node (.node .nil (some H4) .nil) none (.node .nil none .nil))) (some Oa) (.node (.node (.node .nil none .nil) (some NC) (.node .nil none .nil)) none (.node (.node .nil (some HN) .nil) (some Ij) .nil)))) (some ty5) (.node (.node (.node (.node (.node .nil none .nil) (some NQ) (.node .nil none .nil)) none (.node (.node .nil (some H7) .nil) none (.node .nil none .nil))) (some Of) (.node (.node (.node .nil none .nil) none (.node .nil none .nil)) (some NT) (.node (.node .nil (some HR) .nil) (some Il) (.node .nil none .nil)))) (some Og) (.node (.node (.node (.node .nil (some Ib) .nil) (some NL) (.node .nil none .nil)) (some NZ) (.node (.node .nil (some HY) .nil) none (.node .nil none .nil))) none (.node (.node (.node .nil none .nil) none (.node .nil none .nil)) none (.node (.node .nil none .nil) none .nil)))))) none (.node (.node (.node (.node (.node (.node (.node .nil none .nil) none (.node .nil none .nil)) (some N7) (.node (.node .nil none .nil) none (.node .nil none .nil))) none (.node (.node (.node .nil none .nil) (some NI) (.node .nil (some HI) .nil)) none (.node (.node .nil (some HW) .nil) none (.node .nil none .nil)))) none (.node (.node (.node (.node .nil (some Ih) .nil) none (.node .nil none .nil)) none (.node (.node .nil none .nil) none (.node .nil none .nil))) (some Oc) (.node (.node (.node .nil (some H8) .nil) none (.node .nil none .nil)) none (.node (.node .nil (some HO) .nil) (some Ik) .nil)))) (some ty4) (.node (.node (.node (.node (.node .nil none .nil) none (.node .nil (some HL) .nil)) (some N5) (.node (.node .nil none .nil) (some Is) (.node .nil none .nil))) none (.node (.node (.node .nil none .nil) (some ND) (.node .nil none .nil)) (some NU) (.node (.node .nil (some HU) .nil) (some Im) (.node .nil none .nil)))) (some Oh) (.node (.node (.node (.node .nil (some Ic) .nil) none (.node .nil none .nil)) (some N0) (.node (.node .nil (some HZ) .nil) (some Iq) (.node .nil none .nil))) (some N8) (.node (.node (.node .nil none .nil) none (.node .nil none .nil)) none (.node (.node .nil none .nil) none .nil))))) (some ty2) (.node (.node (.node (.node (.node (.node .nil none .nil) none (.node .nil none .nil)) none (.node (.node .nil none .nil) (some Ny) (.node .nil none .nil))) none (.node (.node (.node .nil none .nil) (some NG) (.node .nil none .nil)) none (.node (.node .nil (some HV) .nil) (some Io) (.node .nil none .nil)))) none (.node (.node (.node (.node .nil none .nil) (some NN) (.node .nil none .nil)) (some N2) (.node (.node .nil (some H3) .nil) none (.node .nil (some HH) .nil))) (some N_) (.node (.node (.node .nil none .nil) none (.node .nil none .nil)) none (.node (.node .nil none .nil) none .nil)))) none (.node (.node (.node (.node (.node .nil none .nil) (some NP) (.node .nil none .nil)) none (.node (.node .nil (some H6) .nil) none (.node .nil none .nil))) (some Oe) (.node (.node (.node .nil none .nil) none (.node .nil none .nil)) (some NS) (.node (.node .nil (some HQ) .nil) none (.node .nil none .nil)))) none (.node (.node (.node (.node .nil (some Ia) .nil) (some NK) (.node .nil none .nil)) (some NY) (.node (.node .nil (some HX) .nil) none (.node .nil none .nil))) none (.node (.node (.node .nil none .nil) (some NB) (.node .nil none .nil)) none (.node (.node .nil none .nil) none .nil))))))),[22,23,41,42,46,47,77,78,94,95,107,108,113,114,116,117,151,152,169,170,172,173,184,185,207,208]⟩
theorem vS:bW Tryz.prog env:=⟨E_ (.no (.yes te1 (.yes Vw (.no (.no (.no (.no (.no (.nil _ _) (.nil _ _)) (.yes Oz (.nil _ _) (.nil _ _))) (.yes UR (.no (.nil _ _) (.nil _ _)) (.no (.nil _ _) (.nil _ _)))) (.yes Oo (.yes U_ (.yes OT (.nil _ _) (.nil _ _)) (.yes Ow (.nil _ _) (.nil _ _))) (.no (.no (.nil _ _) (.nil _ _)) (.no (.nil _ _) (.nil _ _))))) (.yes VC (.yes Fg (.no (.yes O0 (.nil _ _) (.nil _ _)) (.no (.nil _ _) (.nil _ _))) (.no (.yes OO (.nil _ _) (.nil _ _)) (.no (.nil _ _) (.nil _ _)))) (.no (.no (.yes OS (.nil _ _) (.nil _ _)) (.no (.nil _ _) (.nil _ _))) (.no (.yes OC (.nil _ _) (.nil _ _)) (.yes Oq (.nil _ _) (.nil _ _)))))) (.no (.no (.no (.no (.no (.nil _ _) (.nil _ _)) (.no (.nil _ _) (.nil _ _))) (.yes UO (.no (.nil _ _) (.nil _ _)) (.no (.nil _ _) (.nil _ _)))) (.yes Vl (.yes UW (.no (.nil _ _) (.nil _ _)) (.no (.nil _ _) (.nil _ _))) (.no (.no (.nil _ _) (.nil _ _)) (.yes Ot (.nil _ _) (.nil _ _))))) (.yes Vy (.yes Ff (.yes Vc (.yes OX (.nil _ _) (.nil _ _)) (.yes Ox (.nil _ _) (.nil _ _))) (.yes O8 (.yes OL (.nil _ _) (.nil _ _)) (.no (.nil _ _) (.nil _ _)))) (.yes Vh (.no (.no (.nil _ _) (.nil _ _)) (.no (.nil _ _) (.nil _ _))) (.no (.no (.nil _ _) (.nil _ _)) (.nil _ _)))))) (.yes te5 (.yes te9 (.no (.yes Vu (.no (.no (.nil _ _) (.nil _ _)) (.no (.nil _ _) (.nil _ _))) (.yes UQ (.no (.nil _ _) (.nil _ _)) (.no (.nil _ _) (.nil _ _)))) (.yes Vm (.yes UY (.no (.nil _ _) (.nil _ _)) (.no (.nil _ _) (.nil _ _))) (.yes O6 (.no (.nil _ _) (.nil _ _)) (.no (.nil _ _) (.nil _ _))))) (.yes VA (.yes Vr (.yes Ve (.yes OY (.nil _ _) (.nil _ _)) (.no (.nil _ _) (.nil _ _))) (.no (.yes ON (.nil _ _) (.nil _ _)) (.no (.nil _ _) (.nil _ _)))) (.no (.yes UT (.no (.nil _ _) (.nil _ _)) (.no (.nil _ _) (.nil _ _))) (.yes O1 (.yes OA (.nil _ _) (.nil _ _)) (.nil _ _))))) (.yes VG (.yes VF (.no (.yes Vg (.no (.nil _ _) (.nil _ _)) (.no (.nil _ _) (.nil _ _))) (.no (.yes OQ (.nil _ _) (.nil _ _)) (.no (.nil _ _) (.nil _ _)))) (.yes Vj (.no (.no (.nil _ _) (.nil _ _)) (.no (.nil _ _) (.nil _ _))) (.yes O3 (.yes OE (.nil _ _) (.nil _ _)) (.no (.nil _ _) (.nil _ _))))) (.no (.yes Vo (.yes Vb (.yes OV (.nil _ _) (.nil _ _)) (.no (.nil _ _) (.nil _ _))) (.no (.yes OJ (.nil _ _) (.nil _ _)) (.no (.nil _ _) (.nil _ _)))) (.no (.no (.no (.nil _ _) (.nil _ _)) (.no (.nil _ _) (.nil _ _))) (.no (.no (.nil _ _) (.nil _ _)) (.nil _ _))))))) (.yes te2 (.yes te4 (.no (.no (.yes Vv (.no (.no (.nil _ _) (.nil _ _)) (.no (.nil _ _) (.nil _ _))) (.no (.no (.nil _ _) (.nil _ _)) (.no (.nil _ _) (.nil _ _)))) (.no (.yes UZ (.no (.nil _ _) (.nil _ _)) (.yes Ov (.nil _ _) (.nil _ _))) (.no (.yes OH (.nil _ _) (.nil _ _)) (.no (.nil _ _) (.nil _ _))))) (.yes VB (.no (.no (.yes OZ (.nil _ _) (.nil _ _)) (.no (.nil _ _) (.nil _ _))) (.no (.no (.nil _ _) (.nil _ _)) (.no (.nil _ _) (.nil _ _)))) (.no (.no (.yes OR (.nil _ _) (.nil _ _)) (.no (.nil _ _) (.nil _ _))) (.yes O2 (.yes OB (.nil _ _) (.nil _ _)) (.nil _ _))))) (.yes VH (.no (.yes Vt (.no (.no (.nil _ _) (.nil _ _)) (.yes Oy (.nil _ _) (.nil _ _))) (.yes O9 (.no (.nil _ _) (.nil _ _)) (.no (.nil _ _) (.nil _ _)))) (.yes Vk (.yes UU (.no (.nil _ _) (.nil _ _)) (.no (.nil _ _) (.nil _ _))) (.yes O4 (.yes OF (.nil _ _) (.nil _ _)) (.no (.nil _ _) (.nil _ _))))) (.yes Vx (.yes Vp (.no (.yes OW (.nil _ _) (.nil _ _)) (.no (.nil _ _) (.nil _ _))) (.yes O7 (.yes OK (.nil _ _) (.nil _ _)) (.no (.nil _ _) (.nil _ _)))) (.no (.no (.no (.nil _ _) (.nil _ _)) (.no (.nil _ _) (.nil _ _))) (.no (.no (.nil _ _) (.nil _ _)) (.nil _ _)))))) (.no (.no (.no (.no (.no (.no (.nil _ _) (.nil _ _)) (.no (.nil _ _) (.nil _ _))) (.yes UP (.no (.nil _ _) (.nil _ _)) (.no (.nil _ _) (.nil _ _)))) (.no (.yes UX (.no (.nil _ _) (.nil _ _)) (.no (.nil _ _) (.nil _ _))) (.yes O5 (.yes OG (.nil _ _) (.nil _ _)) (.no (.nil _ _) (.nil _ _))))) (.yes Vz (.yes Vq (.yes Vd (.no (.nil _ _) (.nil _ _)) (.no (.nil _ _) (.nil _ _))) (.no (.yes OM (.nil _ _) (.nil _ _)) (.yes Ou (.nil _ _) (.nil _ _)))) (.no (.no (.no (.nil _ _) (.nil _ _)) (.no (.nil _ _) (.nil _ _))) (.no (.no (.nil _ _) (.nil _ _)) (.nil _ _))))) (.no (.yes VE (.no (.yes Vf (.no (.nil _ _) (.nil _ _)) (.no (.nil _ _) (.nil _ _))) (.no (.yes OP (.nil _ _) (.nil _ _)) (.no (.nil _ _) (.nil _ _)))) (.yes Vi (.no (.no (.nil _ _) (.nil _ _)) (.no (.nil _ _) (.nil _ _))) (.no (.yes OD (.nil _ _) (.nil _ _)) (.no (.nil _ _) (.nil _ _))))) (.no (.yes Vn (.yes Va (.yes OU (.nil _ _) (.nil _ _)) (.no (.nil _ _) (.nil _ _))) (.no (.yes OI (.nil _ _) (.nil _ _)) (.no (.nil _ _) (.nil _ _)))) (.no (.yes US (.no (.nil _ _) (.nil _ _)) (.no (.nil _ _) (.nil _ _))) (.no (.no (.nil _ _) (.nil _ _)) (.nil _ _)))))))),Lc (.cons YJ (.cons YI (.cons YH (.cons YG (.cons YF (.cons YE (.cons YD (.cons YC (.cons YB (.cons YA (.cons SH (.cons SG (.cons SF (.cons SE (.cons SC (.cons SB (.cons SA (.cons Sz (.cons Sy (.cons Sw (.cons Sv (.cons Su (.cons Ss (.cons Sr (.cons Sq (.cons So (.nil))))))))))))))))))))))))))),by kernel_rfl⟩
def homes:List (Nat×Nat):=[(75,0),(84,6),(140,1),(143,3)]
open Go.Bm
set_option maxRecDepth 100000
def x4:ay:=comp (au Tryz.f4) (.n none .o (.n none .o (.n none .o (.n none .o (.n (some ⟨[],[],[],[],[],[]⟩) .o (.n none .o (.n (some ⟨[],[(11,(.int .i64))],[],[],[],[(0,R0),(1,R1),(2,R2),(3,R3),(4,R4),(6,R6),(7,R7),(8,R8),(9,R9)]⟩) (.n none .o (.n none (.n (some ⟨[(12,false,(.int .i64))],[(11,(.int .i64))],[],[],[],[(0,R0),(1,R1),(2,R2),(3,R3),(4,R4),(6,R6),(7,R7),(8,R8),(9,R9)]⟩) (.n (some ⟨[],[],[],[],[],[]⟩) .o .o) .o) .o)) (.n none .o (.n none .o (.n none .o (.n none (.n none .o (.n none (.n (some ⟨[(19,false,(.int .i64))],[],[],[((17,none),[(false,(.int .i64)),(false,(.int .i64)),(false,(.int .i64)),(false,(.int .i64))]),((18,none),[(false,(.int .i64)),(false,(.int .i64)),(false,(.int .i64)),(false,(.int .i64))])],[],[]⟩) (.n none .o (.n none (.n none (.n none .o (.n (some ⟨[],[],[],[],[],[]⟩) .o (.n (some ⟨[],[],[],[((17,none),[(false,(.int .i64)),(false,(.int .i64)),(false,(.int .i64)),(false,(.int .i64))])],[],[]⟩) .o (.n (some ⟨[],[],[],[],[],[]⟩) .o (.n (some ⟨[],[],[],[((18,none),[(false,(.int .i64)),(false,(.int .i64)),(false,(.int .i64)),(false,(.int .i64))])],[],[]⟩) .o (.n (some ⟨[],[],[],[((18,none),[(false,(.int .i64)),(false,(.int .i64)),(false,(.int .i64)),(false,(.int .i64))])],[],[]⟩) .o .o)))))) .o) .o)) .o) .o)) .o)))))))))))
def x7:ay:=comp (au Tryz.f7) (.n none .o (.n none .o (.n (some ⟨[],[],[],[],[],[]⟩) .o .o)))
def x8:ay:=comp (au Tryz.f8) (.n none .o (.n none .o (.n (some ⟨[],[(6,(.aK (.pair (.int .u8) (.pair (.int .u8) (.pair (.int .u8) (.pair (.int .u8) (.pair (.int .i64) (.pair (.int .i64) (.int .i64)))))))))],[],[],[],[]⟩) .o (.n none (.n none .o (.n none (.n (some ⟨[(7,false,(.int .i64))],[(6,(.aK (.pair (.int .u8) (.pair (.int .u8) (.pair (.int .u8) (.pair (.int .u8) (.pair (.int .i64) (.pair (.int .i64) (.int .i64)))))))))],[],[],[],[]⟩) .o .o) .o)) .o))))
def x9:ay:=comp (au Tryz.f9) (.n none .o (.n none .o (.n (some ⟨[],[],[],[],[],[]⟩) .o (.n none .o (.n none .o (.n none (.n none .o (.n none (.n (some ⟨[(50,false,(.int .i64))],[],[],[],[],[(0,R0),(9,R9)]⟩) .o .o) .o)) (.n none (.n none .o (.n none (.n (some ⟨[(68,false,(.int .i64))],[],[],[],[],[(0,R0),(5,R5),(6,R6),(8,R8)]⟩) (.n none .o (.n none .o (.n none (.n none (.n none .o (.n none .o (.n (some ⟨[],[],[],[],[],[(6,R6)]⟩) .o .o))) .o) .o))) .o) .o)) .o)))))))
def x10:ay:=comp (au Tryz.f10) (.n none .o (.n none .o (.n none .o (.n none .o (.n (some ⟨[],[],[],[],[],[(0,R0),(6,R6),(7,R7)]⟩) .o (.n (some ⟨[],[],[],[],[],[(1,R1),(2,R2),(3,R3),(4,R4),(6,R6),(9,R9)]⟩) .o (.n none .o (.n (some ⟨[],[],[],[],[],[(7,R7)]⟩) .o (.n (some ⟨[],[],[],[],[],[(6,R6),(7,R7),(8,R8)]⟩) .o .o)))))))))
def x11:ay:=comp (au Tryz.f11) (.n none .o (.n (some ⟨[],[(3,(.pair (.int .i64) (.pair (.pair (.int .u8) (.pair (.int .u8) (.pair (.int .u8) (.pair (.int .u8) (.pair (.int .i64) (.pair (.int .i64) (.int .i64))))))) (.pair (.int .i64) (.pair (.int .i64) (.pair (.int .i64) (.pair (.int .i64) (.pair (.int .i64) (.aK (.int .i64))))))))))],[],[],[],[]⟩) .o (.n none (.n none .o (.n none (.n (some ⟨[(12,false,(.int .i64))],[(3,(.pair (.int .i64) (.pair (.pair (.int .u8) (.pair (.int .u8) (.pair (.int .u8) (.pair (.int .u8) (.pair (.int .i64) (.pair (.int .i64) (.int .i64))))))) (.pair (.int .i64) (.pair (.int .i64) (.pair (.int .i64) (.pair (.int .i64) (.pair (.int .i64) (.aK (.int .i64))))))))))],[],[],[],[]⟩) .o .o) .o)) .o)))
def x12:ay:=comp (au Tryz.f12) .o
def x20:ay:=comp (au Tryz.f20) .o
def x21:ay:=comp (au Tryz.f21) (.n none .o (.n none .o (.n none (.n none .o (.n none (.n (some ⟨[(6,false,(.int .i64))],[(5,(.aK (.pair (.int .u8) (.pair (.int .u8) (.pair (.int .u8) (.pair (.int .u8) (.pair (.int .i64) (.pair (.int .i64) (.int .i64)))))))))],[],[],[],[]⟩) (.n (some ⟨[],[],[],[],[],[]⟩) .o .o) .o) .o)) .o)))
def x22:ay:=comp (au Tryz.f22) (.n none .o (.n none .o (.n none (.n none .o (.n none (.n (some ⟨[(4,false,(.int .i64))],[(3,(.aK (.pair (.int .u8) (.pair (.int .i64) (.int .i64)))))],[],[],[],[]⟩) (.n (some ⟨[],[],[],[],[],[]⟩) .o (.n none (.n none (.n none .o (.n none (.n none .o (.n none (.n (some ⟨[(6,false,(.int .i64))],[(5,(.pair (.int .u8) (.pair (.int .i64) (.int .i64))))],[],[],[],[]⟩) (.n (some ⟨[],[],[],[],[],[]⟩) .o .o) .o) .o)) .o)) .o) .o)) .o) .o)) .o)))
def x23:ay:=comp (au Tryz.f23) .o
def x24:ay:=comp (au Tryz.f24) .o
def x25:ay:=comp (au Tryz.f25) (.n none .o (.n none .o (.n none (.n none .o (.n none (.n (some ⟨[(11,false,(.int .i64))],[],[],[],[],[]⟩) (.n none .o (.n none .o (.n none (.n none (.n none .o (.n none (.n none .o (.n none (.n (some ⟨[(17,false,(.int .i64))],[],[],[],[],[]⟩) .o .o) .o)) .o)) .o) .o))) .o) .o)) .o)))
def x26:ay:=comp (au Tryz.f26) .o
def x27:ay:=comp (au Tryz.f27) .o
def x28:ay:=comp (au Tryz.f28) .o
def x29:ay:=comp (au Tryz.f29) .o
def x30:ay:=comp (au Tryz.f30) .o
def x31:ay:=comp (au Tryz.f31) .o
def x32:ay:=comp (au Tryz.f32) .o
def x33:ay:=comp (au Tryz.f33) .o
def x34:ay:=comp (au Tryz.f34) (.n none .o (.n none .o (.n none .o (.n none .o (.n none .o (.n none .o (.n none (.n none .o (.n none .o (.n (some ⟨[(36,false,.bool)],[],[],[],[],[]⟩) .o .o))) .o)))))))
def x35:ay:=comp (au Tryz.f35) .o
def x36:ay:=comp (au Tryz.f36) .o
def x38:ay:=comp (au Tryz.f38) .o
def x40:ay:=comp (au Tryz.f40) .o
def x41:ay:=comp (au Tryz.f41) (.n none .o (.n none (.n none .o (.n none (.n (some ⟨[(8,false,(.int .i64))],[],[],[],[],[]⟩) .o .o) .o)) .o))
def x42:ay:=comp (au Tryz.f42) .o
def x43:ay:=comp (au Tryz.f43) .o
def x44:ay:=comp (au Tryz.f44) .o
def x45:ay:=comp (au Tryz.f45) (.n none .o (.n (some ⟨[],[],[],[],[],[]⟩) .o .o))
def x46:ay:=comp (au Tryz.f46) .o
def x47:ay:=comp (au Tryz.f47) .o
def x48:ay:=comp (au Tryz.f48) .o
def x49:ay:=comp (au Tryz.f49) .o
def x50:ay:=comp (au Tryz.f50) .o
def x51:ay:=comp (au Tryz.f51) (.n none .o (.n none .o (.n none .o (.n none .o (.n none .o (.n none .o (.n none (.n none .o (.n none (.n none .o (.n none .o (.n none .o (.n none .o (.n none .o (.n none .o (.n none .o (.n none .o (.n none .o (.n none .o (.n none .o (.n none .o (.n none .o (.n none .o (.n none .o (.n none .o (.n none .o (.n none .o (.n none .o (.n none .o (.n none .o (.n none .o (.n none .o (.n none (.n (some ⟨[(13,false,(.int .i64))],[],[],[],[],[]⟩) .o .o) .o)))))))))))))))))))))))) .o)) .o)))))))
def x52:ay:=comp (au Tryz.f52) (.n none .o (.n none (.n none .o (.n none (.n (some ⟨[(6,false,.bool)],[],[],[],[],[]⟩) .o (.n none .o (.n none .o (.n none .o (.n none .o (.n none .o (.n (some ⟨[(22,false,.bool)],[],[],[],[],[]⟩) .o .o))))))) .o)) .o))
def x53:ay:=comp (au Tryz.f53) .o
def x54:ay:=comp (au Tryz.f54) (.n none .o (.n (some ⟨[],[],[],[((8,none),[(false,(.int .u8)),(false,(.int .u8)),(false,(.int .u8)),(false,(.int .u8)),(false,(.int .i64)),(false,(.int .i64)),(false,(.int .i64)),(false,(.int .i64)),(false,(.int .i64)),(false,(.int .u64)),(false,(.int .u64)),(false,(.aK (.pair (.int .i64) .bool))),(false,(.int .u64)),(false,(.int .u64)),(false,(.int .i64)),(false,(.int .i64)),(false,(.aK (.int .i64))),(false,(.int .i64)),(false,(.aK (.int .i64))),(false,(.int .i64)),(false,.bool),(false,.bool),(false,.bool),(false,(.int .i64)),(false,(.int .i64)),(false,(.aK (.int .i64)))])],[],[]⟩) .o (.n none .o (.n none (.n none .o (.n none (.n (some ⟨[(42,false,(.int .i64))],[],[],[((8,none),[(false,(.int .u8)),(false,(.int .u8)),(false,(.int .u8)),(false,(.int .u8)),(false,(.int .i64)),(false,(.int .i64)),(false,(.int .i64)),(false,(.int .i64)),(false,(.int .i64)),(false,(.int .u64)),(false,(.int .u64)),(false,(.aK (.pair (.int .i64) .bool))),(false,(.int .u64)),(false,(.int .u64)),(false,(.int .i64)),(false,(.int .i64)),(false,(.aK (.int .i64))),(false,(.int .i64)),(false,(.aK (.int .i64))),(false,(.int .i64)),(false,.bool),(false,.bool),(false,.bool),(false,(.int .i64)),(false,(.int .i64)),(false,(.aK (.int .i64)))])],[],[(2,R2),(3,R3),(4,R4)]⟩) .o .o) .o)) .o))))
def x55:ay:=comp (au Tryz.f55) (.n none .o (.n none .o (.n none .o (.n (some ⟨[],[],[],[((6,none),[(false,(.int .u8)),(false,(.int .u8)),(false,(.int .u8)),(false,(.int .u8)),(false,(.int .i64)),(false,(.int .i64)),(false,(.int .i64)),(false,(.int .i64)),(false,(.int .i64)),(false,(.int .u64)),(false,(.int .u64)),(false,(.aK (.pair (.int .i64) .bool))),(false,(.int .u64)),(false,(.int .u64)),(false,(.int .i64)),(false,(.int .i64)),(false,(.aK (.int .i64))),(false,(.int .i64)),(false,(.aK (.int .i64))),(false,(.int .i64)),(false,.bool),(false,.bool),(false,.bool),(false,(.int .i64)),(false,(.int .i64)),(false,(.aK (.int .i64)))])],[],[]⟩) .o .o))))
def x56:ay:=comp (au Tryz.f56) (.n none .o (.n none .o (.n none .o (.n none .o (.n none .o (.n (some ⟨[],[],[],[((6,none),[(false,(.int .u8)),(false,(.int .u8)),(false,(.int .u8)),(false,(.int .u8)),(false,(.int .i64)),(false,(.int .i64)),(false,(.int .i64)),(false,(.int .i64)),(false,(.int .i64)),(false,(.int .u64)),(false,(.int .u64)),(false,(.aK (.pair (.int .i64) .bool))),(false,(.int .u64)),(false,(.int .u64)),(false,(.int .i64)),(false,(.int .i64)),(false,(.aK (.int .i64))),(false,(.int .i64)),(false,(.aK (.int .i64))),(false,(.int .i64)),(false,.bool),(false,.bool),(false,.bool),(false,(.int .i64)),(false,(.int .i64)),(false,(.aK (.int .i64)))])],[],[]⟩) .o .o))))))
def x57:ay:=comp (au Tryz.f57) (.n none .o (.n none .o (.n (some ⟨[],[],[],[((8,none),[(false,(.int .u8)),(false,(.int .u8)),(false,(.int .u8)),(false,(.int .u8)),(false,(.int .i64)),(false,(.int .i64)),(false,(.int .i64)),(false,(.int .i64)),(false,(.int .i64)),(false,(.int .u64)),(false,(.int .u64)),(false,(.aK (.pair (.int .i64) .bool))),(false,(.int .u64)),(false,(.int .u64)),(false,(.int .i64)),(false,(.int .i64)),(false,(.aK (.int .i64))),(false,(.int .i64)),(false,(.aK (.int .i64))),(false,(.int .i64)),(false,.bool),(false,.bool),(false,.bool),(false,(.int .i64)),(false,(.int .i64)),(false,(.aK (.int .i64)))])],[],[]⟩) .o .o)))
def x58:ay:=comp (au Tryz.f58) (.n none .o (.n (some ⟨[],[],[],[((6,none),[(false,(.int .u8)),(false,(.int .u8)),(false,(.int .u8)),(false,(.int .u8)),(false,(.int .i64)),(false,(.int .i64)),(false,(.int .i64)),(false,(.int .i64)),(false,(.int .i64)),(false,(.int .u64)),(false,(.int .u64)),(false,(.aK (.pair (.int .i64) .bool))),(false,(.int .u64)),(false,(.int .u64)),(false,(.int .i64)),(false,(.int .i64)),(false,(.aK (.int .i64))),(false,(.int .i64)),(false,(.aK (.int .i64))),(false,(.int .i64)),(false,.bool),(false,.bool),(false,.bool),(false,(.int .i64)),(false,(.int .i64)),(false,(.aK (.int .i64)))])],[],[]⟩) .o (.n none .o (.n (some ⟨[],[],[],[((8,none),[(false,(.int .i64)),(false,(.int .i64)),(false,(.int .i64)),(false,(.int .i64)),(false,(.ptr 1)),(false,(.int .u8)),(false,(.int .u8)),(false,(.int .u8)),(false,(.int .u8)),(false,(.int .i64)),(false,(.int .i64)),(false,(.int .i64)),(false,(.int .i64)),(false,(.int .i64)),(false,(.int .u64)),(false,(.int .u64)),(false,(.aK (.pair (.int .i64) .bool))),(false,(.int .u64)),(false,(.int .u64)),(false,(.int .i64)),(false,(.int .i64)),(false,(.aK (.int .i64))),(false,(.int .i64)),(false,(.aK (.int .i64))),(false,(.int .i64)),(false,.bool),(false,.bool),(false,.bool),(false,(.int .i64)),(false,(.int .i64)),(false,(.aK (.int .i64))),(false,(.int .i64))]),((6,none),[(false,(.int .u8)),(false,(.int .u8)),(false,(.int .u8)),(false,(.int .u8)),(false,(.int .i64)),(false,(.int .i64)),(false,(.int .i64)),(false,(.int .i64)),(false,(.int .i64)),(false,(.int .u64)),(false,(.int .u64)),(false,(.aK (.pair (.int .i64) .bool))),(false,(.int .u64)),(false,(.int .u64)),(false,(.int .i64)),(false,(.int .i64)),(false,(.aK (.int .i64))),(false,(.int .i64)),(false,(.aK (.int .i64))),(false,(.int .i64)),(false,.bool),(false,.bool),(false,.bool),(false,(.int .i64)),(false,(.int .i64)),(false,(.aK (.int .i64)))])],[],[(2,R2)]⟩) (.n none .o (.n none (.n none .o (.n none .o (.n none .o (.n none .o (.n none .o (.n none .o (.n none .o (.n none .o (.n (some ⟨[(9,false,(.int .i64))],[],[],[],[],[(2,R2)]⟩) .o .o))))))))) .o)) .o))))
def x59:ay:=comp (au Tryz.f59) .o
def x60:ay:=comp (au Tryz.f60) .o
def x61:ay:=comp (au Tryz.f61) .o
def x63:ay:=comp (au Tryz.f63) .o
def x64:ay:=comp (au Tryz.f64) (.n none .o (.n (some ⟨[(8,false,.bool)],[],[],[],[],[]⟩) .o .o))
def x65:ay:=comp (au Tryz.f65) .o
def x66:ay:=comp (au Tryz.f66) (.n none .o (.n (some ⟨[(10,false,.bool)],[],[],[],[],[]⟩) .o .o))
def x67:ay:=comp (au Tryz.f67) (.n none .o (.n (some ⟨[(19,false,.bool)],[],[],[],[],[]⟩) .o .o))
def x68:ay:=comp (au Tryz.f68) .o
def x69:ay:=comp (au Tryz.f69) .o
def x70:ay:=comp (au Tryz.f70) (.n none .o (.n none (.n none (.n (some ⟨[(8,false,.bool)],[],[],[],[],[]⟩) .o .o) .o) .o))
def x71:ay:=comp (au Tryz.f71) (.n none .o (.n none .o (.n none (.n none .o (.n none (.n (some ⟨[(12,false,(.int .i64))],[],[],[],[],[(2,R2)]⟩) .o .o) .o)) .o)))
def x72:ay:=comp (au Tryz.f72) .o
def x73:ay:=comp (au Tryz.f73) .o
def x74:ay:=comp (au Tryz.f74) .o
def x75:ay:=comp (au Tryz.f75) .o
def x76:ay:=comp (au Tryz.f76) .o
def x77:ay:=comp (au Tryz.f77) .o
def x78:ay:=comp (au Tryz.f78) (.n none .o (.n none .o (.n none (.n none (.n (some ⟨[(15,false,.bool)],[],[],[],[],[]⟩) .o .o) .o) .o)))
def x79:ay:=comp (au Tryz.f79) .o
def x80:ay:=comp (au Tryz.f80) (.n none .o (.n none (.n none .o (.n none (.n (some ⟨[(7,false,(.int .i64))],[],[],[],[],[]⟩) .o .o) .o)) .o))
def x81:ay:=comp (au Tryz.f81) (.n none .o (.n (some ⟨[],[],[],[],[],[]⟩) .o .o))
def x82:ay:=comp (au Tryz.f82) .o
def x83:ay:=comp (au Tryz.f83) .o
def x84:ay:=comp (au Tryz.f84) .o
def x85:ay:=comp (au Tryz.f85) (.n none .o (.n (some ⟨[],[],[],[],[],[]⟩) .o (.n (some ⟨[(6,false,(.int .i64))],[],[],[],[],[]⟩) .o .o)))
def x86:ay:=comp (au Tryz.f86) .o
def x87:ay:=comp (au Tryz.f87) .o
def x88:ay:=comp (au Tryz.f88) .o
def x89:ay:=comp (au Tryz.f89) .o
def x90:ay:=comp (au Tryz.f90) .o
def x91:ay:=comp (au Tryz.f91) .o
def x92:ay:=comp (au Tryz.f92) .o
def x93:ay:=comp (au Tryz.f93) .o
def Z_:ay:=comp (au Tryz.f94) .o
def Z9:ay:=comp (au Tryz.f95) (.n none .o (.n (some ⟨[],[],[],[((0,none),[(false,(.int .i64)),(false,(.int .i64)),(false,(.int .i64)),(false,(.int .i64)),(false,(.ptr 1)),(false,(.int .u8)),(false,(.int .u8)),(false,(.int .u8)),(false,(.int .u8)),(false,(.int .i64)),(false,(.int .i64)),(false,(.int .i64)),(false,(.int .i64)),(false,(.int .i64)),(false,(.int .u64)),(false,(.int .u64)),(false,(.aK (.pair (.int .i64) .bool))),(false,(.int .u64)),(false,(.int .u64)),(false,(.int .i64)),(false,(.int .i64)),(false,(.aK (.int .i64))),(false,(.int .i64)),(false,(.aK (.int .i64))),(false,(.int .i64)),(false,.bool),(false,.bool),(false,.bool),(false,(.int .i64)),(false,(.int .i64)),(false,(.aK (.int .i64))),(false,(.int .i64))])],[],[]⟩) .o (.n none .o (.n (some ⟨[(4,false,(.int .i64)),(5,false,(.int .i64))],[],[],[],[],[]⟩) .o .o))))
def Z8:ay:=comp (au Tryz.f96) (.n none .o (.n none .o (.n none (.n none .o (.n none (.n (some ⟨[(3,false,(.int .i64))],[],[],[],[],[]⟩) (.n none (.n none (.n none (.n (some ⟨[(3,false,(.int .i64))],[],[],[],[],[]⟩) .o .o) .o) .o) .o) .o) .o)) .o)))
def Z7:ay:=comp (au Tryz.f97) .o
def Z6:ay:=comp (au Tryz.f98) .o
def Z5:ay:=comp (au Tryz.f99) .o
def Nu:ay:=comp (au Tryz.f100) .o
def Nt:ay:=comp (au Tryz.f101) .o
def Ns:ay:=comp (au Tryz.f102) .o
def Nr:ay:=comp (au Tryz.f103) .o
def Nq:ay:=comp (au Tryz.f104) .o
def Np:ay:=comp (au Tryz.f105) .o
def No:ay:=comp (au Tryz.f106) .o
def Nn:ay:=comp (au Tryz.f107) (.n none .o (.n (some ⟨[],[],[],[],[],[]⟩) .o (.n (some ⟨[(7,false,(.int .i64))],[],[],[],[],[]⟩) .o (.n (some ⟨[(7,false,(.int .i64))],[],[],[],[],[]⟩) .o (.n (some ⟨[],[],[],[],[],[]⟩) .o (.n none .o (.n none .o (.n none .o (.n none (.n none .o (.n none (.n (some ⟨[(107,false,(.int .i64))],[],[],[],[],[(3,R3),(4,R4)]⟩) (.n none .o (.n none .o (.n none (.n none (.n none .o (.n none .o (.n none (.n (some ⟨[(140,false,.bool)],[],[],[],[],[]⟩) .o .o) .o))) .o) .o))) .o) .o)) .o)))))))))
def Nm:ay:=comp (au Tryz.f108) .o
def Nl:ay:=comp (au Tryz.f109) (.n none .o (.n none .o (.n none .o (.n none (.n none .o (.n none (.n (some ⟨[(6,false,(.int .u64)),(12,false,(.int .i64))],[],[],[],[],[]⟩) .o .o) .o)) .o))))
def Nk:ay:=comp (au Tryz.f110) .o
def Nj:ay:=comp (au Tryz.f111) .o
def Ni:ay:=comp (au Tryz.f112) (.n none .o (.n none (.n none .o (.n none (.n (some ⟨[(8,false,(.int .i64))],[],[],[],[],[]⟩) .o .o) .o)) .o))
def Nh:ay:=comp (au Tryz.f113) .o
def Ng:ay:=comp (au Tryz.f114) .o
def Nf:ay:=comp (au Tryz.f115) .o
def Nd:ay:=comp (au Tryz.f116) (.n none .o (.n none .o (.n none .o (.n (some ⟨[(5,false,(.int .u64))],[],[],[],[],[]⟩) .o .o))))
def Nc:ay:=comp (au Tryz.f117) (.n none .o (.n none .o (.n (some ⟨[],[],[],[],[],[]⟩) (.n none (.n none .o (.n none .o (.n (some ⟨[(30,false,.bool)],[],[],[],[],[]⟩) .o .o))) .o) (.n none .o (.n (some ⟨[],[],[],[],[],[]⟩) .o .o)))))
def Nb:ay:=comp (au Tryz.f118) (.n none .o (.n (some ⟨[],[],[],[],[],[]⟩) .o .o))
def Na:ay:=comp (au Tryz.f119) (.n none .o (.n (some ⟨[],[],[],[((2,none),[(false,(.int .i64)),(false,(.int .i64)),(false,(.int .i64)),(false,(.int .i64))]),((4,none),[(false,(.int .i64)),(false,(.int .i64)),(false,(.int .i64)),(false,(.int .i64))])],[],[]⟩) (.n none (.n (some ⟨[(6,false,.bool)],[],[],[],[],[]⟩) .o .o) .o) .o))
def M_:ay:=comp (au Tryz.f120) .o
def M9:ay:=comp (au Tryz.f121) .o
def M8:ay:=comp (au Tryz.f122) .o
def M7:ay:=comp (au Tryz.f123) .o
def M6:ay:=comp (au Tryz.f124) .o
def M5:ay:=comp (au Tryz.f125) .o
def M4:ay:=comp (au Tryz.f126) (.n none .o (.n none .o (.n none .o (.n none .o (.n none (.n none .o (.n none (.n (some ⟨[(46,false,(.int .i64))],[(5,(.int .i64)),(6,(.int .u64))],[],[],[],[(1,R1)]⟩) .o .o) .o)) (.n none .o (.n none .o (.n none (.n none .o (.n none (.n (some ⟨[(100,false,(.int .i64))],[],[],[],[],[(1,R1),(2,R2)]⟩) .o .o) .o)) (.n (some ⟨[],[],[],[((0,none),[(false,(.int .i64)),(false,(.int .i64)),(false,(.int .i64)),(false,(.int .i64)),(false,(.jU 9 1)),(false,(.ptr 1)),(false,(.int .u8)),(false,(.int .u8)),(false,(.int .u8)),(false,(.int .u8)),(false,(.int .i64)),(false,(.int .i64)),(false,(.int .i64)),(false,(.int .i64)),(false,(.int .i64)),(false,(.int .u64)),(false,(.int .u64)),(false,(.aK (.pair (.int .i64) .bool))),(false,(.int .u64)),(false,(.int .u64)),(false,(.int .i64)),(false,(.int .i64)),(false,(.aK (.int .i64))),(false,(.int .i64)),(false,(.aK (.int .i64))),(false,(.int .i64)),(false,.bool),(false,.bool),(false,.bool),(false,(.int .i64)),(false,(.int .i64)),(false,(.aK (.int .i64)))])],[],[]⟩) .o .o)))))))))
def M3:ay:=comp (au Tryz.f127) .o
def M1:ay:=comp (au Tryz.f128) .o
def M0:ay:=comp (au Tryz.f129) .o
def MZ:ay:=comp (au Tryz.f130) .o
def MY:ay:=comp (au Tryz.f131) .o
def MX:ay:=comp (au Tryz.f132) .o
def MW:ay:=comp (au Tryz.f133) .o
def MV:ay:=comp (au Tryz.f134) (.n none .o (.n none .o (.n (some ⟨[],[],[],[],[],[]⟩) .o .o)))
def MU:ay:=comp (au Tryz.f135) (.n none .o (.n none .o (.n none (.n none .o (.n none (.n (some ⟨[(2,false,(.int .i64)),(9,false,(.int .i64))],[],[],[],[],[]⟩) .o .o) .o)) .o)))
def MT:ay:=comp (au Tryz.f136) (.n none .o (.n none (.n none .o (.n none (.n (some ⟨[(8,false,(.int .i64))],[],[],[],[],[]⟩) .o .o) .o)) .o))
def MS:ay:=comp (au Tryz.f137) (.n none .o (.n none (.n none .o (.n none (.n (some ⟨[(4,false,.bool)],[],[],[],[],[]⟩) .o .o) .o)) .o))
def MR:ay:=comp (au Tryz.f138) (.n none .o (.n none (.n none .o (.n none (.n (some ⟨[(8,false,(.int .i64))],[],[],[],[],[]⟩) .o .o) .o)) .o))
def MQ:ay:=comp (au Tryz.f139) (.n none .o (.n none (.n none .o (.n none (.n (some ⟨[(8,false,(.int .i64))],[],[],[],[],[]⟩) .o .o) .o)) .o))
def MP:ay:=comp (au Tryz.f140) .o
def MO:ay:=comp (au Tryz.f141) .o
def MN:ay:=comp (au Tryz.f142) .o
def MM:ay:=comp (au Tryz.f143) .o
def ML:ay:=comp (au Tryz.f144) .o
def MK:ay:=comp (au Tryz.f145) .o
def MJ:ay:=comp (au Tryz.f146) .o
def MI:ay:=comp (au Tryz.f147) .o
def MH:ay:=comp (au Tryz.f148) .o
def MG:ay:=comp (au Tryz.f149) (.n none .o (.n none .o (.n none .o (.n none .o (.n (some ⟨[],[],[],[((10,none),[(true,(.int .u64)),(true,(.int .i64)),(false,.bool),(false,(.int .i64))])],[],[]⟩) .o .o)))))
def MF:ay:=comp (au Tryz.f150) (.n none .o (.n none .o (.n none (.n none .o (.n none (.n (some ⟨[(3,false,(.int .i64)),(11,false,(.int .i64))],[],[],[],[],[]⟩) .o .o) .o)) (.n (some ⟨[],[(6,(.int .i64))],[],[],[],[]⟩) .o (.n none (.n none .o (.n none (.n (some ⟨[(27,false,(.int .i64))],[(6,(.int .i64))],[],[],[],[]⟩) .o .o) .o)) .o)))))
def ME:ay:=comp (au Tryz.f151) .o
def MD:ay:=comp (au Tryz.f152) .o
def MC:ay:=comp (au Tryz.f153) (.n none .o (.n (some ⟨[],[],[],[((6,none),[(false,(.int .i64)),(false,(.int .i64)),(false,(.int .i64)),(false,(.int .i64))])],[],[]⟩) .o .o))
def MB:ay:=comp (au Tryz.f154) .o
def MA:ay:=comp (au Tryz.f155) .o
def Mz:ay:=comp (au Tryz.f156) .o
def My:ay:=comp (au Tryz.f157) .o
def Mx:ay:=comp (au Tryz.f158) .o
def Mw:ay:=comp (au Tryz.f159) .o
def Mv:ay:=comp (au Tryz.f160) .o
def Mu:ay:=comp (au Tryz.f161) .o
def Mt:ay:=comp (au Tryz.f162) (.n none .o (.n (some ⟨[],[],[],[],[],[]⟩) .o .o))
def Ms:ay:=comp (au Tryz.f163) .o
def fnT:Tr (Func×ay):=(.node (.node (.node (.node (.node (.node (.node (.node .nil (some (Tryz.f127,M3)) .nil) (some (Tryz.f63,x63)) .nil) (some (Tryz.f31,x31)) (.node (.node .nil (some (Tryz.f159,Mw)) .nil) (some (Tryz.f95,Z9)) .nil)) none (.node (.node (.node .nil (some (Tryz.f143,MM)) .nil) (some (Tryz.f79,x79)) .nil) (some (Tryz.f47,x47)) (.node .nil (some (Tryz.f111,Nj)) .nil))) (some (Tryz.f7,x7)) (.node (.node (.node (.node .nil (some (Tryz.f135,MU)) .nil) (some (Tryz.f71,x71)) .nil) none (.node .nil (some (Tryz.f103,Nr)) .nil)) (some (Tryz.f23,x23)) (.node (.node (.node .nil (some (Tryz.f151,ME)) .nil) (some (Tryz.f87,x87)) .nil) (some (Tryz.f55,x55)) (.node .nil (some (Tryz.f119,Na)) .nil)))) none (.node (.node (.node (.node (.node .nil (some (Tryz.f131,MY)) .nil) (some (Tryz.f67,x67)) .nil) (some (Tryz.f35,x35)) (.node (.node .nil (some (Tryz.f163,Ms)) .nil) (some (Tryz.f99,Z5)) .nil)) none (.node (.node (.node .nil (some (Tryz.f147,MI)) .nil) (some (Tryz.f83,x83)) .nil) (some (Tryz.f51,x51)) (.node .nil (some (Tryz.f115,Nf)) .nil))) (some (Tryz.f11,x11)) (.node (.node (.node (.node .nil (some (Tryz.f139,MQ)) .nil) (some (Tryz.f75,x75)) .nil) (some (Tryz.f43,x43)) (.node .nil (some (Tryz.f107,Nn)) .nil)) (some (Tryz.f27,x27)) (.node (.node (.node .nil (some (Tryz.f155,MA)) .nil) (some (Tryz.f91,x91)) .nil) (some (Tryz.f59,x59)) (.node .nil (some (Tryz.f123,M7)) .nil))))) none (.node (.node (.node (.node (.node (.node .nil (some (Tryz.f129,M0)) .nil) (some (Tryz.f65,x65)) .nil) (some (Tryz.f33,x33)) (.node (.node .nil (some (Tryz.f161,Mu)) .nil) (some (Tryz.f97,Z7)) .nil)) none (.node (.node (.node .nil (some (Tryz.f145,MK)) .nil) (some (Tryz.f81,x81)) .nil) (some (Tryz.f49,x49)) (.node .nil (some (Tryz.f113,Nh)) .nil))) (some (Tryz.f9,x9)) (.node (.node (.node (.node .nil (some (Tryz.f137,MS)) .nil) (some (Tryz.f73,x73)) .nil) (some (Tryz.f41,x41)) (.node .nil (some (Tryz.f105,Np)) .nil)) (some (Tryz.f25,x25)) (.node (.node (.node .nil (some (Tryz.f153,MC)) .nil) (some (Tryz.f89,x89)) .nil) (some (Tryz.f57,x57)) (.node .nil (some (Tryz.f121,M9)) .nil)))) none (.node (.node (.node (.node (.node .nil (some (Tryz.f133,MW)) .nil) (some (Tryz.f69,x69)) .nil) none (.node .nil (some (Tryz.f101,Nt)) .nil)) (some (Tryz.f21,x21)) (.node (.node (.node .nil (some (Tryz.f149,MG)) .nil) (some (Tryz.f85,x85)) .nil) (some (Tryz.f53,x53)) (.node .nil (some (Tryz.f117,Nc)) .nil))) none (.node (.node (.node (.node .nil (some (Tryz.f141,MO)) .nil) (some (Tryz.f77,x77)) .nil) (some (Tryz.f45,x45)) (.node .nil (some (Tryz.f109,Nl)) .nil)) (some (Tryz.f29,x29)) (.node (.node (.node .nil (some (Tryz.f157,My)) .nil) (some (Tryz.f93,x93)) .nil) (some (Tryz.f61,x61)) (.node .nil (some (Tryz.f125,M5)) .nil)))))) none (.node (.node (.node (.node (.node (.node (.node .nil (some (Tryz.f128,M1)) .nil) (some (Tryz.f64,x64)) .nil) (some (Tryz.f32,x32)) (.node (.node .nil (some (Tryz.f160,Mv)) .nil) (some (Tryz.f96,Z8)) .nil)) none (.node (.node (.node .nil (some (Tryz.f144,ML)) .nil) (some (Tryz.f80,x80)) .nil) (some (Tryz.f48,x48)) (.node .nil (some (Tryz.f112,Ni)) .nil))) (some (Tryz.f8,x8)) (.node (.node (.node (.node .nil (some (Tryz.f136,MT)) .nil) (some (Tryz.f72,x72)) .nil) (some (Tryz.f40,x40)) (.node .nil (some (Tryz.f104,Nq)) .nil)) (some (Tryz.f24,x24)) (.node (.node (.node .nil (some (Tryz.f152,MD)) .nil) (some (Tryz.f88,x88)) .nil) (some (Tryz.f56,x56)) (.node .nil (some (Tryz.f120,M_)) .nil)))) (some (Tryz.f4,x4)) (.node (.node (.node (.node (.node .nil (some (Tryz.f132,MX)) .nil) (some (Tryz.f68,x68)) .nil) (some (Tryz.f36,x36)) (.node .nil (some (Tryz.f100,Nu)) .nil)) (some (Tryz.f20,x20)) (.node (.node (.node .nil (some (Tryz.f148,MH)) .nil) (some (Tryz.f84,x84)) .nil) (some (Tryz.f52,x52)) (.node .nil (some (Tryz.f116,Nd)) .nil))) (some (Tryz.f12,x12)) (.node (.node (.node (.node .nil (some (Tryz.f140,MP)) .nil) (some (Tryz.f76,x76)) .nil) (some (Tryz.f44,x44)) (.node .nil (some (Tryz.f108,Nm)) .nil)) (some (Tryz.f28,x28)) (.node (.node (.node .nil (some (Tryz.f156,Mz)) .nil) (some (Tryz.f92,x92)) .nil) (some (Tryz.f60,x60)) (.node .nil (some (Tryz.f124,M6)) .nil))))) none (.node (.node (.node (.node (.node (.node .nil (some (Tryz.f130,MZ)) .nil) (some (Tryz.f66,x66)) .nil) (some (Tryz.f34,x34)) (.node (.node .nil (some (Tryz.f162,Mt)) .nil) (some (Tryz.f98,Z6)) .nil)) none (.node (.node (.node .nil (some (Tryz.f146,MJ)) .nil) (some (Tryz.f82,x82)) .nil) (some (Tryz.f50,x50)) (.node .nil (some (Tryz.f114,Ng)) .nil))) (some (Tryz.f10,x10)) (.node (.node (.node (.node .nil (some (Tryz.f138,MR)) .nil) (some (Tryz.f74,x74)) .nil) (some (Tryz.f42,x42)) (.node .nil (some (Tryz.f106,No)) .nil)) (some (Tryz.f26,x26)) (.node (.node (.node .nil (some (Tryz.f154,MB)) .nil) (some (Tryz.f90,x90)) .nil) (some (Tryz.f58,x58)) (.node .nil (some (Tryz.f122,M8)) .nil)))) none (.node (.node (.node (.node (.node .nil (some (Tryz.f134,MV)) .nil) (some (Tryz.f70,x70)) .nil) (some (Tryz.f38,x38)) (.node .nil (some (Tryz.f102,Ns)) .nil)) (some (Tryz.f22,x22)) (.node (.node (.node .nil (some (Tryz.f150,MF)) .nil) (some (Tryz.f86,x86)) .nil) (some (Tryz.f54,x54)) (.node .nil (some (Tryz.f118,Nb)) .nil))) none (.node (.node (.node (.node .nil (some (Tryz.f142,MN)) .nil) (some (Tryz.f78,x78)) .nil) (some (Tryz.f46,x46)) (.node .nil (some (Tryz.f110,Nk)) .nil)) (some (Tryz.f30,x30)) (.node (.node (.node .nil (some (Tryz.f158,Mx)) .nil) (some (Tryz.f94,Z_)) .nil) none (.node .nil (some (Tryz.f126,M4)) .nil)))))))
def fns:FT:=fun f=>fnT.get f
theorem fk4:aO Tryz.prog 4 Tryz.f4 x4:=ak Tryz.func4 rfl rfl
theorem fk7:aO Tryz.prog 7 Tryz.f7 x7:=ak Tryz.func7 rfl rfl
theorem fk8:aO Tryz.prog 8 Tryz.f8 x8:=ak Tryz.func8 rfl rfl
theorem fk9:aO Tryz.prog 9 Tryz.f9 x9:=ak Tryz.func9 rfl rfl
theorem Yy:aO Tryz.prog 10 Tryz.f10 x10:=ak Tryz.func10 rfl rfl
theorem Yx:aO Tryz.prog 11 Tryz.f11 x11:=ak Tryz.func11 rfl rfl
theorem Yw:aO Tryz.prog 12 Tryz.f12 x12:=ak Tryz.func12 rfl rfl
theorem Yv:aO Tryz.prog 20 Tryz.f20 x20:=ak Tryz.func20 rfl rfl
theorem Yu:aO Tryz.prog 21 Tryz.f21 x21:=ak Tryz.func21 rfl rfl
theorem Yt:aO Tryz.prog 22 Tryz.f22 x22:=ak Tryz.func22 rfl rfl
theorem Ys:aO Tryz.prog 23 Tryz.f23 x23:=ak Tryz.func23 rfl rfl
theorem Yr:aO Tryz.prog 24 Tryz.f24 x24:=ak Tryz.func24 rfl rfl
theorem Yq:aO Tryz.prog 25 Tryz.f25 x25:=ak Tryz.func25 rfl rfl
theorem Yp:aO Tryz.prog 26 Tryz.f26 x26:=ak Tryz.func26 rfl rfl
theorem Yo:aO Tryz.prog 27 Tryz.f27 x27:=ak Tryz.func27 rfl rfl
theorem Yn:aO Tryz.prog 28 Tryz.f28 x28:=ak Tryz.func28 rfl rfl
theorem Ym:aO Tryz.prog 29 Tryz.f29 x29:=ak Tryz.func29 rfl rfl
theorem Yl:aO Tryz.prog 30 Tryz.f30 x30:=ak Tryz.func30 rfl rfl
theorem Yk:aO Tryz.prog 31 Tryz.f31 x31:=ak Tryz.func31 rfl rfl
theorem Yj:aO Tryz.prog 32 Tryz.f32 x32:=ak Tryz.func32 rfl rfl
theorem Yi:aO Tryz.prog 33 Tryz.f33 x33:=ak Tryz.func33 rfl rfl
theorem Yh:aO Tryz.prog 34 Tryz.f34 x34:=ak Tryz.func34 rfl rfl
theorem GZ:aO Tryz.prog 35 Tryz.f35 x35:=ak Tryz.func35 rfl rfl
theorem GY:aO Tryz.prog 36 Tryz.f36 x36:=ak Tryz.func36 rfl rfl
theorem Yg:aO Tryz.prog 38 Tryz.f38 x38:=ak Tryz.func38 rfl rfl
theorem Yf:aO Tryz.prog 40 Tryz.f40 x40:=ak Tryz.func40 rfl rfl
theorem Ye:aO Tryz.prog 41 Tryz.f41 x41:=ak Tryz.func41 rfl rfl
theorem Yd:aO Tryz.prog 42 Tryz.f42 x42:=ak Tryz.func42 rfl rfl
theorem Yc:aO Tryz.prog 43 Tryz.f43 x43:=ak Tryz.func43 rfl rfl
theorem Yb:aO Tryz.prog 44 Tryz.f44 x44:=ak Tryz.func44 rfl rfl
theorem Ya:aO Tryz.prog 45 Tryz.f45 x45:=ak Tryz.func45 rfl rfl
theorem X_:aO Tryz.prog 46 Tryz.f46 x46:=ak Tryz.func46 rfl rfl
theorem X9:aO Tryz.prog 47 Tryz.f47 x47:=ak Tryz.func47 rfl rfl
theorem X8:aO Tryz.prog 48 Tryz.f48 x48:=ak Tryz.func48 rfl rfl
theorem X7:aO Tryz.prog 49 Tryz.f49 x49:=ak Tryz.func49 rfl rfl
theorem X6:aO Tryz.prog 50 Tryz.f50 x50:=ak Tryz.func50 rfl rfl
theorem X5:aO Tryz.prog 51 Tryz.f51 x51:=ak Tryz.func51 rfl rfl
theorem X4:aO Tryz.prog 52 Tryz.f52 x52:=ak Tryz.func52 rfl rfl
theorem X3:aO Tryz.prog 53 Tryz.f53 x53:=ak Tryz.func53 rfl rfl
theorem X2:aO Tryz.prog 54 Tryz.f54 x54:=ak Tryz.func54 rfl rfl
theorem X1:aO Tryz.prog 55 Tryz.f55 x55:=ak Tryz.func55 rfl rfl
theorem X0:aO Tryz.prog 56 Tryz.f56 x56:=ak Tryz.func56 rfl rfl
theorem XZ:aO Tryz.prog 57 Tryz.f57 x57:=ak Tryz.func57 rfl rfl
theorem XY:aO Tryz.prog 58 Tryz.f58 x58:=ak Tryz.func58 rfl rfl
theorem XX:aO Tryz.prog 59 Tryz.f59 x59:=ak Tryz.func59 rfl rfl
theorem XW:aO Tryz.prog 60 Tryz.f60 x60:=ak Tryz.func60 rfl rfl
theorem XV:aO Tryz.prog 61 Tryz.f61 x61:=ak Tryz.func61 rfl rfl
theorem XU:aO Tryz.prog 63 Tryz.f63 x63:=ak Tryz.func63 rfl rfl
theorem XT:aO Tryz.prog 64 Tryz.f64 x64:=ak Tryz.func64 rfl rfl
theorem XS:aO Tryz.prog 65 Tryz.f65 x65:=ak Tryz.func65 rfl rfl
theorem XR:aO Tryz.prog 66 Tryz.f66 x66:=ak Tryz.func66 rfl rfl
theorem XQ:aO Tryz.prog 67 Tryz.f67 x67:=ak Tryz.func67 rfl rfl
theorem XP:aO Tryz.prog 68 Tryz.f68 x68:=ak Tryz.func68 rfl rfl
theorem XO:aO Tryz.prog 69 Tryz.f69 x69:=ak Tryz.func69 rfl rfl
theorem XN:aO Tryz.prog 70 Tryz.f70 x70:=ak Tryz.func70 rfl rfl
theorem XM:aO Tryz.prog 71 Tryz.f71 x71:=ak Tryz.func71 rfl rfl
theorem XL:aO Tryz.prog 72 Tryz.f72 x72:=ak Tryz.func72 rfl rfl
theorem XK:aO Tryz.prog 73 Tryz.f73 x73:=ak Tryz.func73 rfl rfl
theorem XJ:aO Tryz.prog 74 Tryz.f74 x74:=ak Tryz.func74 rfl rfl
theorem XI:aO Tryz.prog 75 Tryz.f75 x75:=ak Tryz.func75 rfl rfl
theorem XH:aO Tryz.prog 76 Tryz.f76 x76:=ak Tryz.func76 rfl rfl
theorem XG:aO Tryz.prog 77 Tryz.f77 x77:=ak Tryz.func77 rfl rfl
theorem XF:aO Tryz.prog 78 Tryz.f78 x78:=ak Tryz.func78 rfl rfl
theorem XE:aO Tryz.prog 79 Tryz.f79 x79:=ak Tryz.func79 rfl rfl
theorem XD:aO Tryz.prog 80 Tryz.f80 x80:=ak Tryz.func80 rfl rfl
theorem XC:aO Tryz.prog 81 Tryz.f81 x81:=ak Tryz.func81 rfl rfl
theorem XB:aO Tryz.prog 82 Tryz.f82 x82:=ak Tryz.func82 rfl rfl
theorem XA:aO Tryz.prog 83 Tryz.f83 x83:=ak Tryz.func83 rfl rfl
theorem Xz:aO Tryz.prog 84 Tryz.f84 x84:=ak Tryz.func84 rfl rfl
theorem Xy:aO Tryz.prog 85 Tryz.f85 x85:=ak Tryz.func85 rfl rfl
theorem Xx:aO Tryz.prog 86 Tryz.f86 x86:=ak Tryz.func86 rfl rfl
theorem Xw:aO Tryz.prog 87 Tryz.f87 x87:=ak Tryz.func87 rfl rfl
theorem Xv:aO Tryz.prog 88 Tryz.f88 x88:=ak Tryz.func88 rfl rfl
theorem Xu:aO Tryz.prog 89 Tryz.f89 x89:=ak Tryz.func89 rfl rfl
theorem Xs:aO Tryz.prog 90 Tryz.f90 x90:=ak Tryz.func90 rfl rfl
theorem Xr:aO Tryz.prog 91 Tryz.f91 x91:=ak Tryz.func91 rfl rfl
theorem Xq:aO Tryz.prog 92 Tryz.f92 x92:=ak Tryz.func92 rfl rfl
theorem Xp:aO Tryz.prog 93 Tryz.f93 x93:=ak Tryz.func93 rfl rfl
theorem Xo:aO Tryz.prog 94 Tryz.f94 Z_:=ak Tryz.func94 rfl rfl
theorem Xn:aO Tryz.prog 95 Tryz.f95 Z9:=ak Tryz.func95 rfl rfl
theorem Xm:aO Tryz.prog 96 Tryz.f96 Z8:=ak Tryz.func96 rfl rfl
theorem Xl:aO Tryz.prog 97 Tryz.f97 Z7:=ak Tryz.func97 rfl rfl
theorem Xk:aO Tryz.prog 98 Tryz.f98 Z6:=ak Tryz.func98 rfl rfl
theorem Xj:aO Tryz.prog 99 Tryz.f99 Z5:=ak Tryz.func99 rfl rfl
theorem Sn:aO Tryz.prog 100 Tryz.f100 Nu:=ak Tryz.func100 rfl rfl
theorem Sm:aO Tryz.prog 101 Tryz.f101 Nt:=ak Tryz.func101 rfl rfl
theorem Sl:aO Tryz.prog 102 Tryz.f102 Ns:=ak Tryz.func102 rfl rfl
theorem Sk:aO Tryz.prog 103 Tryz.f103 Nr:=ak Tryz.func103 rfl rfl
theorem Sj:aO Tryz.prog 104 Tryz.f104 Nq:=ak Tryz.func104 rfl rfl
theorem Si:aO Tryz.prog 105 Tryz.f105 Np:=ak Tryz.func105 rfl rfl
theorem Sh:aO Tryz.prog 106 Tryz.f106 No:=ak Tryz.func106 rfl rfl
theorem Se:aO Tryz.prog 107 Tryz.f107 Nn:=ak Tryz.func107 rfl rfl
theorem Sd:aO Tryz.prog 108 Tryz.f108 Nm:=ak Tryz.func108 rfl rfl
theorem Sc:aO Tryz.prog 109 Tryz.f109 Nl:=ak Tryz.func109 rfl rfl
theorem Sb:aO Tryz.prog 110 Tryz.f110 Nk:=ak Tryz.func110 rfl rfl
theorem Sa:aO Tryz.prog 111 Tryz.f111 Nj:=ak Tryz.func111 rfl rfl
theorem R_:aO Tryz.prog 112 Tryz.f112 Ni:=ak Tryz.func112 rfl rfl
theorem RZ:aO Tryz.prog 113 Tryz.f113 Nh:=ak Tryz.func113 rfl rfl
theorem RY:aO Tryz.prog 114 Tryz.f114 Ng:=ak Tryz.func114 rfl rfl
theorem RX:aO Tryz.prog 115 Tryz.f115 Nf:=ak Tryz.func115 rfl rfl
theorem RW:aO Tryz.prog 116 Tryz.f116 Nd:=ak Tryz.func116 rfl rfl
theorem RV:aO Tryz.prog 117 Tryz.f117 Nc:=ak Tryz.func117 rfl rfl
theorem RU:aO Tryz.prog 118 Tryz.f118 Nb:=ak Tryz.func118 rfl rfl
theorem RT:aO Tryz.prog 119 Tryz.f119 Na:=ak Tryz.func119 rfl rfl
theorem RS:aO Tryz.prog 120 Tryz.f120 M_:=ak Tryz.func120 rfl rfl
theorem RR:aO Tryz.prog 121 Tryz.f121 M9:=ak Tryz.func121 rfl rfl
theorem RQ:aO Tryz.prog 122 Tryz.f122 M8:=ak Tryz.func122 rfl rfl
theorem RP:aO Tryz.prog 123 Tryz.f123 M7:=ak Tryz.func123 rfl rfl
theorem RO:aO Tryz.prog 124 Tryz.f124 M6:=ak Tryz.func124 rfl rfl
theorem RN:aO Tryz.prog 125 Tryz.f125 M5:=ak Tryz.func125 rfl rfl
theorem RM:aO Tryz.prog 126 Tryz.f126 M4:=ak Tryz.func126 rfl rfl
theorem RL:aO Tryz.prog 127 Tryz.f127 M3:=ak Tryz.func127 rfl rfl
theorem RJ:aO Tryz.prog 128 Tryz.f128 M1:=ak Tryz.func128 rfl rfl
theorem RI:aO Tryz.prog 129 Tryz.f129 M0:=ak Tryz.func129 rfl rfl
theorem RH:aO Tryz.prog 130 Tryz.f130 MZ:=ak Tryz.func130 rfl rfl
theorem RG:aO Tryz.prog 131 Tryz.f131 MY:=ak Tryz.func131 rfl rfl
theorem RF:aO Tryz.prog 132 Tryz.f132 MX:=ak Tryz.func132 rfl rfl
theorem RE:aO Tryz.prog 133 Tryz.f133 MW:=ak Tryz.func133 rfl rfl
theorem RD:aO Tryz.prog 134 Tryz.f134 MV:=ak Tryz.func134 rfl rfl
theorem RB:aO Tryz.prog 135 Tryz.f135 MU:=ak Tryz.func135 rfl rfl
theorem RA:aO Tryz.prog 136 Tryz.f136 MT:=ak Tryz.func136 rfl rfl
theorem Rz:aO Tryz.prog 137 Tryz.f137 MS:=ak Tryz.func137 rfl rfl
theorem Ry:aO Tryz.prog 138 Tryz.f138 MR:=ak Tryz.func138 rfl rfl
theorem Rx:aO Tryz.prog 139 Tryz.f139 MQ:=ak Tryz.func139 rfl rfl
theorem Rw:aO Tryz.prog 140 Tryz.f140 MP:=ak Tryz.func140 rfl rfl
theorem Rv:aO Tryz.prog 141 Tryz.f141 MO:=ak Tryz.func141 rfl rfl
theorem Ru:aO Tryz.prog 142 Tryz.f142 MN:=ak Tryz.func142 rfl rfl
theorem Rt:aO Tryz.prog 143 Tryz.f143 MM:=ak Tryz.func143 rfl rfl
theorem Rs:aO Tryz.prog 144 Tryz.f144 ML:=ak Tryz.func144 rfl rfl
theorem Rq:aO Tryz.prog 145 Tryz.f145 MK:=ak Tryz.func145 rfl rfl
theorem Rp:aO Tryz.prog 146 Tryz.f146 MJ:=ak Tryz.func146 rfl rfl
theorem Ro:aO Tryz.prog 147 Tryz.f147 MI:=ak Tryz.func147 rfl rfl
theorem Rm:aO Tryz.prog 148 Tryz.f148 MH:=ak Tryz.func148 rfl rfl
theorem Rl:aO Tryz.prog 149 Tryz.f149 MG:=ak Tryz.func149 rfl rfl
theorem Rk:aO Tryz.prog 150 Tryz.f150 MF:=ak Tryz.func150 rfl rfl
theorem Rj:aO Tryz.prog 151 Tryz.f151 ME:=ak Tryz.func151 rfl rfl
theorem Ri:aO Tryz.prog 152 Tryz.f152 MD:=ak Tryz.func152 rfl rfl
theorem Rh:aO Tryz.prog 153 Tryz.f153 MC:=ak Tryz.func153 rfl rfl
theorem Rf:aO Tryz.prog 154 Tryz.f154 MB:=ak Tryz.func154 rfl rfl
theorem Re:aO Tryz.prog 155 Tryz.f155 MA:=ak Tryz.func155 rfl rfl
theorem Rd:aO Tryz.prog 156 Tryz.f156 Mz:=ak Tryz.func156 rfl rfl
theorem Rc:aO Tryz.prog 157 Tryz.f157 My:=ak Tryz.func157 rfl rfl
theorem Rb:aO Tryz.prog 158 Tryz.f158 Mx:=ak Tryz.func158 rfl rfl
theorem Ra:aO Tryz.prog 159 Tryz.f159 Mw:=ak Tryz.func159 rfl rfl
theorem Q_:aO Tryz.prog 160 Tryz.f160 Mv:=ak Tryz.func160 rfl rfl
theorem Q9:aO Tryz.prog 161 Tryz.f161 Mu:=ak Tryz.func161 rfl rfl
theorem yF:aO Tryz.prog 162 Tryz.f162 Mt:=ak Tryz.func162 rfl rfl
theorem Q8:aO Tryz.prog 163 Tryz.f163 Ms:=ak Tryz.func163 rfl rfl
theorem DE:wk Tryz.prog fns:=K2 (.no (.no (.no (.yes fk7 (.no (.yes Yk (.yes XU (.yes RL (.nil _ _) (.nil _ _)) (.nil _ _)) (.yes Xn (.yes Ra (.nil _ _) (.nil _ _)) (.nil _ _))) (.yes X9 (.yes XE (.yes Rt (.nil _ _) (.nil _ _)) (.nil _ _)) (.yes Sa (.nil _ _) (.nil _ _)))) (.yes Ys (.no (.yes XM (.yes RB (.nil _ _) (.nil _ _)) (.nil _ _)) (.yes Sk (.nil _ _) (.nil _ _))) (.yes X1 (.yes Xw (.yes Rj (.nil _ _) (.nil _ _)) (.nil _ _)) (.yes RT (.nil _ _) (.nil _ _))))) (.yes Yx (.no (.yes GZ (.yes XQ (.yes RG (.nil _ _) (.nil _ _)) (.nil _ _)) (.yes Xj (.yes Q8 (.nil _ _) (.nil _ _)) (.nil _ _))) (.yes X5 (.yes XA (.yes Ro (.nil _ _) (.nil _ _)) (.nil _ _)) (.yes RX (.nil _ _) (.nil _ _)))) (.yes Yo (.yes Yc (.yes XI (.yes Rx (.nil _ _) (.nil _ _)) (.nil _ _)) (.yes Se (.nil _ _) (.nil _ _))) (.yes XX (.yes Xr (.yes Re (.nil _ _) (.nil _ _)) (.nil _ _)) (.yes RP (.nil _ _) (.nil _ _)))))) (.no (.yes fk9 (.no (.yes Yi (.yes XS (.yes RI (.nil _ _) (.nil _ _)) (.nil _ _)) (.yes Xl (.yes Q9 (.nil _ _) (.nil _ _)) (.nil _ _))) (.yes X7 (.yes XC (.yes Rq (.nil _ _) (.nil _ _)) (.nil _ _)) (.yes RZ (.nil _ _) (.nil _ _)))) (.yes Yq (.yes Ye (.yes XK (.yes Rz (.nil _ _) (.nil _ _)) (.nil _ _)) (.yes Si (.nil _ _) (.nil _ _))) (.yes XZ (.yes Xu (.yes Rh (.nil _ _) (.nil _ _)) (.nil _ _)) (.yes RR (.nil _ _) (.nil _ _))))) (.no (.yes Yu (.no (.yes XO (.yes RE (.nil _ _) (.nil _ _)) (.nil _ _)) (.yes Sm (.nil _ _) (.nil _ _))) (.yes X3 (.yes Xy (.yes Rl (.nil _ _) (.nil _ _)) (.nil _ _)) (.yes RV (.nil _ _) (.nil _ _)))) (.yes Ym (.yes Ya (.yes XG (.yes Rv (.nil _ _) (.nil _ _)) (.nil _ _)) (.yes Sc (.nil _ _) (.nil _ _))) (.yes XV (.yes Xp (.yes Rc (.nil _ _) (.nil _ _)) (.nil _ _)) (.yes RN (.nil _ _) (.nil _ _))))))) (.no (.yes fk4 (.yes fk8 (.no (.yes Yj (.yes XT (.yes RJ (.nil _ _) (.nil _ _)) (.nil _ _)) (.yes Xm (.yes Q_ (.nil _ _) (.nil _ _)) (.nil _ _))) (.yes X8 (.yes XD (.yes Rs (.nil _ _) (.nil _ _)) (.nil _ _)) (.yes R_ (.nil _ _) (.nil _ _)))) (.yes Yr (.yes Yf (.yes XL (.yes RA (.nil _ _) (.nil _ _)) (.nil _ _)) (.yes Sj (.nil _ _) (.nil _ _))) (.yes X0 (.yes Xv (.yes Ri (.nil _ _) (.nil _ _)) (.nil _ _)) (.yes RS (.nil _ _) (.nil _ _))))) (.yes Yw (.yes Yv (.yes GY (.yes XP (.yes RF (.nil _ _) (.nil _ _)) (.nil _ _)) (.yes Sn (.nil _ _) (.nil _ _))) (.yes X4 (.yes Xz (.yes Rm (.nil _ _) (.nil _ _)) (.nil _ _)) (.yes RW (.nil _ _) (.nil _ _)))) (.yes Yn (.yes Yb (.yes XH (.yes Rw (.nil _ _) (.nil _ _)) (.nil _ _)) (.yes Sd (.nil _ _) (.nil _ _))) (.yes XW (.yes Xq (.yes Rd (.nil _ _) (.nil _ _)) (.nil _ _)) (.yes RO (.nil _ _) (.nil _ _)))))) (.no (.yes Yy (.no (.yes Yh (.yes XR (.yes RH (.nil _ _) (.nil _ _)) (.nil _ _)) (.yes Xk (.yes yF (.nil _ _) (.nil _ _)) (.nil _ _))) (.yes X6 (.yes XB (.yes Rp (.nil _ _) (.nil _ _)) (.nil _ _)) (.yes RY (.nil _ _) (.nil _ _)))) (.yes Yp (.yes Yd (.yes XJ (.yes Ry (.nil _ _) (.nil _ _)) (.nil _ _)) (.yes Sh (.nil _ _) (.nil _ _))) (.yes XY (.yes Xs (.yes Rf (.nil _ _) (.nil _ _)) (.nil _ _)) (.yes RQ (.nil _ _) (.nil _ _))))) (.no (.yes Yt (.yes Yg (.yes XN (.yes RD (.nil _ _) (.nil _ _)) (.nil _ _)) (.yes Sl (.nil _ _) (.nil _ _))) (.yes X2 (.yes Xx (.yes Rk (.nil _ _) (.nil _ _)) (.nil _ _)) (.yes RU (.nil _ _) (.nil _ _)))) (.yes Yl (.yes X_ (.yes XF (.yes Ru (.nil _ _) (.nil _ _)) (.nil _ _)) (.yes Sb (.nil _ _) (.nil _ _))) (.no (.yes Xo (.yes Rb (.nil _ _) (.nil _ _)) (.nil _ _)) (.yes RM (.nil _ _) (.nil _ _))))))))
end Go.Proofs.YtfffmmahegdfiaaGreat
namespace Go.Proofs
open Go.Shelf
def Tryz.lD:Go.Shelf.Ren:=⟨fun | 4=>162 | n=>n,fun | 22=>43 | 25=>3 | 3=>3 | 4=>4 | 9=>9 | 20=>20 | 0=>0 | n=>n,fun | n=>n⟩
theorem Tryz.vF:Go.Proofs.Lays8.n4 Tryz.prog Tryz.lD where
 mixed:=by kernel_rfl
 f4:=⟨Tryz.f162.name,by kernel_rfl,Tryz.func162.trans (congrArg some (by kernel_rfl))⟩
 t0:=Tryz.underlying0
 a0:=Tryz.isAgg0
 z0:=Tryz.sizeOf0
 v0:=Tryz.zeroValue0
 t3:=Tryz.underlying3
 a3:=Tryz.isAgg3
 z3:=Tryz.sizeOf3
 v3:=Tryz.zeroValue3
 t4:=Tryz.underlying4
 a4:=Tryz.isAgg4
 z4:=Tryz.sizeOf4
 v4:=Tryz.zeroValue4
 t9:=Tryz.underlying9
 a9:=Tryz.isAgg9
 z9:=Tryz.sizeOf9
 v9:=Tryz.zeroValue9
 t20:=Tryz.underlying20
 a20:=Tryz.isAgg20
 z20:=Tryz.sizeOf20
 v20:=Tryz.zeroValue20
 t22:=Tryz.underlying43
 a22:=Tryz.isAgg43
 z22:=Tryz.sizeOf43
 v22:=Tryz.zeroValue43
end Go.Proofs
namespace Go.Proofs.YtfffmmahegdfiaaGreat
open Go.Bm Go.Shelf
abbrev A9:Ty:=(.pair (.int .i64) (.pair (.pair (.int .u8) (.pair (.int .u8) (.pair (.int .u8) (.pair (.int .u8) (.pair (.int .i64) (.pair (.int .i64) (.int .i64))))))) (.pair (.int .i64) (.pair (.int .i64) (.pair (.int .i64) (.pair (.int .i64) (.pair (.int .i64) (.aK (.int .i64)))))))))
theorem Dx:∃i,Tryz.prog.info? (Tryz.lD.t 25)=some i∧i.zero=some (.int .i64 0)∧i.size=1∧i.bytes=8:=by
 obtain ⟨i,t1,t2,t3,t4,t5,t6⟩:=Vw.ti
 exact ⟨i,t1,t2,t3,t4⟩
theorem AE:uv Tryz.prog 162 (.int .i64):=⟨⟨_,yF.bq,yF.name,by rw [yF.body];rfl⟩,fun n w hn=>by
 obtain ⟨i,h1,h2,h3,h4⟩:=Dx
 rcases Nat.eq_zero_or_pos n with rfl | h0
 ·exact (Any8.slices_Grow_room Tryz.vF none 0 0 0 w (by omega) (by omega) (by omega) (by omega)).mono fun e w' h=>⟨_,h.1,.inl ⟨rfl,h.2⟩⟩
 ·refine (Any8.slices_Grow_grow Tryz.vF i _ h1 h2 (by omega) none 0 0 n [] w (by omega) (by omega) (by rw [h4];omega) (by omega) (by simp) (fun _=>rfl) (fun a h=>by cases h)).mono fun e w' h=>⟨_,h.1,.inr ⟨_,_,_,rfl,h.2,?_,?_⟩⟩
  ·have:=grownCap_ge w (0+n) 0 (Tryz.lD.t 25)
   show _*1≤_
   simp only [Array.size_append,size_zeroCells,Value.cells]
   simp
   omega
  ·exact grownCap_le_maxLen w _ _ _ (by unfold maxLen;omega)⟩
section
set_option maxHeartbeats 1000000
open Go.RowKit Go.Lib
theorem Ext.Ja {S:Hp} {g:G} {w:World} (ob:Obj):Ext S g w S g (w.alloc ob):=⟨.refl g,rfl,rfl,rfl,by rw [show (w.alloc ob).heap.size=w.heap.size+1 from Array.size_push _];omega,fun k hk _=>Below.heap_alloc w _ k hk,fun _ h=>.inl h,fun _ _ h=>.inl h,fun _ h=>h,fun _ _ _ h=>.inl h,fun _ _ h=>.inl h⟩
theorem qg {P:Program} {ops:Array Oper} {o:Oper} {rest:List Oper} {a:Act} {w w':World} {v:Value} {Q:Exit→Act→World→Prop} (hg:o.guard=none) (h:(execOp a.eval o).run P w = .ok (.value v) w') (k:wpList P ops Q rest (a.put o.dst v) w'):wpList P ops Q (o::rest) a w:=by
 refine wpList_plain hg fun K hK=>?_
 unfold Oper.wp
 rw [h]
 exact hK _ _ k
theorem Lz (n c:Nat) (w:World):Calls Tryz.prog 36 #[.slice none n c] w fun e w'=>e = .returned (.slice none 0 0)∧w'=w:=by
 have VO:∀(w:World) (a:Option Addr) (n c n' c':Nat),(binOp .eql 43 (.slice a n c) (.slice none n' c')).run Tryz.prog w = .ok (.bool a.isNone) w:=fun w a n c n' c'=>Lib.run_eql_slice_nil w _ _ a n c n' c' Ff.u
 go_enter Tryz.func36,Tryz.ntmps36
 go_wp2
 go_ret
 exact ⟨rfl,rfl⟩
theorem Hf (g:G) (S:Hp) (q:Nat) (hf:S.fr q) (l:List Int) (hl:l.length≤16777216) (w:World) (hI:Inv g S w) (a:Addr) (n c:Nat) (hv:∀w2,Inv g S w2→Given g w2 (.slice (some a) n c) 1 l.length (l.flatMap (aA (.int .i64)))):Calls Tryz.prog 36 #[.slice (some a) n c] w fun e w'=>∃v g',e = .returned v∧V g' (.tw (.loc q) 1) v∧Inv g' (S.new q (.cells (l.flatMap (aA (.int .i64))))) w'∧Ext S g w (S.new q (.cells (l.flatMap (aA (.int .i64))))) g' w':=by
 have VO:∀(w:World) (a:Option Addr) (n c n' c':Nat),(binOp .eql 43 (.slice a n c) (.slice none n' c')).run Tryz.prog w = .ok (.bool a.isNone) w:=fun w a n c n' c'=>Lib.run_eql_slice_nil w _ _ a n c n' c' Ff.u
 have hw:Inv g S (w.alloc (.cells #[] 3)):=hI.world (by rw [show (w.alloc (.cells #[] 3)).heap.size=w.heap.size+1 from Array.size_push _];omega) (fun k hk=>Below.heap_alloc w _ k hk)
 have tS:Given g (w.alloc (.cells #[] 3)) (.slice (some a) n c) 1 l.length (l.flatMap (aA (.int .i64))):=hv _ hw
 obtain ⟨v,g',w',eQ,k1,k2,k3⟩:=g9 (P:=Tryz.prog) (ty:=43) (some ⟨w.heap.size,0,none⟩) Ff.u Vw.ti hw tS hf (by show _*8≤_;omega) (by unfold maxLen;omega)
 have k3:=(Ext.Ja (S:=S) (g:=g) (w:=w) (.cells #[] 3)).trans k3
 clear tS hw
 go_enter Tryz.func36,Tryz.ntmps36
 go_wp2_with (at_builtin;refine qg (v:=v) (w':=w') rfl (by simp [execOp,resolve,invoke,Act.eval,builtin,eQ]) ?_)
 go_ret
 exact ⟨v,g',rfl,k1,k2,k3⟩
theorem AT:oL Tryz.prog 36 (.int .i64):=⟨⟨_,GY.bq,GY.name,by rw [GY.body];rfl⟩,Lz,fun g S q hf l hl w hI a n c hv=>Hf g S q hf l hl w hI a n c hv⟩
theorem D6 (n c:Nat) (w:World):Calls Tryz.prog 35 #[.slice none n c] w fun e w'=>e = .returned (.slice none 0 0)∧w'=w:=by
 have VO:∀(w:World) (a:Option Addr) (n c n' c':Nat),(binOp .eql 39 (.slice a n c) (.slice none n' c')).run Tryz.prog w = .ok (.bool a.isNone) w:=fun w a n c n' c'=>Lib.run_eql_slice_nil w _ _ a n c n' c' Fg.u
 go_enter Tryz.func35,Tryz.ntmps35
 go_wp2
 go_ret
 exact ⟨rfl,rfl⟩
theorem AW (g:G) (S:Hp) (q:Nat) (hf:S.fr q) (l:List A9.T) (hl:l.length≤16777216) (w:World) (hI:Inv g S w) (a:Addr) (n c:Nat) (hv:∀w2,Inv g S w2→Given g w2 (.slice (some a) n c) 14 l.length (l.flatMap (aA A9))):Calls Tryz.prog 35 #[.slice (some a) n c] w fun e w'=>∃v g',e = .returned v∧V g' (.tw (.loc q) 14) v∧Inv g' (S.new q (.cells (l.flatMap (aA A9)))) w'∧Ext S g w (S.new q (.cells (l.flatMap (aA A9)))) g' w':=by
 have VO:∀(w:World) (a:Option Addr) (n c n' c':Nat),(binOp .eql 39 (.slice a n c) (.slice none n' c')).run Tryz.prog w = .ok (.bool a.isNone) w:=fun w a n c n' c'=>Lib.run_eql_slice_nil w _ _ a n c n' c' Fg.u
 have hw:Inv g S (w.alloc (.cells #[] 47)):=hI.world (by rw [show (w.alloc (.cells #[] 47)).heap.size=w.heap.size+1 from Array.size_push _];omega) (fun k hk=>Below.heap_alloc w _ k hk)
 have tS:Given g (w.alloc (.cells #[] 47)) (.slice (some a) n c) 14 l.length (l.flatMap (aA A9)):=hv _ hw
 obtain ⟨v,g',w',eQ,k1,k2,k3⟩:=g9 (P:=Tryz.prog) (ty:=39) (some ⟨w.heap.size,0,none⟩) Fg.u Oo.ti hw tS hf (by show _*104≤_;omega) (by unfold maxLen;omega)
 have k3:=(Ext.Ja (S:=S) (g:=g) (w:=w) (.cells #[] 47)).trans k3
 clear tS hw
 go_enter Tryz.func35,Tryz.ntmps35
 go_wp2_with (at_builtin;refine qg (v:=v) (w':=w') rfl (by simp [execOp,resolve,invoke,Act.eval,builtin,eQ]) ?_)
 go_ret
 exact ⟨v,g',rfl,k1,k2,k3⟩
theorem AU:oL Tryz.prog 35 A9:=⟨⟨_,GZ.bq,GZ.name,by rw [GZ.body];rfl⟩,D6,fun g S q hf l hl w hI a n c hv=>AW g S q hf l hl w hI a n c hv⟩
end
end Go.Proofs.YtfffmmahegdfiaaGreat