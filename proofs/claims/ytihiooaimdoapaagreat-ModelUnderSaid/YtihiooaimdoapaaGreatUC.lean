/- Texts of one proof, put together: see each part. -/
import Derived.LoopNIn
import Derived.Test.YtihiooaimdoapaaGreatRows
import Derived.Test.YtihiooaimdoapaaGreatUB
noncomputable section
set_option linter.unusedVariables false
set_option linter.unusedSimpArgs false
namespace Go.Bm
section
open Go.RowKit
def vO {α:Type} (p:α→Bool):Option α→Bool
 | some x=>p x
 | none=>true
def xK {α:Type} (p:α→Bool) (t:Tr α):Bool:=
 Tr.rec (motive:=fun _=>Bool) true (fun _ v _ a b=>vO p v && a && b) t
theorem qa {α:Type} {p:α→Bool}:∀{t:Tr α} (_:xK p t=true) (i:Nat) (x:α),t.get i=some x→p x=true
 | .nil,_,i,x,e=>by rw [Tr.get_nil] at e;cases e
 | .node l v r,h,i,x,e=>by
  have h:(vO p v && xK p l && xK p r)=true:=h
  simp only [zC] at h
  cases i with
  | zero=>rw [Tr.mA] at e;subst e;exact h.1.1
  | succ i=>
   rw [Tr.kc] at e
   cases hb:Nat.beq (i%2) 0 with
   | true=>rw [hb] at e;exact qa h.1.2 _ x e
   | false=>rw [hb] at e;exact qa h.2 _ x e
def Qr (N:Nat):jM→Bool
 | .cells cs=>cs.all (y_ N 6)
 | .one _ _=>true
 | .row _ _=>true
 | .eL (.map es)=>es.all fun e=>y_ N 6 e.1 && y_ N 6 e.2
 | .eL .FU=>true
 | .eL (.loop _ _)=>true
theorem Is {N:Nat} {F:Tr A} (h:xK (y_ N 6) F=true) (i:Nat):VP N (ch F.get i):=by
 unfold ch
 split
 ·rename_i p hp;exact jg 6 p (qa h i p hp)
 ·exact jg 1 _ rfl
theorem MV {N:Nat} {x:jM} (h:Qr N x=true):LK N x.low:=by
 cases x with
 | cells cs=>
  have h:cs.all (y_ N 6)=true:=h
  rw [List.all_eq_true] at h
  exact fun c hc=>jg 6 c (h c hc)
 | one t x=>exact lD t x
 | row t l=>exact fun c hc=>by obtain ⟨y,_,hy⟩:=List.mem_flatMap.1 hc;exact lD t y c hy
 | eL x=>
  cases x with
  | map es=>
   have h:(es.all fun e=>y_ N 6 e.1 && y_ N 6 e.2)=true:=h
   rw [List.all_eq_true] at h
   exact fun e he=>by have:=h e he;rw [zC] at this;exact ⟨jg 6 _ this.1,jg 6 _ this.2⟩
  | FU=>trivial
  | loop=>trivial
def ckT (k:Bool×Ty):Bool×Ty:=(false,match k.1 with | true=>.cN k.2 | false=>k.2)
def Q3 (l:List (Bool×Ty)):List (Bool×Ty):=l.map ckT
def CB:List ((Nat×Option Nat)×List (Bool×Ty))→Type
 | []=>Unit
 | p::l=>mE (Q3 p.2)×CB l
def q_:List (Bool×Ty)→Nat
 | []=>0
 | (true,_)::l=>q_ l+1
 | (false,_)::l=>q_ l
def um:List ((Nat×Option Nat)×List (Bool×Ty))→Nat
 | []=>0
 | p::l=>q_ p.2+um l
def LH.S (H:LH):Type:=mE (H.qT.map (·.2))×mE (H.grow.map fun p=>(false,Ty.cN p.2))×mE (H.boxes.map fun p=>(false,p.2))×CB H.CC×xa H.dc
def LH.m (H:LH):Nat:=H.grow.length+um H.CC
section
variable {β:Type}
def JR:List Nat→Tr A→(Tr A→Option β)→Option β
 | [],F,k=>k F
 | i::l,F,k=>ir F i (some .dN) (fun F=>JR l F k)
def ijV:(l:List (Nat×Bool×Ty))→mE (l.map (·.2))→Tr A→(Tr A→Option β)→Option β
 | [],_,F,k=>k F
 | p::l,x,F,k=>Uy (df p.2.1 p.2.2 x.1) (fun c=>ir F p.1 (some c) (fun F=>ijV l x.2 F k))
def ijW:List (Nat×Ty)→Nat→Tr A→(Tr A→Option β)→Option β
 | [],_,F,k=>k F
 | p::l,i,F,k=>ir F p.1 (some (.tw (.loc i) p.2.size)) (fun F=>ijW l (i+1) F k)
def KY:List Nat→Tr jM→(Tr jM→Option β)→Option β
 | [],t,k=>k t
 | i::l,t,k=>ir t i none (fun t=>KY l t k)
def ijB:(l:List ((Nat×Option Nat)×Ty))→List Nat→mE (l.map fun p=>(false,p.2))→Tr jM→(Tr jM→Option β)→Option β
 | [],_,_,t,k=>k t
 | p::l,b::bs,x,t,k=>ir t b (some (.one p.2 x.1)) (fun t=>ijB l bs x.2 t k)
 | _::_,[],_,_,_=>none
def ijG:(l:List (Nat×Ty))→Nat→mE (l.map fun p=>(false,Ty.cN p.2))→Tr jM→(Tr jM→Option β)→Option β
 | [],_,_,t,k=>k t
 | p::l,i,x,t,k=>ir t i (some (.row p.2 x.1)) (fun t=>ijG l (i+1) x.2 t k)
def Th:(ks:List (Bool×Ty))→mE (Q3 ks)→Nat→List A
 | [],_,_=>[]
 | (true,t)::l,x,i=>.tw (.loc i) t.size::Th l x.2 (i+1)
 | (false,t)::l,x,i=>df false t x.1::Th l x.2 i
def ijR:(ks:List (Bool×Ty))→mE (Q3 ks)→Nat→Tr jM→(Tr jM→Option β)→Option β
 | [],_,_,t,k=>k t
 | (true,u)::l,x,i,t,k=>ir t i (some (.row u x.1)) (fun t=>ijR l x.2 (i+1) t k)
 | (false,_)::l,x,i,t,k=>ijR l x.2 i t k
def ijC:(l:List ((Nat×Option Nat)×List (Bool×Ty)))→List Nat→Nat→CB l→Tr jM→(Tr jM→Option β)→Option β
 | [],_,_,_,t,k=>k t
 | p::l,b::bs,i,x,t,k=>ir t b (some (.cells (Th p.2 x.1 i))) (fun t=>ijR p.2 x.1 i t (fun t=>ijC l bs (i+q_ p.2) x.2 t k))
 | _::_,[],_,_,_,_=>none
def Hd (H:LH) (nS bs cs fh:List Nat) (Fe:Tr A) (he:Go.Bm.H) (s:H.S) (k:Tr A→Go.Bm.H→Option β):Option β:=
 JR nS Fe (fun F=>ijV H.qT s.1 F (fun F=>ijW H.grow he.bI F (fun F=>KY (fh++(bs++cs)) he.t (fun t=>ijB H.boxes bs s.2.2.1 t (fun t=>ijC H.CC cs (he.bI+H.grow.length) s.2.2.2.1 t (fun t=>ijG H.grow he.bI s.2.1 t (fun t=>k F ⟨t,he.bI+H.m,mP H.dc s.2.2.2.2 he.rg,he.lk⟩)))))))
def pjV (n:Nat):(l:List (Nat×Bool×Ty))→Tr A→Option (mE (l.map (·.2)))
 | [],_=>some ()
 | p::l,F=>bif Nat.blt p.1 n then (match nv p.2.1 p.2.2 (ch F.get p.1),pjV n l F with
  | some x,some y=>some (x,y)
  | _,_=>none) else none
def Mn (t:Ty) (h:Tr jM):A→Option (List t.T×Option Nat)
 | .tw (.loc o) z=>match h.get o with
  | some (.row t' l)=>bif Nat.beq z t.size && Nat.blt o 16777216 then (match iJ (.cN t') (.cN t) l with
   | some l=>some (l,some o)
   | none=>none) else none
  | _=>none
 | .e0=>some ([],none)
 | .v (.slice none 0 0)=>some ([],none)
 | _=>none
def Qn (n:Nat):(l:List (Nat×Ty))→Tr A→Tr jM→Option (mE (l.map fun p=>(false,Ty.cN p.2))×List (Option Nat))
 | [],_,_=>some ((),[])
 | p::l,F,t=>bif Nat.blt p.1 n then (match Mn p.2 t (ch F.get p.1),Qn n l F t with
  | some x,some y=>some ((x.1,y.1),x.2::y.2)
  | _,_=>none) else none
def pjB:(l:List ((Nat×Option Nat)×Ty))→List Nat→Tr jM→Option (mE (l.map fun p=>(false,p.2)))
 | [],_,_=>some ()
 | p::l,b::bs,t=>match t.get b with
  | some (.one t' x)=>match iJ t' p.2 x,pjB l bs t with
   | some x,some y=>some (x,y)
   | _,_=>none
  | _=>none
 | _::_,[],_=>none
def RA:(ks:List (Bool×Ty))→List A→Tr jM→Option (mE (Q3 ks)×List (Option Nat))
 | [],[],_=>some ((),[])
 | (true,u)::l,c::cs,t=>match Mn u t c,RA l cs t with
  | some x,some y=>some ((x.1,y.1),x.2::y.2)
  | _,_=>none
 | (false,u)::l,c::cs,t=>match nv false u c,RA l cs t with
  | some x,some y=>some ((x,y.1),y.2)
  | _,_=>none
 | _,_,_=>none
def I8:(l:List ((Nat×Option Nat)×List (Bool×Ty)))→List Nat→Tr jM→Option (CB l×List (Option Nat))
 | [],_,_=>some ((),[])
 | p::l,b::bs,t=>match t.get b with
  | some (.cells cs)=>match RA p.2 cs t,I8 l bs t with
   | some x,some y=>some ((x.1,y.1),x.2++y.2)
   | _,_=>none
  | _=>none
 | _::_,[],_=>none
def IS (t:Tr jM) (q:Nat):Bool:=match t.get q with
 | some (.eL (.loop .ready none))=>true
 | _=>false
def Tg (N:Nat) (bs fh:List Nat) (dc:List (Nat×RK)) (ws:List Nat):Bool:=
 ws.all fun q=>bif Nat.beq (q%2) 0 then Nat.ble N (q / 2) || bs.any (Nat.beq (q / 2)) || fh.any (Nat.beq (q / 2)) else dc.any fun p=>Nat.beq q (kB p.1)
def eqL:List Nat→List Nat→Bool
 | [],[]=>true
 | a::l,b::k=>Nat.beq a b && eqL l k
 | _,_=>false
theorem KQ:∀{l k:List Nat},eqL l k=true→l=k
 | [],[],_=>rfl
 | a::l,b::k,h=>by
  have h:(Nat.beq a b && eqL l k)=true:=h
  rw [zC] at h
  rw [beq_eq h.1,KQ h.2]
def Js (q:Nat):Option Nat→Bool
 | some o=>Nat.beq q o
 | none=>false
def GY (N:Nat) (fh:List Nat):List (Option Nat)→Bool
 | []=>true
 | none::l=>GY N fh l
 | some o::l=>(Nat.ble N o || fh.any (Nat.beq o)) && !(l.any (Js o)) && GY N fh l
def HR (H:LH) (n N:Nat) (bs cs qs fh Uz:List Nat) (F:Tr A) (h:Go.Bm.H) (ds:List Nat) (T:Fp):Option H.S:=
 bif Tg N (bs++cs++qs) fh H.dc T.ws && eqL ds Uz && qs.all (IS h.t) then (match pjV n H.qT F,Qn n H.grow F h.t,pjB H.boxes bs h.t,I8 H.CC cs h.t,D_ H.dc h.rg with
 | some v,some g,some b,some e,some c=>bif GY N fh (g.2++e.2) then some (v,g.1,b,e.1,c) else none
 | _,_,_,_,_=>none) else none
def Q5:A→Option Nat
 | .tp (.loc b) []=>some b
 | .ptr b 0=>some b
 | _=>none
def acJ (F:Tr A) (p:Nat×Option Nat):Option Nat:=match p.2 with
 | none=>Q5 (ch F.get p.1)
 | some j=>match ch F.get p.1 with
  | .wY _ _ F' _ _ _ _=>Q5 (ch F'.get j)
  | _=>none
def SW:List (Nat×Option Nat)→Tr A→Option (List Nat)
 | [],_=>some []
 | p::l,F=>match acJ F p,SW l F with
  | some b,some bs=>some (b::bs)
  | _,_=>none
def aaW:List Nat→Tr A→Option (List Nat)
 | [],_=>some []
 | p::l,F=>match ch F.get p,aaW l F with
  | .wY q _ _ _ _ _ _,some bs=>some (q::bs)
  | _,_=>none
def SU:List (Nat×Ty)→Tr A→List Nat
 | [],_=>[]
 | p::l,F=>match ch F.get p.1 with
  | .tw (.loc o) _=>o::SU l F
  | _=>SU l F
def SS:List A→List Nat
 | []=>[]
 | .tw (.loc o) _::l=>o::SS l
 | _::l=>SS l
def SV (t:Tr jM):List Nat→List Nat
 | []=>[]
 | b::l=>match t.get b with
  | some (.cells cs)=>SS cs++SV t l
  | _=>SV t l
structure L8 where
 bs:List Nat
 cs:List Nat
 qs:List Nat
 fh:List Nat
def N2 (H:LH) (F:Tr A) (h:Go.Bm.H):Option L8:=match SW (H.boxes.map (·.1)) F,SW (H.CC.map (·.1)) F,aaW H.loops F with
 | some bs,some cs,some qs=>some ⟨bs,cs,qs,SU H.grow F++SV h.t cs⟩
 | _,_,_=>none
def FQ (H:LH) (E:L8) (ds:List Nat) (F:Tr A) (h:Go.Bm.H):Bool:=
 xK (y_ h.bI 6) F && xK (Qr h.bI) h.t && Nat.ble (h.bI+H.m) 16777216 && (E.bs++E.cs).all (fun b=>Nat.blt b h.bI) && E.fh.all (fun b=>Nat.blt b h.bI) && ds.all (fun b=>Nat.blt b h.bI) && (E.bs++E.cs).all (fun b=>!(E.fh.any (Nat.beq b))) && E.qs.all (fun q=>IS h.t q && !((E.fh++(E.bs++E.cs)).any (Nat.beq q))) && H.dc.all fun p=>Option.isSome (cl h.rg p.1)
def jT (H:LH) (N:Nat) (E:L8):Fp:=⟨true,[],true,((E.bs++E.cs).map gq++E.fh.map gq)++((List.range H.m).map (fun k=>gq (N+k))++H.dc.map fun p=>kB p.1)⟩
variable {r:β}
theorem rS {F F':Tr A} {d:Nat} {p:A} (e:F'.get=fun m=>if m=d then some p else F.get m) (i:Nat):ch F'.get i=if i=d then p else ch F.get i:=by
 unfold ch
 rw [e]
 by_cases h:i=d
 ·simp [h]
 ·simp [h]
theorem yb:∀(l:List Nat) (F:Tr A) (k:Tr A→Option β),JR l F k=some r→∃F',k F'=some r∧∀bK:Nat→A→Prop,(∀i∈l,bK i .dN)→(∀i,i∉l→bK i (ch F.get i))→∀i,bK i (ch F'.get i)
 | [],F,k,h=>⟨F,h,fun bK _ h2 i=>h2 i (by simp)⟩
 | d::l,F,k,h=>by
  obtain ⟨_,F1,k1,k2⟩:=cz h
  obtain ⟨F',q1,q2⟩:=yb l F1 k k1
  refine ⟨F',q1,fun bK h1 h2=>q2 bK (fun i hi=>h1 i (.tail _ hi)) (fun i hi=>?_)⟩
  rw [rS k2]
  by_cases hd:i=d
  ·rw [if_pos hd];exact h1 i (by rw [hd];exact .head _)
  ·rw [if_neg hd];exact h2 i (by simp [hd,hi])
def Ll (bK:Nat→A→Prop):(l:List (Nat×Bool×Ty))→mE (l.map (·.2))→Prop
 | [],_=>True
 | p::l,x=>bK p.1 (df p.2.1 p.2.2 x.1)∧Ll bK l x.2
def Lk (bK:Nat→A→Prop):List (Nat×Ty)→Nat→Prop
 | [],_=>True
 | p::l,i=>bK p.1 (.tw (.loc i) p.2.size)∧Lk bK l (i+1)
def Lo (bK:Nat→Option Ob→Prop):(l:List ((Nat×Option Nat)×Ty))→List Nat→mE (l.map fun p=>(false,p.2))→Prop
 | [],_,_=>True
 | p::l,b::bs,x=>bK b (some (.cells (aJ p.2 x.1)))∧Lo bK l bs x.2
 | _::_,[],_=>True
def Lm (bK:Nat→Option Ob→Prop):(l:List (Nat×Ty))→Nat→mE (l.map fun p=>(false,Ty.cN p.2))→Prop
 | [],_,_=>True
 | p::l,i,x=>bK i (some (.cells (List.flatMap (α:=p.2.T) (aJ p.2) x.1)))∧Lm bK l (i+1) x.2
def HL (bK:Nat→Option Ob→Prop):(ks:List (Bool×Ty))→mE (Q3 ks)→Nat→Prop
 | [],_,_=>True
 | (true,u)::l,x,i=>bK i (some (.cells (List.flatMap (α:=u.T) (aJ u) x.1)))∧HL bK l x.2 (i+1)
 | (false,_)::l,x,i=>HL bK l x.2 i
def Ln (bK:Nat→Option Ob→Prop):(l:List ((Nat×Option Nat)×List (Bool×Ty)))→List Nat→Nat→CB l→Prop
 | [],_,_,_=>True
 | p::l,b::bs,i,x=>bK b (some (.cells (Th p.2 x.1 i)))∧HL bK p.2 x.1 i∧Ln bK l bs (i+q_ p.2) x.2
 | _::_,[],_,_=>True
theorem Fu:∀(l:List (Nat×Bool×Ty)) (x:mE (l.map (·.2))) (F:Tr A) (k:Tr A→Option β),ijV l x F k=some r→∃F',k F'=some r∧∀bK:Nat→A→Prop,Ll bK l x→(∀i,bK i (ch F.get i))→∀i,bK i (ch F'.get i)
 | [],_,F,k,h=>⟨F,h,fun bK _ h2=>h2⟩
 | p::l,x,F,k,h=>by
  unfold ijV at h
  rw [Ep] at h
  obtain ⟨_,F1,k1,k2⟩:=cz h
  obtain ⟨F',q1,q2⟩:=Fu l x.2 F1 k k1
  refine ⟨F',q1,fun bK h1 h2=>q2 bK h1.2 (fun i=>?_)⟩
  rw [rS k2]
  by_cases hd:i=p.1
  ·rw [if_pos hd,hd];exact h1.1
  ·rw [if_neg hd];exact h2 i
theorem Ft:∀(l:List (Nat×Ty)) (j:Nat) (F:Tr A) (k:Tr A→Option β),ijW l j F k=some r→∃F',k F'=some r∧∀bK:Nat→A→Prop,Lk bK l j→(∀i,bK i (ch F.get i))→∀i,bK i (ch F'.get i)
 | [],_,F,k,h=>⟨F,h,fun bK _ h2=>h2⟩
 | p::l,j,F,k,h=>by
  obtain ⟨_,F1,k1,k2⟩:=cz h
  obtain ⟨F',q1,q2⟩:=Ft l (j+1) F1 k k1
  refine ⟨F',q1,fun bK h1 h2=>q2 bK h1.2 (fun i=>?_)⟩
  rw [rS k2]
  by_cases hd:i=p.1
  ·rw [if_pos hd,hd];exact h1.1
  ·rw [if_neg hd];exact h2 i
theorem EH {t t':Tr jM} {d:Nat} {x:Option jM} (e:t'.get=fun m=>if m=d then x else t.get m) (i:Nat):iG t' i=if i=d then x.map jM.low else iG t i:=by
 unfold iG
 rw [e]
 by_cases h:i=d
 ·simp only [if_pos h];cases x<;>rfl
 ·simp only [if_neg h]
theorem yx:∀(l:List Nat) (t:Tr jM) (k:Tr jM→Option β),KY l t k=some r→∃t',k t'=some r∧∀bK:Nat→Option Ob→Prop,(∀i∈l,bK i none)→(∀i,i∉l→bK i (iG t i))→∀i,bK i (iG t' i)
 | [],t,k,h=>⟨t,h,fun bK _ h2 i=>h2 i (by simp)⟩
 | d::l,t,k,h=>by
  obtain ⟨_,t1,k1,k2⟩:=cz h
  obtain ⟨t',q1,q2⟩:=yx l t1 k k1
  refine ⟨t',q1,fun bK h1 h2=>q2 bK (fun i hi=>h1 i (.tail _ hi)) (fun i hi=>?_)⟩
  rw [EH k2]
  by_cases hd:i=d
  ·rw [if_pos hd];exact h1 i (by rw [hd];exact .head _)
  ·rw [if_neg hd];exact h2 i (by simp [hd,hi])
theorem MD {t t1:Tr jM} {d:Nat} {x:jM} {bK:Nat→Option Ob→Prop} (e:t1.get=fun m=>if m=d then some x else t.get m) (h1:bK d (some x.low)) (h2:∀i,bK i (iG t i)) (i:Nat):bK i (iG t1 i):=by
 rw [EH e]
 by_cases hd:i=d
 ·rw [if_pos hd,hd];exact h1
 ·rw [if_neg hd];exact h2 i
theorem Fx:∀(l:List ((Nat×Option Nat)×Ty)) (bs:List Nat) (x:mE (l.map fun p=>(false,p.2))) (t:Tr jM) (k:Tr jM→Option β),ijB l bs x t k=some r→∃t',k t'=some r∧∀bK:Nat→Option Ob→Prop,Lo bK l bs x→(∀i,bK i (iG t i))→∀i,bK i (iG t' i)
 | [],_,_,t,k,h=>⟨t,h,fun bK _ h2=>h2⟩
 | p::l,b::bs,x,t,k,h=>by
  obtain ⟨_,t1,k1,k2⟩:=cz h
  obtain ⟨t',q1,q2⟩:=Fx l bs x.2 t1 k k1
  exact ⟨t',q1,fun bK h1 h2=>q2 bK h1.2 (MD k2 h1.1 h2)⟩
 | _::_,[],_,_,_,h=>by cases h
theorem Fv:∀(l:List (Nat×Ty)) (j:Nat) (x:mE (l.map fun p=>(false,Ty.cN p.2))) (t:Tr jM) (k:Tr jM→Option β),ijG l j x t k=some r→∃t',k t'=some r∧∀bK:Nat→Option Ob→Prop,Lm bK l j x→(∀i,bK i (iG t i))→∀i,bK i (iG t' i)
 | [],_,_,t,k,h=>⟨t,h,fun bK _ h2=>h2⟩
 | p::l,j,x,t,k,h=>by
  obtain ⟨_,t1,k1,k2⟩:=cz h
  obtain ⟨t',q1,q2⟩:=Fv l (j+1) x.2 t1 k k1
  exact ⟨t',q1,fun bK h1 h2=>q2 bK h1.2 (MD k2 h1.1 h2)⟩
theorem zq:∀(ks:List (Bool×Ty)) (x:mE (Q3 ks)) (j:Nat) (t:Tr jM) (k:Tr jM→Option β),ijR ks x j t k=some r→∃t',k t'=some r∧∀bK:Nat→Option Ob→Prop,HL bK ks x j→(∀i,bK i (iG t i))→∀i,bK i (iG t' i)
 | [],_,_,t,k,h=>⟨t,h,fun bK _ h2=>h2⟩
 | (true,u)::l,x,j,t,k,h=>by
  obtain ⟨_,t1,k1,k2⟩:=cz h
  obtain ⟨t',q1,q2⟩:=zq l x.2 (j+1) t1 k k1
  exact ⟨t',q1,fun bK h1 h2=>q2 bK h1.2 (MD k2 h1.1 h2)⟩
 | (false,_)::l,x,j,t,k,h=>zq l x.2 j t k h
theorem Fw:∀(l:List ((Nat×Option Nat)×List (Bool×Ty))) (bs:List Nat) (j:Nat) (x:CB l) (t:Tr jM) (k:Tr jM→Option β),ijC l bs j x t k=some r→∃t',k t'=some r∧∀bK:Nat→Option Ob→Prop,Ln bK l bs j x→(∀i,bK i (iG t i))→∀i,bK i (iG t' i)
 | [],_,_,_,t,k,h=>⟨t,h,fun bK _ h2=>h2⟩
 | p::l,b::bs,j,x,t,k,h=>by
  obtain ⟨_,t1,k1,k2⟩:=cz h
  obtain ⟨t2,k3,k4⟩:=zq p.2 x.1 j t1 _ k1
  obtain ⟨t',q1,q2⟩:=Fw l bs _ x.2 t2 k k3
  exact ⟨t',q1,fun bK h1 h2=>q2 bK h1.2.2 (k4 bK h1.2.1 (MD k2 h1.1 h2))⟩
 | _::_,[],_,_,_,_,h=>by cases h
structure tb (H:LH) (nS:List Nat) (E:L8) (Fe:Tr A) (he:Go.Bm.H) (s:H.S) (Fc:Tr A) (hc:Go.Bm.H):Prop where
 F:∀bK:Nat→A→Prop,(∀i∈nS,bK i .dN)→(∀i,i∉nS→bK i (ch Fe.get i))→Ll bK H.qT s.1→Lk bK H.grow he.bI→∀i,bK i (ch Fc.get i)
 t:∀bK:Nat→Option Ob→Prop,(∀i∈E.fh++(E.bs++E.cs),bK i none)→(∀i,i∉E.fh++(E.bs++E.cs)→bK i (iG he.t i))→Lo bK H.boxes E.bs s.2.2.1→Ln bK H.CC E.cs (he.bI+H.grow.length) s.2.2.2.1→Lm bK H.grow he.bI s.2.1→∀i,bK i (iG hc.t i)
 bI:hc.bI=he.bI+H.m
 rg:hc.rg=mP H.dc s.2.2.2.2 he.rg
theorem BU {H:LH} {nS:List Nat} {E:L8} {Fe:Tr A} {he:Go.Bm.H} {s:H.S} {k:Tr A→Go.Bm.H→Option β} (h:Hd H nS E.bs E.cs E.fh Fe he s k=some r):∃Fc hc,k Fc hc=some r∧tb H nS E Fe he s Fc hc:=by
 obtain ⟨F1,k1,f1⟩:=yb _ _ _ h
 obtain ⟨F2,k2,f2⟩:=Fu _ _ _ _ k1
 obtain ⟨F3,k3,f3⟩:=Ft _ _ _ _ k2
 obtain ⟨t1,k4,e1⟩:=yx _ _ _ k3
 obtain ⟨t2,k5,e2⟩:=Fx _ _ _ _ _ k4
 obtain ⟨t3,k6,e3⟩:=Fw _ _ _ _ _ _ k5
 obtain ⟨t4,k7,e4⟩:=Fv _ _ _ _ _ k6
 exact ⟨F3,_,k7,fun bK a b c d=>f3 bK d (f2 bK c (f1 bK a b)),fun bK a b c d e=>e4 bK e (e3 bK d (e2 bK c (e1 bK a b))),rfl,rfl⟩
end
end
section
open Go.RowKit
theorem any_beq {l:List Nat} {i:Nat}:l.any (Nat.beq i)=true↔i∈l:=by
 rw [List.any_eq_true]
 exact ⟨fun ⟨x,h1,h2⟩=>by rw [beq_eq h2];exact h1,fun h=>⟨i,h,Nat.beq_refl i⟩⟩
theorem Cz {N:Nat} {bs fh:List Nat} {dc:List (Nat×RK)} {T:Fp} (h:Tg N bs fh dc T.ws=true) {i:Nat} (hl:i<dO) (h1:i<N) (h2:i∉fh++bs):wt T i=false:=by
 cases hx:wt T i with
 | false=>rfl
 | true=>
  unfold wt at hx
  rw [zC] at hx
  obtain ⟨q,q1,q2⟩:=List.any_eq_true.1 hx.2
  obtain rfl:=beq_eq q2
  have:=List.all_eq_true.1 h _ q1
  rw [qd hl] at this
  unfold gq at this
  rw [show Nat.beq (2*i%2) 0=true by rw [show 2*i%2=0 by omega];rfl,show 2*i / 2=i by omega] at this
  simp only [cond_true,Bool.or_eq_true] at this
  rcases this with (this | this) | this
  ·have:=Nat.le_of_ble_eq_true this;omega
  ·exact absurd (zS _ (any_beq.1 this)) h2
  ·exact absurd (zQ _ (any_beq.1 this)) h2
theorem Cy {N:Nat} {bs fh:List Nat} {dc:List (Nat×RK)} {T:Fp} (h:Tg N bs fh dc T.ws=true) {i:Nat} (hl:¬i<dO) (h1:fm dc (oT i)=false):wt T i=false:=by
 cases hx:wt T i with
 | false=>rfl
 | true=>
  unfold wt at hx
  rw [zC] at hx
  obtain ⟨q,q1,q2⟩:=List.any_eq_true.1 hx.2
  obtain rfl:=beq_eq q2
  have:=List.all_eq_true.1 h _ q1
  rw [tF hl] at this
  unfold kB at this
  rw [show Nat.beq ((2*oT i+1)%2) 0=false by rw [show (2*oT i+1)%2=1 by omega];rfl] at this
  simp only [cond_false] at this
  obtain ⟨p,p1,p2⟩:=List.any_eq_true.1 this
  have e:p.1=oT i:=by have:=beq_eq p2;unfold kB at this;omega
  rw [show fm dc (oT i)=true from List.any_eq_true.2 ⟨p,p1,by rw [e];exact Nat.beq_refl _⟩] at h1
  cases h1
theorem I6 {n:Nat} {F:Tr A} {bK:Nat→A→Prop} (hg:∀i a t x,i<n→nv a t (ch F.get i)=some x→bK i (df a t x)):∀(l:List (Nat×Bool×Ty)) (x:mE (l.map (·.2))),pjV n l F=some x→Ll bK l x
 | [],_,_=>trivial
 | p::l,x,h=>by
  unfold pjV at h
  obtain ⟨hn,h⟩:=ae h
  split at h
  ·rename_i y z h1 h2
   cases h
   exact ⟨hg _ _ _ _ (bW hn) h1,I6 hg l z h2⟩
  ·cases h
def Lu (t:Ty) (tt:Tr jM) (l:List t.T):Option Nat→Prop
 | some o=>o<dO∧iG tt o=some (.cells (l.flatMap (aJ t)))
 | none=>l=[]
def CO (z:Nat) (a:A):Option Nat→Prop
 | some o=>a = .tw (.loc o) z
 | none=>∀g v,V g a v→∃ad,v = .slice ad 0 0
theorem yO {t:Ty} {tt:Tr jM} {a:A} {l:List t.T} {nm:Option Nat} (h:Mn t tt a=some (l,nm)):Lu t tt l nm∧CO t.size a nm:=by
 unfold Mn at h
 split at h
 ·rename_i o z
  split at h
  ·rename_i t' l' h1
   obtain ⟨h2,h⟩:=ae h
   rw [zC] at h2
   split at h
   ·rename_i l1 Un
    obtain ⟨e,e2⟩:=dz Un
    cases e
    cases e2
    simp only [zI,zU] at h
    obtain ⟨rfl,rfl⟩:=h
    refine ⟨⟨bW h2.2,?_⟩,by rw [beq_eq h2.1];rfl⟩
    unfold iG
    rw [h1];rfl
   ·cases h
  ·cases h
 ·simp only [zI,zU] at h
  obtain ⟨rfl,rfl⟩:=h
  exact ⟨rfl,fun g v hv=>by cases hv;exact ⟨_,rfl⟩⟩
 ·simp only [zI,zU] at h
  obtain ⟨rfl,rfl⟩:=h
  exact ⟨rfl,fun g v hv=>by cases hv;exact ⟨_,rfl⟩⟩
 ·cases h
theorem I7 {n:Nat} {F:Tr A} {tt:Tr jM}:∀(l:List (Nat×Ty)) (x:mE (l.map fun p=>(false,Ty.cN p.2))) (names:List (Option Nat)),Qn n l F tt=some (x,names)→names.length=l.length ∧
  ∀(bK:Nat→A→Prop) (sL:Nat→Option Ob→Prop) (j:Nat),
   (∀(k:Nat) (nm:Option Nat) (i z:Nat),names[k]?=some nm→i<n→CO z (ch F.get i) nm→bK i (.tw (.loc (j+k)) z)) →
   (∀(k:Nat) (nm:Option Nat) (t:Ty) (l:List t.T),names[k]?=some nm→Lu t tt l nm→sL (j+k) (some (.cells (l.flatMap (aJ t)))))→Lk bK l j∧Lm sL l j x
 | [],x,names,h=>by
  simp only [Qn,zI,zU] at h
  obtain ⟨_,rfl⟩:=h
  exact ⟨rfl,fun _ _ _ _ _=>⟨trivial,trivial⟩⟩
 | p::l,x,names,h=>by
  unfold Qn at h
  obtain ⟨hn,h⟩:=ae h
  split at h
  ·rename_i y z h1 h2
   simp only [zI,zU] at h
   obtain ⟨rfl,rfl⟩:=h
   obtain ⟨q1,q2⟩:=I7 l z.1 z.2 h2
   obtain ⟨r1,r2⟩:=yO (l:=y.1) (nm:=y.2) h1
   refine ⟨by simp [q1],fun bK sL j k1 k2=>?_⟩
   obtain ⟨u1,u2⟩:=q2 bK sL (j+1) (fun k nm i z e=>by have:=k1 (k+1) nm i z (by simpa using e);rwa [show j+(k+1)=j+1+k by omega] at this) (fun k nm t l e=>by have:=k2 (k+1) nm t l (by simpa using e);rwa [show j+(k+1)=j+1+k by omega] at this)
   exact ⟨⟨k1 0 y.2 p.1 p.2.size rfl (bW hn) r2,u1⟩,⟨k2 0 y.2 p.2 y.1 rfl r1,u2⟩⟩
  ·cases h
theorem IH {n:Nat} {F:Tr A} {tt:Tr jM}:∀{l:List (Nat×Ty)} {x:mE (l.map fun p=>(false,Ty.cN p.2))} {names:List (Option Nat)},Qn n l F tt=some (x,names)→∀(k o:Nat),names[k]?=some (some o)→o<dO
 | [],x,names,h,k,o,e=>by
  simp only [Qn,zI,zU] at h
  obtain ⟨_,rfl⟩:=h
  simp at e
 | p::l,x,names,h,k,o,e=>by
  unfold Qn at h
  obtain ⟨hn,h⟩:=ae h
  split at h
  ·rename_i y z h1 h2
   simp only [zI,zU] at h
   obtain ⟨rfl,rfl⟩:=h
   cases k with
   | zero=>
    have e:y.2=some o:=by simpa using e
    have:=(yO (l:=y.1) (nm:=y.2) h1).1
    rw [e] at this
    exact this.1
   | succ k=>exact IH (x:=z.1) (names:=z.2) h2 k o (by simpa using e)
  ·cases h
theorem I9 {tt:Tr jM} {bK:Nat→Option Ob→Prop}:∀(l:List ((Nat×Option Nat)×Ty)) (bs:List Nat) (x:mE (l.map fun p=>(false,p.2))),(∀b t (y:t.T),b∈bs→iG tt b=some (.cells (aJ t y))→bK b (some (.cells (aJ t y))))→pjB l bs tt=some x→Lo bK l bs x
 | [],_,_,_,_=>trivial
 | p::l,b::bs,x,hg,h=>by
  unfold pjB at h
  split at h
  ·rename_i t' y h1
   split at h
   ·rename_i y' z h2 h3
    cases h
    obtain ⟨e,e2⟩:=dz h2
    obtain ⟨p1,p2⟩:=p
    simp only at e
    subst e
    cases e2
    exact ⟨hg b t' y (.head _) (by unfold iG;rw [h1];rfl),I9 l bs z (fun b t y hb=>hg b t y (.tail _ hb)) h3⟩
   ·cases h
  ·cases h
 | _::_,[],_,_,h=>by cases h
theorem Vs.Ik {g:G} {c:A} {cs:List A} {vs:List Value} (h:Vs g (c::cs) vs):∃v us,vs=v::us∧V g c v∧v.oneCell'=true∧Vs g cs us:=by
 match vs,h with
 | [],h=>exact absurd h.1 (by simp)
 | v::us,h=>
  have h0:=h.2 0 c v rfl rfl
  exact ⟨v,us,rfl,h0.1,h0.2,by simpa using h.1,fun j c x e1 e2=>h.2 (j+1) c x (by simpa using e1) (by simpa using e2)⟩
theorem DC {tt:Tr jM}:∀(ks:List (Bool×Ty)) (cs:List A) (x:mE (Q3 ks)) (names:List (Option Nat)),RA ks cs tt=some (x,names)→names.length=q_ ks∧(∀(k o:Nat),names[k]?=some (some o)→o<dO)∧∀j,(Th ks x j).length=cs.length ∧
  (∀(sL:Nat→Option Ob→Prop),(∀(k:Nat) (nm:Option Nat) (t:Ty) (l:List t.T),names[k]?=some nm→Lu t tt l nm→sL (j+k) (some (.cells (l.flatMap (aJ t)))))→HL sL ks x j) ∧
  ∀(N:Nat) (g g':G),EB N g g'→(∀(k:Nat) (nm:Option Nat) (z:Nat) (c:A),names[k]?=some nm→CO z c nm→∀v,V g c v→V g' (.tw (.loc (j+k)) z) v)→∀vs,Vs g cs vs→Vs g' (Th ks x j) vs
 | [],[],x,names,h=>by
  simp only [RA,zI,zU] at h
  obtain ⟨_,rfl⟩:=h
  exact ⟨rfl,fun k o e=>by simp at e,fun j=>⟨rfl,fun _ _=>trivial,fun N g g' _ _ vs hv=>⟨hv.1,fun j c x e=>by simp [Th] at e⟩⟩⟩
 | (true,u)::l,c::cs,x,names,h=>by
  unfold RA at h
  split at h
  ·rename_i y z h1 h2
   simp only [zI,zU] at h
   obtain ⟨rfl,rfl⟩:=h
   obtain ⟨q1,TW,q2⟩:=DC l cs z.1 z.2 h2
   obtain ⟨r1,r2⟩:=yO (l:=y.1) (nm:=y.2) h1
   refine ⟨by simp [q1,q_],fun k o e=>?_,fun j=>?_⟩
   ·cases k with
    | zero=>
     have e:y.2=some o:=by simpa using e
     rw [e] at r1
     exact r1.1
    | succ k=>exact TW k o (by simpa using e)
   ·obtain ⟨u1,u2,u3⟩:=q2 (j+1)
    refine ⟨congrArg Nat.succ u1,fun sL k2=>⟨k2 0 y.2 u y.1 rfl r1,u2 sL (fun k nm t l e=>by have:=k2 (k+1) nm t l (by simpa using e);rwa [show j+(k+1)=j+1+k by omega] at this)⟩,fun N g g' hs hk vs hv=>?_⟩
    obtain ⟨v,us,rfl,v1,v2,v3⟩:=hv.Ik
    exact .cons (hk 0 y.2 u.size c rfl r2 v v1) v2 (u3 N g g' hs (fun k nm z c e=>by have:=hk (k+1) nm z c (by simpa using e);rwa [show j+(k+1)=j+1+k by omega] at this) us v3)
  ·cases h
 | (false,u)::l,c::cs,x,names,h=>by
  unfold RA at h
  split at h
  ·rename_i y z h1 h2
   simp only [zI,zU] at h
   obtain ⟨rfl,rfl⟩:=h
   obtain ⟨q1,TW,q2⟩:=DC l cs z.1 z.2 h2
   refine ⟨by simp [q1,q_],TW,fun j=>?_⟩
   obtain ⟨u1,u2,u3⟩:=q2 j
   refine ⟨congrArg Nat.succ u1,u2,fun N g g' hs hk vs hv=>?_⟩
   obtain ⟨v,us,rfl,v1,v2,v3⟩:=hv.Ik
   exact .cons (se false u y g g' v hs (mo h1 v1)) v2 (u3 N g g' hs hk us v3)
  ·cases h
 | [],_::_,_,_,h=>by cases h
 | (true,_)::_,[],_,_,h=>by cases h
 | (false,_)::_,[],_,_,h=>by cases h
theorem EY {tt:Tr jM}:∀(l:List ((Nat×Option Nat)×List (Bool×Ty))) (bs:List Nat) (x:CB l) (names:List (Option Nat)),I8 l bs tt=some (x,names)→names.length=um l∧(∀(k o:Nat),names[k]?=some (some o)→o<dO) ∧
  ∀(N:Nat) (g g':G) (j:Nat) (bK:Nat→Option Ob→Prop),EB N g g' →
   (∀(k:Nat) (nm:Option Nat) (z:Nat) (c:A),names[k]?=some nm→CO z c nm→∀v,V g c v→V g' (.tw (.loc (j+k)) z) v) →
   (∀(k:Nat) (nm:Option Nat) (t:Ty) (l:List t.T),names[k]?=some nm→Lu t tt l nm→bK (j+k) (some (.cells (l.flatMap (aJ t))))) →
   (∀b cs kt,b∈bs→iG tt b=some (.cells cs)→kt.length=cs.length→(∀vs,Vs g cs vs→Vs g' kt vs)→bK b (some (.cells kt)))→Ln bK l bs j x
 | [],_,x,names,h=>by
  simp only [I8,zI,zU] at h
  obtain ⟨_,rfl⟩:=h
  exact ⟨rfl,fun k o e=>by simp at e,fun _ _ _ _ _ _ _ _ _=>trivial⟩
 | p::l,b::bs,x,names,h=>by
  unfold I8 at h
  split at h
  ·rename_i cs ZE
   split at h
   ·rename_i y z h1 h2
    simp only [zI,zU] at h
    obtain ⟨rfl,rfl⟩:=h
    obtain ⟨q1,TW,q2⟩:=DC p.2 cs y.1 y.2 h1
    obtain ⟨r1,r1',r2⟩:=EY l bs z.1 z.2 h2
    have ap:∀(k:Nat) (nm:Option Nat),y.2[k]?=some nm→(y.2++z.2)[k]?=some nm:=fun k nm e=>by rw [zK (zB.1 e).1];exact e
    have aq:∀(k:Nat) (nm:Option Nat),z.2[k]?=some nm→(y.2++z.2)[q_ p.2+k]?=some nm:=fun k nm e=>by rw [zJ (by omega),q1,Nat.add_sub_cancel_left];exact e
    refine ⟨by simp [q1,r1,um],fun k o e=>?_,fun N g g' j bK hs hk hr hb=>?_⟩
    ·by_cases hk:k<y.2.length
     ·rw [zK hk] at e;exact TW k o e
     ·rw [zJ (by omega)] at e;exact r1' _ o e
    ·obtain ⟨u1,u2,u3⟩:=q2 j
     refine ⟨hb b cs _ (.head _) (by unfold iG;rw [ZE];rfl) u1 (u3 N g g' hs (fun k nm zz c e=>hk k nm zz c (ap k nm e))),u2 bK (fun k nm t l e=>hr k nm t l (ap k nm e)),?_⟩
     exact r2 N g g' (j+q_ p.2) bK hs (fun k nm zz c e=>by have:=hk (q_ p.2+k) nm zz c (aq k nm e);rwa [←Nat.add_assoc] at this) (fun k nm t l e=>by have:=hr (q_ p.2+k) nm t l (aq k nm e);rwa [←Nat.add_assoc] at this) (fun b cs kt hm=>hb b cs kt (.tail _ hm))
   ·cases h
  ·cases h
 | _::_,[],_,_,h=>by cases h
theorem zc {N:Nat} {fh:List Nat}:∀{names:List (Option Nat)},GY N fh names=true→(∀(k o:Nat),names[k]?=some (some o)→N≤o∨o∈fh)∧∀(k k' o:Nat),names[k]?=some (some o)→names[k']?=some (some o)→k=k'
 | [],_=>⟨fun k o h=>by simp at h,fun k k' o h=>by simp at h⟩
 | none::l,h=>by
  obtain ⟨h1,h2⟩:=zc (show GY N fh l=true from h)
  refine ⟨fun k o e=>?_,fun k k' o e e'=>?_⟩
  ·cases k with
   | zero=>cases e
   | succ k=>exact h1 k o (by simpa using e)
  ·cases k with
   | zero=>cases e
   | succ k=>
    cases k' with
    | zero=>cases e'
    | succ k'=>rw [h2 k k' o (by simpa using e) (by simpa using e')]
 | some q::l,h=>by
  have h:((Nat.ble N q || fh.any (Nat.beq q)) && !(l.any (Js q)) && GY N fh l)=true:=h
  simp only [zC,Bool.or_eq_true,Bool.not_eq_true'] at h
  obtain ⟨⟨ha,hb⟩,hc⟩:=h
  obtain ⟨h1,h2⟩:=zc hc
  have far:∀k,l[k]?=some (some q)→False:=fun k e=>by
   have:l.any (Js q)=true:=List.any_eq_true.2 ⟨some q,zG e,Nat.beq_refl q⟩
   rw [hb] at this;cases this
  refine ⟨fun k o e=>?_,fun k k' o e e'=>?_⟩
  ·cases k with
   | zero=>
    simp only [List.getElem?_cons_zero,zI] at e
    subst e
    exact ha.imp Nat.le_of_ble_eq_true any_beq.1
   | succ k=>exact h1 k o (by simpa using e)
  ·cases k with
   | zero=>
    simp only [List.getElem?_cons_zero,zI] at e
    subst e
    cases k' with
    | zero=>rfl
    | succ k'=>exact (far k' (by simpa using e')).elim
   | succ k=>
    cases k' with
    | zero=>
     simp only [List.getElem?_cons_zero,zI] at e'
     subst e'
     exact (far k (by simpa using e)).elim
    | succ k'=>rw [h2 k k' o (by simpa using e) (by simpa using e')]
structure wW (H:LH) (E:L8) (ds:List Nat) (F:Tr A) (h:Go.Bm.H):Prop where
 slot:∀i,VP h.bI (ch F.get i)
 mem:∀i x,iG h.t i=some x→LK h.bI x
 top:h.bI+H.m≤dO
 bsl:∀b∈E.bs++E.cs,b<h.bI
 del:∀b∈E.fh,b<h.bI
 dsl:∀b∈ds,b<h.bI
 apart:∀b∈E.bs++E.cs,b∉E.fh
 loop:∀q∈E.qs,IS h.t q=true∧q∉E.fh++(E.bs++E.cs)
 dc:∀r,fm H.dc r=true→∃x,cl h.rg r=some x
theorem Cj {H:LH} {E:L8} {ds:List Nat} {F:Tr A} {h:Go.Bm.H} (k:FQ H E ds F h=true):wW H E ds F h:=by
 unfold FQ at k
 rw [zC,zC,zC,zC,zC,zC,zC,zC] at k
 obtain ⟨⟨⟨⟨⟨⟨⟨⟨k1,k2⟩,k3⟩,k4⟩,k5⟩,k6⟩,k7⟩,k9⟩,k8⟩:=k
 rw [List.all_eq_true] at k4 k5 k6 k7 k8 k9
 refine ⟨Is k1,fun i x e=>?_,Nat.le_of_ble_eq_true k3,fun b hb=>bW (k4 b hb),fun b hb=>bW (k5 b hb),fun b hb=>bW (k6 b hb),fun b hb hd=>?_,fun q hq=>?_,fun r hr=>?_⟩
 ·unfold iG at e
  split at e
  ·rename_i m hm
   cases e
   exact MV (qa k2 i m hm)
  ·cases e
 ·have:=k7 b hb
  rw [any_beq.2 hd] at this;cases this
 ·have:=k9 q hq
  rw [zC] at this
  refine ⟨this.1,fun hm=>?_⟩
  have h2:=this.2
  rw [any_beq.2 hm] at h2;cases h2
 ·obtain ⟨p,p1,p2⟩:=List.any_eq_true.1 hr
  have:=k8 p p1
  rw [beq_eq p2] at this
  exact Option.isSome_iff_exists.1 this
theorem EV {t:Tr jM} {q:Nat} (h:IS t q=true):iG t q=some (.eL (.loop .ready none)):=by
 unfold IS at h
 split at h
 ·rename_i hq;unfold iG;rw [hq];rfl
 ·cases h
section
variable {H:LH} {nS Uz:List Nat} {E:L8} {Fe:Tr A} {he:Go.Bm.H} {s:H.S} {Fc:Tr A} {hc:Go.Bm.H}
theorem Ay {bK:Nat→Option Ob→Prop}:∀(l:List ((Nat×Option Nat)×Ty)) (bs:List Nat) (x:mE (l.map fun p=>(false,p.2))),(∀b∈bs,∀ob,bK b ob)→Lo bK l bs x
 | [],_,_,_=>trivial
 | _::_,[],_,_=>trivial
 | p::l,b::bs,x,h=>⟨h b (.head _) _,Ay l bs x.2 (fun b hb=>h b (.tail _ hb))⟩
theorem Aw {bK:Nat→Option Ob→Prop} {m:Nat}:∀(l:List (Nat×Ty)) (j:Nat) (x:mE (l.map fun p=>(false,Ty.cN p.2))),j+l.length≤m→(∀i,j≤i→i<m→∀ob,bK i ob)→Lm bK l j x
 | [],_,_,_,_=>trivial
 | p::l,j,x,hm,h=>by
  have hm:j+(l.length+1)≤m:=hm
  exact ⟨h j (Nat.le_refl _) (by omega) _,Aw l (j+1) x.2 (by omega) (fun i h1 h2=>h i (by omega) h2)⟩
theorem Av {bK:Nat→Option Ob→Prop} {m:Nat}:∀(ks:List (Bool×Ty)) (x:mE (Q3 ks)) (j:Nat),j+q_ ks≤m→(∀i,j≤i→i<m→∀ob,bK i ob)→HL bK ks x j
 | [],_,_,_,_=>trivial
 | (true,_)::l,x,j,hm,h=>by
  have hm:j+(q_ l+1)≤m:=hm
  exact ⟨h j (Nat.le_refl _) (by omega) _,Av l x.2 (j+1) (by omega) (fun i h1 h2=>h i (by omega) h2)⟩
 | (false,_)::l,x,j,hm,h=>Av l x.2 j hm h
theorem Ax {bK:Nat→Option Ob→Prop} {m:Nat}:∀(l:List ((Nat×Option Nat)×List (Bool×Ty))) (bs:List Nat) (j:Nat) (x:CB l),j+um l≤m→(∀b∈bs,∀ob,bK b ob)→(∀i,j≤i→i<m→∀ob,bK i ob)→Ln bK l bs j x
 | [],_,_,_,_,_,_=>trivial
 | _::_,[],_,_,_,_,_=>trivial
 | p::l,b::bs,j,x,hm,hb,h=>by
  have hm:j+(q_ p.2+um l)≤m:=hm
  exact ⟨hb b (.head _) _,Av p.2 x.1 j (by omega) h,Ax l bs _ x.2 (by omega) (fun b xx=>hb b (.tail _ xx)) (fun i h1 h2=>h i (by omega) h2)⟩
theorem vY (EO:wW H E Uz Fe he) (J:tb H nS E Fe he s Fc hc):(∀i,i<he.bI→i∉E.fh++(E.bs++E.cs)→(hp hc).ob i=(hp he).ob i) ∧
  (∀i,¬i<dO→fm H.dc (oT i)=false→(hp hc).ob i=(hp he).ob i∧((hp hc).fr i↔(hp he).fr i)) ∧
  ∀i,wt (jT H he.bI E) i=false→(hp hc).ob i=(hp he).ob i∧((hp hc).fr i↔(hp he).fr i):=by
 have abS:=EO.top
 have hm:H.m=H.grow.length+um H.CC:=rfl
 have QJ:∀i,i∉E.fh++(E.bs++E.cs)→(∀k,k<H.m→i≠he.bI+k)→iG hc.t i=iG he.t i:=fun i h1 h2=>by
  have bsn:∀b∈E.bs++E.cs,∀ob,b∉E.fh++(E.bs++E.cs)→(∀k,k<H.m→b≠he.bI+k)→ob=iG he.t b:=fun b hb ob hn=>absurd (zS _ hb) hn
  have IG:∀i,he.bI≤i→i<he.bI+H.m→∀ob,i∉E.fh++(E.bs++E.cs)→(∀k,k<H.m→i≠he.bI+k)→ob=iG he.t i:=fun i q1 q2 ob _ hn=>absurd (show i=he.bI+(i-he.bI) by omega) (hn (i-he.bI) (by omega))
  exact J.t (fun i ob=>i∉E.fh++(E.bs++E.cs)→(∀k,k<H.m→i≠he.bI+k)→ob=iG he.t i) (fun i hi hn=>absurd hi hn) (fun i _ _ _=>rfl)
   (Ay _ _ _ (fun b hb=>bsn b (zQ _ hb))) (Ax (m:=he.bI+H.m) _ _ _ _ (by omega) (fun b hb=>bsn b (zS _ hb)) (fun i q1 q2=>IG i (by omega) q2)) (Aw (m:=he.bI+H.m) _ _ _ (by omega) IG) i h1 h2
 have c_:∀i,¬i<dO→fm H.dc (oT i)=false→(hp hc).ob i=(hp he).ob i∧((hp hc).fr i↔(hp he).fr i):=fun i hl hk=>by
  rw [(hM hl).1,(hM hl).2,(hM hl).1,(hM hl).2]
  unfold fR iZ
  rw [J.rg,n_ _ _ _ EO.dc,hk,if_neg (by simp)]
  exact ⟨rfl,Iff.rfl⟩
 refine ⟨fun i h1 h2=>?_,c_,fun i hw=>?_⟩
 ·have hl:i<dO:=by omega
  show (if i<dO then iG hc.t i else _)=(if i<dO then iG he.t i else _)
  rw [if_pos hl,if_pos hl]
  exact QJ i h2 (fun k _=>by omega)
 ·have hw:(((E.bs++E.cs).map gq++E.fh.map gq)++((List.range H.m).map (fun k=>gq (he.bI+k))++H.dc.map fun p=>kB p.1)).any (Nat.beq (res i))=false:=hw
  rw [List.any_append,List.any_append,List.any_append] at hw
  simp only [Bool.or_eq_false_iff] at hw
  obtain ⟨⟨w1,w2⟩,w3,w4⟩:=hw
  by_cases hl:i<dO
  ·have nin:∀l:List Nat,(l.map gq).any (Nat.beq (res i))=false→i∉l:=fun l h hm=>by
    rw [any_beq.2 (by rw [qd hl];exact List.mem_map.2 ⟨i,hm,rfl⟩)] at h;cases h
   have n3:∀k,k<H.m→i≠he.bI+k:=fun k hk e=>by
    rw [any_beq.2 (by rw [qd hl,e];exact List.mem_map.2 ⟨k,List.mem_range.2 hk,rfl⟩)] at w3;cases w3
   refine ⟨?_,?_⟩
   ·show (if i<dO then iG hc.t i else _)=(if i<dO then iG he.t i else _)
    rw [if_pos hl,if_pos hl]
    exact QJ i (fun h=>(zX.1 h).elim (nin _ w2) (nin _ w1)) n3
   ·show (if i<dO then hc.bI≤i else _)↔(if i<dO then he.bI≤i else _)
    rw [if_pos hl,if_pos hl,J.bI]
    refine ⟨fun h=>by omega,fun h=>?_⟩
    rcases Nat.lt_or_ge i (he.bI+H.m) with h1 | h1
    ·exact absurd (show i=he.bI+(i-he.bI) by omega) (n3 (i-he.bI) (by omega))
    ·exact h1
  ·refine c_ i hl ?_
   rw [tF hl,Au] at w4
   exact w4
theorem Qm {n:Nat} {F':Tr A} {h':Go.Bm.H} {nQ:List Nat} {T:Fp} (EO:wW H E Uz Fe he) (sJ:∀i,he.bI≤i→i<dO→iG he.t i=none) (Zq:∀i,i∉nS→ch F'.get i=ch Fe.get i)
  (Zi:∀i,i<he.bI→i∉E.fh++(E.bs++E.cs++E.qs)→(hp h').ob i=(hp he).ob i) (aeB:∀i,¬i<dO→fm H.dc (oT i)=false→(hp h').ob i=(hp he).ob i∧((hp h').fr i↔(hp he).fr i))
  (Nr:HR H n he.bI E.bs E.cs E.qs E.fh Uz F' h' nQ T=some s) (J:tb H nS E Fe he s Fc hc) {S0:Hp} {g0:G} {w0 w:World} {a:Act} (hf:∀o,he.bI≤o→o<dO→S0.fr o∧g0.ck o=none)
  (hR:R S0 g0 w0 (jX n F' nQ (hp h')) a w):R S0 g0 w0 (jX n Fc Uz (hp hc)) a w:=by
 have abS:=EO.top
 have hm:H.m=H.grow.length+um H.CC:=rfl
 unfold HR at Nr
 obtain ⟨FB,Nq⟩:=ae Nr
 clear Nr
 rw [zC,zC] at FB
 obtain ⟨⟨_,hds⟩,Sk⟩:=FB
 rw [List.all_eq_true] at Sk
 obtain rfl:=KQ hds
 split at Nq
 ·rename_i v gg b ee c hv hg hb hee HZ
  obtain ⟨Hh,aeE⟩:=ae Nq
  clear Nq
  cases aeE
  obtain ⟨gr,nG⟩:=gg
  obtain ⟨er,nC⟩:=ee
  obtain ⟨n1,n2⟩:=zc Hh
  obtain ⟨p1,p2⟩:=I7 _ _ _ hg
  obtain ⟨c1,c2,c3⟩:=EY _ _ _ _ hee
  obtain ⟨g,hI,hE,hD,hs,hV⟩:=hR
  have hV:∀i,i<n→V g (ch F'.get i) (a.tmps.getD i undef):=hV
  have Kd:(nG++nC).length=H.m:=by rw [zY,p1,c1];exact hm.symm
  have Qs:∀(k o:Nat),(nG++nC)[k]?=some (some o)→o<dO:=fun k o e=>by
   by_cases hk:k<nG.length
   ·rw [zK hk] at e;exact IH hg k o e
   ·rw [zJ (by omega)] at e;exact c2 _ o e
  have gap:∀(k:Nat) (nm:Option Nat),nG[k]?=some nm→(nG++nC)[k]?=some nm:=fun k nm e=>by rw [zK (zB.1 e).1];exact e
  have cap:∀(k:Nat) (nm:Option Nat),nC[k]?=some nm→(nG++nC)[H.grow.length+k]?=some nm:=fun k nm e=>by rw [zJ (by omega),p1,Nat.add_sub_cancel_left];exact e
  have Zn:∀(k o:Nat),(nG++nC)[k]?=some (some o)→he.bI≤o∨o∈E.fh:=n1
  have Zm:∀(k k' o:Nat),(nG++nC)[k]?=some (some o)→(nG++nC)[k']?=some (some o)→k=k':=n2
  generalize zy:nG++nC=names at Kd Qs gap cap Zn Zm
  have hlN:he.bI+names.length≤dO:=by rw [Kd];exact abS
  have m5:=Kw he.bI names g
  have YG:∀(k:Nat) (nm:Option Nat) (z:Nat) (cc:A),names[k]?=some nm→CO z cc nm→∀v,V g cc v→V (gj he.bI names g) (.tw (.loc (he.bI+k)) z) v:=fun k nm z cc e QC v hvi=>by
   cases nm with
   | some o=>
    have QC:cc = .tw (.loc o) z:=QC
    rw [QC] at hvi
    have cV:(gj he.bI names g).ck (he.bI+k)=g.ck o:=B4 e hlN
    cases hvi with
    | AA _ _ ad h1=>exact .AA (.loc (he.bI+k)) z ad (cV.trans h1)
    | tw _ _ m b cap t h1 hn hx hp d hd=>exact .tw (.loc (he.bI+k)) z m b cap t (cV.trans h1) hn hx hp d hd
   | none=>
    obtain ⟨ad,h1⟩:=QC g _ hvi
    rw [h1]
    exact .AA (.loc (he.bI+k)) z ad (B4 e hlN)
  have YH:∀(k:Nat) (nm:Option Nat) (t:Ty) (l:List t.T),names[k]?=some nm→Lu t h'.t l nm→∀x,some (Ob.cells (l.flatMap (aJ t)))=some x→(he.bI+k<he.bI→(((hp h').ob (he.bI+k)=some x∧LK he.bI x)∨∃cs kt,(hp h').ob (he.bI+k)=some (.cells cs)∧x = .cells kt∧kt.length=cs.length∧∀vs,Vs g cs vs→Vs (gj he.bI names g) kt vs)) ∧
    (he.bI≤he.bI+k→he.bI+k<dO→∃k' nm,he.bI+k=he.bI+k'∧names[k']?=some nm∧(∀o,nm=some o→(hp h').ob o=some x∧LK he.bI x)∧(nm=none→x = .cells [])):=fun k nm t l e J6 x hx=>by
   cases hx
   refine ⟨fun eh=>by omega,fun _ eh=>⟨k,nm,rfl,e,fun o ho=>?_,fun ho=>?_⟩⟩
   ·subst ho
    have J6:o<dO∧iG h'.t o=some (.cells (l.flatMap (aJ t))):=J6
    refine ⟨?_,fun c hc=>by obtain ⟨y,_,hy⟩:=List.mem_flatMap.1 hc;exact lD t y c hy⟩
    show (if o<dO then _ else _)=_
    rw [if_pos J6.1];exact J6.2
   ·subst ho
    have J6:l=[]:=J6
    subst J6;rfl
  have fN:∀i,i<dO→(hp h').ob i=iG h'.t i:=fun i hi=>if_pos hi
  have aS:=p2 (fun i c=>i<n→V (gj he.bI names g) c (a.tmps.getD i undef)) (fun i ob=>∀x,ob=some x→(i<he.bI→(((hp h').ob i=some x∧LK he.bI x)∨∃cs kt,(hp h').ob i=some (.cells cs)∧x = .cells kt∧kt.length=cs.length∧∀vs,Vs g cs vs→Vs (gj he.bI names g) kt vs))∧(he.bI≤i→i<dO→∃k nm,i=he.bI+k∧names[k]?=some nm∧(∀o,nm=some o→(hp h').ob o=some x∧LK he.bI x)∧(nm=none→x = .cells []))) he.bI
   (fun k nm i z e hi QC _=>YG k nm z _ (gap k nm e) QC _ (hV i hi)) (fun k nm t l e J6=>YH k nm t l (gap k nm e) J6)
  have hF:=J.F (fun i c=>i<n→V (gj he.bI names g) c (a.tmps.getD i undef)) (fun i _ _=>.dN _)
   (fun i hi hn=>by
    have:=hV i hn
    rw [Zq i hi] at this
    exact EO.slot i g _ _ m5 this)
   (I6 (fun i ag t x hi hx _=>se ag t x g _ _ m5 (mo hx (hV i hi))) _ _ hv) aS.1
  have hT:=J.t _ (fun i _ x hx=>by cases hx)
   (fun i hi x hx=>by
    refine ⟨fun eh=>.inl ?_,fun h1 h2=>by rw [sJ i h1 h2] at hx;cases hx⟩
    have he1:(hp h').ob i=iG he.t i:=by
     by_cases hq:i∈E.qs
     ·rw [fN i (by omega),EV (Sk i hq),EV (EO.loop i hq).1]
     ·rw [Zi i eh (fun h=>by
       rcases zX.1 h with h | h
       ·exact hi (zQ _ h)
       ·rcases zX.1 h with h | h
        ·exact hi (zS _ h)
        ·exact hq h)]
      exact if_pos (by omega)
    exact ⟨he1.trans hx,EO.mem i x hx⟩)
   (I9 (tt:=h'.t) _ _ _ (fun b t y hbm hbt x hx=>by
    cases hx
    have eh:=EO.bsl b (zQ _ hbm)
    exact ⟨fun _=>.inl ⟨by rw [fN b (by omega)];exact hbt,lD t y⟩,fun h=>by omega⟩) hb)
   (c3 he.bI g (gj he.bI names g) (he.bI+H.grow.length) _ m5 (fun k nm z cc e QC v hv=>by have:=YG (H.grow.length+k) nm z cc (cap k nm e) QC v hv;rwa [←Nat.add_assoc] at this) (fun k nm t l e J6=>by have:=YH (H.grow.length+k) nm t l (cap k nm e) J6;rwa [←Nat.add_assoc] at this)
    (fun b cs kt hbm hbt hl ZD x hx=>by
     cases hx
     have eh:=EO.bsl b (zS _ hbm)
     exact ⟨fun _=>.inr ⟨cs,kt,by rw [fN b (by omega)];exact hbt,rfl,hl,ZD⟩,fun h=>by omega⟩)) aS.2
  have hDl:∀i,i∈E.fh→iG hc.t i=none:=fun i hi=>by
   have IG:∀i,he.bI≤i→i<he.bI+H.m→∀ob:Option Ob,i∈E.fh→ob=none:=fun i q1 _ ob hn=>by have:=EO.del _ hn;omega
   have bsn:∀b∈E.bs++E.cs,∀ob:Option Ob,b∈E.fh→ob=none:=fun b hb ob hn=>absurd hn (EO.apart b hb)
   exact J.t (fun i ob=>i∈E.fh→ob=none) (fun _ _ _=>rfl) (fun i hn hd=>absurd (zQ _ hd) hn) (Ay _ _ _ (fun b hb=>bsn b (zQ _ hb))) (Ax (m:=he.bI+H.m) _ _ _ _ (by omega) (fun b hb=>bsn b (zS _ hb)) (fun i q1 q2=>IG i (by omega) q2)) (Aw (m:=he.bI+H.m) _ _ _ (by omega) IG) i hi
  have Zy:=nz _ _ _ HZ
  have hRg:∀i,¬i<dO→(hp hc).ob i=(hp h').ob i∧((hp hc).fr i↔(hp h').fr i):=fun i hl=>by
   cases hk:fm H.dc (oT i) with
   | true=>
    obtain ⟨q1,_⟩:=Zy _ hk
    rw [(hM hl).1,(hM hl).2,(hM hl).1,(hM hl).2]
    unfold fR iZ
    rw [J.rg,n_ _ _ _ EO.dc,hk,if_pos rfl,q1]
    exact ⟨rfl,Iff.rfl⟩
   | false=>
    have e1:=(vY EO J).2.1 i hl hk
    have e2:=aeB i hl hk
    exact ⟨e1.1.trans e2.1.symm,e1.2.trans e2.2.symm⟩
  have Sy:∀i,i<dO→(hp hc).ob i=iG hc.t i:=fun i hi=>if_pos hi
  have Fz:∀{i},¬stay he.bI i→he.bI≤i∧i<dO:=fun {i} h=>by unfold stay at h;omega
  have hrj:=Rw (S':=hp hc) hlN (fun i x hi e=>?_) (fun i x hi e=>?_) Zm (fun k o e hi=>?_) (fun i e=>⟨fun hi=>?_,fun hi=>?_⟩) hf hI hE
  ·refine ⟨_,hrj.1,hrj.2,⟨hD.1,fun i d e e1 e2=>?_⟩,hs,fun i hi=>hF i hi⟩
   obtain ⟨b',s',q1,q2⟩:=hD.2 i d e e1 e2
   exact ⟨b',s',(m5.ck d (.inl (EO.dsl d (zG e1)))).trans q1,q2⟩
  ·rcases hi with hi | hi
   ·rw [Sy i (by omega)] at e
    exact (hT i x e).1 hi
   ·refine .inl ⟨(hRg i hi).1.symm.trans e,?_⟩
    rw [(hM hi).1] at e
    unfold fR at e
    split at e
    ·exact IQ e
    ·cases e
  ·obtain ⟨h1,h2⟩:=Fz hi
   rw [Sy i h2] at e
   exact (hT i x e).2 h1 h2
  ·have yh:=Qs k o e
   rcases Zn k o e with h1 | h1
   ·rcases hi with hi | hi
    ·omega
    ·exact absurd yh hi
   ·rw [Sy o yh];exact hDl o h1
  ·obtain ⟨h1,h2⟩:=Fz hi
   have e:(if i<dO then hc.bI≤i else _):=e
   rw [if_pos h2,J.bI] at e
   rw [Kd];exact e
  ·rcases hi with hi | hi
   ·have e:(if i<dO then hc.bI≤i else _):=e
    rw [if_pos (show i<dO by omega),J.bI] at e
    omega
   ·exact (hRg i hi).2.1 e
 ·cases Nq
end
end
section
open Go.RowKit
theorem Inv.Iv {g:G} {S:Hp} {w:World} (h:Inv g S w) {q b:Nat} {s:Nat×Nat} {st Mh:LoopState} {pe RB:Option Code} {rr:Loop} (ho:S.ob q=some (.eL (.loop st pe))) (hg:g.ck q=some (some b,s)) (hr:w.heap[b]?=some (.loop rr)) :
  Inv g (S.set q (.eL (.loop Mh RB))) (w.putObj b (.loop { rr with state:=Mh,pending:=RB }))∧Ext S g w (S.set q (.eL (.loop Mh RB))) g (w.putObj b (.loop { rr with state:=Mh,pending:=RB })):=by
 have hb:b<w.heap.size:=(Array.getElem?_eq_some_iff.1 hr).1
 refine h.Ic ho hg (by simp) (fun k hk=>World.putObj_heap_other hk) rfl rfl rfl ⟨_,World.putObj_heap_same hb,_,rfl,rfl,rfl⟩ (fun l e=>⟨_,World.putObj_heap_same hb,?_⟩)
 obtain ⟨r,k1,k2⟩:=h.lp b l e
 rw [hr] at k1
 cases k1
 exact k2
theorem Inv.Y1 {g:G} {S:Hp} {w:World} (h:Inv g S w) {q:Nat} (hf:S.fr q) (rr:Loop) :
  ∃g',Inv g' (S.new q (.eL (.loop rr.state rr.pending))) (w.alloc (.loop rr))∧Ext S g w (S.new q (.eL (.loop rr.state rr.pending))) g' (w.alloc (.loop rr))∧g'.ck q=some (some w.heap.size,(0,0))∧g'.lp w.heap.size=some (zj rr):=by
 obtain ⟨i1,x1⟩:=h.alloc (s:=(0,0)) hf (x:=.eL (.loop rr.state rr.pending)) (ob:=.loop rr) ⟨_,heap_alloc_new w _,rr,rfl,rfl,rfl⟩
 have QH:(l5 g q (some w.heap.size,(0,0))).lp w.heap.size=none:=by
  cases hl:(l5 g q (some w.heap.size,(0,0))).lp w.heap.size with
  | none=>rfl
  | some l=>
   obtain ⟨r,k1,_⟩:=h.lp _ l hl
   have:=(Array.getElem?_eq_some_iff.1 k1).1
   omega
 have cV:=dK (g:=g) (o:=q) (p:=(some w.heap.size,(0,0)))
 generalize l5 g q (some w.heap.size,(0,0))=g1 at i1 x1 QH cV
 have hle:Le g1 ⟨g1.ck,g1.mem,fun k=>if k=w.heap.size then some (zj rr) else g1.lp k⟩:=⟨fun _ _ e=>e,fun _ _ _ e=>e,fun b l e=>by
  show (if b=w.heap.size then _ else g1.lp b)=some l
  split
  ·rename_i hb;rw [hb,QH] at e;cases e
  ·exact e⟩
 refine ⟨⟨g1.ck,g1.mem,fun k=>if k=w.heap.size then some (zj rr) else g1.lp k⟩,⟨fun o cs e=>(i1.cells o cs e).imp id fun ⟨b,t,k1,cur,ty,k2,k3,k4⟩=>⟨b,t,k1,cur,ty,k2,k3,k4.mono hle⟩,fun o x e=>?_,i1.fresh,i1.lt,i1.inj,i1.mem,i1.pC,fun b l e=>?_⟩,⟨x1.le.trans hle,x1.os,x1.tape,x1.output,x1.size,x1.frame,fun k ⟨o,s,x,e1,e2⟩=>x1.own k ⟨o,s,x,e1,e2⟩,x1.QS,x1.fr,x1.zh,fun b l e=>?_⟩,cV,if_pos rfl⟩
 ·obtain ⟨b,s,ob,k1,k2,k3⟩:=i1.eL o x e
  exact ⟨b,s,ob,k1,k2,k3.mono hle⟩
 ·have e:(if b=w.heap.size then some (zj rr) else g1.lp b)=some l:=e
  split at e
  ·rename_i hb;cases e;exact ⟨rr,by rw [hb];exact heap_alloc_new w _,rfl⟩
  ·exact i1.lp b l e
 ·have e:(if b=w.heap.size then some (zj rr) else g1.lp b)=some l:=e
  split at e
  ·rename_i hb;exact .inr (by omega)
  ·exact x1.lpo b l e
section
variable {β:Type}
theorem EM {h:H} {q:Nat} {x:jM} {t':Tr jM} (hq:q<16777216) (ht:t'.get=fun m=>if m=q then some x else h.t.get m):tu h { h with t:=t' } (.wr [gq q])∧∀S,bO (.wr [gq q]) (hp h) S→mb (.wr [gq q]) (hp { h with t:=t' }) S=S.set q x.low:=by
 have e:=tR (h:=h) (x:=x) hq ht
 have hT:∀u∈[Up.set q x.low],aR (.wr [gq q]) u.id=true:=fun u hu=>by rcases zF.1 hu with rfl;exact aL (o:=q) hq (.head _)
 have out:∀i,aR (.wr [gq q]) i=false→(hp { h with t:=t' }).ob i=(hp h).ob i∧((hp { h with t:=t' }).fr i↔(hp h).fr i):=fun i hi=>by
  rw [e];exact gX _ _ i (fun u hu hh=>by rw [hh,hT u hu] at hi;cases hi)
 exact ⟨⟨out,fun i hi=>out i (xH hi)⟩,fun S hA=>by rw [e,lY hT hA];rfl⟩
theorem FV {h:H} {q:Nat} {t':Tr jM} (hq:q<16777216) (ht:t'.get=fun m=>if m=q then none else h.t.get m):tu h { h with t:=t' } (.wr [gq q])∧∀S,bO (.wr [gq q]) (hp h) S→mb (.wr [gq q]) (hp { h with t:=t' }) S=S.del q:=by
 have e:hp { h with t:=t' }=app [.del q] (hp h):=Hp.ext' (fun i=>by
  show (if i<dO then iG t' i else _)=if i=q then none else (if i<dO then iG h.t i else _)
  unfold iG
  rw [ht]
  by_cases hi:i=q
  ·subst hi;rw [if_pos (show i<dO from hq),if_pos rfl];simp
  ·simp only [if_neg hi]) (fun i=>Iff.rfl)
 have hT:∀u∈[Up.del q],aR (.wr [gq q]) u.id=true:=fun u hu=>by rcases zF.1 hu with rfl;exact aL (o:=q) hq (.head _)
 have out:∀i,aR (.wr [gq q]) i=false→(hp { h with t:=t' }).ob i=(hp h).ob i∧((hp { h with t:=t' }).fr i↔(hp h).fr i):=fun i hi=>by
  rw [e];exact gX _ _ i (fun u hu hh=>by rw [hh,hT u hu] at hi;cases hi)
 exact ⟨⟨out,fun i hi=>out i (xH hi)⟩,fun S hA=>by rw [e,lY hT hA];rfl⟩
theorem E_ {h:H} {x:jM} {t':Tr jM} (hq:h.bI<16777216) (ht:t'.get=fun m=>if m=h.bI then some x else h.t.get m):tu h { h with t:=t',bI:=h.bI+1 } (.wr [gq h.bI])∧∀S,bO (.wr [gq h.bI]) (hp h) S→mb (.wr [gq h.bI]) (hp { h with t:=t',bI:=h.bI+1 }) S=S.new h.bI x.low:=by
 have e:=J_ (h:=h) (x:=x) hq ht
 have hT:∀u∈[Up.new h.bI x.low],aR (.wr [gq h.bI]) u.id=true:=fun u hu=>by rcases zF.1 hu with rfl;exact aL (o:=h.bI) hq (.head _)
 have out:∀i,aR (.wr [gq h.bI]) i=false→(hp { h with t:=t',bI:=h.bI+1 }).ob i=(hp h).ob i∧((hp { h with t:=t',bI:=h.bI+1 }).fr i↔(hp h).fr i):=fun i hi=>by
  rw [e];exact gX _ _ i (fun u hu hh=>by rw [hh,hT u hu] at hi;cases hi)
 exact ⟨⟨out,fun i hi=>out i (xH hi)⟩,fun S hA=>by rw [e,lY hT hA];rfl⟩
theorem RU {h:H} {q:Nat} {x:jM} (hq:q<16777216) (hx:h.t.get q=some x):(hp h).ob q=some x.low:=by
 show (if q<dO then _ else _)=_
 rw [if_pos (show q<dO from hq)];unfold iG;rw [hx]
theorem Ga {h:H} {q:Nat} {S:Hp} {x:jM} {l:List Nat} {w:Bool} {s:List Nat} (hq:q<16777216) (hx:h.t.get q=some x) (hA:bO ⟨false,l,w,s⟩ (hp h) S) (hm:gq q∈l):S.ob q=some x.low:=(hA q (aL hq hm)).1.trans (RU hq hx)
def JT:Option Code→Option Exit
 | none=>some .normal
 | some .ret=>some .ret
 | some (.exit id)=>some (.exit id)
 | _=>none
def Se:LoopState→Bool
 | .busy=>true
 | _=>false
def YI:Exit→Option (Option Code)
 | .normal=>some none
 | .ret=>some (some .ret)
 | .exit id=>some (some (.exit id))
 | _=>none
def II:Option Code→LoopState
 | none=>.ready
 | some _=>.done
theorem JS {pe:Option Code} {e:Exit} (h:JT pe=some e):(pe=none∧e = .normal)∨(pe=some .ret∧e = .ret)∨∃id,pe=some (.exit id)∧e = .exit id:=by
 unfold JT at h
 split at h
 ·cases h;exact .inl ⟨rfl,rfl⟩
 ·cases h;exact .inr (.inl ⟨rfl,rfl⟩)
 ·cases h;exact .inr (.inr ⟨_,rfl,rfl⟩)
 ·cases h
def Di:Tr A→List Tmp→List A→(Tr A→Option β)→Option β
 | F,[],[],k=>k F
 | F,t::ts,a::aa,k=>ir F t (some a) (fun F=>Di F ts aa k)
 | _,_,_,_=>none
theorem xR {r:β}:∀(ps:List Tmp) (aa:List A) (F:Tr A) (k:Tr A→Option β),Di F ps aa k=some r→∃F1,k F1=some r∧aa.length=ps.length∧∀(g:G) (n:Nat) (vs:List Value) (tmps:Array Value),aa.length=vs.length→(∀(i:Nat) (p:A) (v:Value),aa[i]?=some p→vs[i]?=some v→V g p v)→tmps.size=n→(∀i,i<n→V g (ch F.get i) (tmps.getD i undef)) →
  ((ps.zip vs).foldl (fun tmps x=>tmps.setIfInBounds x.1 x.2) tmps).size=n∧∀i,i<n→V g (ch F1.get i) (((ps.zip vs).foldl (fun tmps x=>tmps.setIfInBounds x.1 x.2) tmps).getD i undef)
 | [],[],F,k,h=>⟨F,h,rfl,fun g n vs tmps hl hv hs hF=>⟨by simpa using hs,by simpa using hF⟩⟩
 | t::ts,a::aa,F,k,h=>by
  obtain ⟨_,F',k1,k2⟩:=cz h
  obtain ⟨F1,q1,q2,q3⟩:=xR ts aa F' k k1
  refine ⟨F1,q1,by simp [q2],fun g n vs tmps hl hv hs hF=>?_⟩
  cases vs with
  | nil=>simp at hl
  | cons v vs=>
   refine q3 g n vs (tmps.setIfInBounds t v) (by simpa using hl) (fun i p v k1 k2=>hv (i+1) p v (by simpa using k1) (by simpa using k2)) (by simpa using hs) (fun i hi=>?_)
   rw [rS k2]
   by_cases hit:i=t
   ·subst hit
    rw [if_pos rfl,show (tmps.setIfInBounds i v).getD i undef=v by simp [Array.getD,show i<tmps.size by omega]]
    exact hv 0 a v rfl rfl
   ·rw [if_neg hit,show (tmps.setIfInBounds t v).getD i undef=tmps.getD i undef by
     simp only [Array.getD_eq_getD_getElem?]
     rw [Array.getElem?_setIfInBounds_ne (fun h=>hit h.symm)]]
    exact hF i hi
 | [],_::_,_,_,h=>by cases h
 | _::_,[],_,_,h=>by cases h
theorem Y7 {g:G} {fi ca:List A} {x:A} {fv cv:List Value} {v:Value} (hf:fi.length=fv.length) (h1:∀(i:Nat) (c:A) (x:Value),fi[i]?=some c→fv[i]?=some x→V g c x) (hx:V g x v) (h2:∀(i:Nat) (c:A) (x:Value),ca[i]?=some c→cv[i]?=some x→V g c x) :
  ∀(i:Nat) (p:A) (u:Value),(fi++x::ca)[i]?=some p→(fv++v::cv)[i]?=some u→V g p u:=by
 intro i p u k1 k2
 rcases Nat.lt_trichotomy i fi.length with c1 | c1 | c1
 ·rw [zK c1] at k1
  rw [zK (by omega)] at k2
  exact h1 i p u k1 k2
 ·rw [zJ (by omega)] at k1 k2
  rw [c1,Nat.sub_self] at k1
  rw [c1,hf,Nat.sub_self] at k2
  simp at k1 k2;subst k1 k2;exact hx
 ·rw [zJ (by omega)] at k1 k2
  rw [←hf] at k2
  obtain ⟨d,hd⟩:∃d,i-fi.length=d+1:=⟨i-fi.length-1,by omega⟩
  rw [hd] at k1 k2
  exact h2 d p u (by simpa using k1) (by simpa using k2)
end
end
section
open Go.RowKit
section
variable {P:Program} {E:Env} {cx:Cx} {n:Nat} {β:Type} {r:β}
abbrev KC (β:Type):=Exit→Tr A→H→List Nat→Fp→Option β
def Rp (K1:Tr A→H→List Nat→Fp→Option β) (K:KC β):KC β:=fun e F h ds U=>match e with
 | .normal=>K1 F h ds U
 | e=>K e F h ds U
def ahL (id:Nat) (K:KC β):KC β:=fun e F h ds U=>match e with
 | .exit i=>bif Nat.beq i id then K .normal F h ds U else K (.exit i) F h ds U
 | e=>K e F h ds U
def Te (n:Nat) (F:Tr A) (c:Operand) (k:Tr A→Bool→Option β):Option β:=match c with
 | .tmp d=>match E6 n F (.tmp d) with
  | .v (.bool b)=>br b (ir F d (some (.v (.bool true))) (fun F'=>k F' true)) (ir F d (some (.v (.bool false))) (fun F'=>k F' false))
  | _=>none
 | .const (.bool b)=>k F b
 | _=>none
theorem N7 {F:Tr A} {c:Operand} {k:Tr A→Bool→Option β} (h:Te n F c k=some r):∃F' b,k F' b=some r∧(∀ds S,jX n F' ds S=jX n F ds S)∧E6 n F c = .v (.bool b):=by
 unfold Te at h
 split at h
 ·rename_i d
  split at h
  ·rename_i b hb
   have same:∀(F':Tr A) (c:Bool),b=c→F'.get=(fun m=>if m=d then some (.v (.bool c)) else F.get m)→∀ds S,jX n F' ds S=jX n F ds S:=fun F' c hc e ds S=>by
    have:ch F'.get=ch F.get:=by
     funext i
     by_cases hi:i=d
     ·subst hi
      rw [E5 hb (by intro h;cases h),hc]
      unfold ch
      rw [e];simp
     ·unfold ch
      rw [e];simp [hi]
    unfold jX
    rw [this]
   rcases t_ h with ⟨rfl,h1⟩ | ⟨rfl,h1⟩
   ·obtain ⟨_,F',k1,k2⟩:=cz h1
    exact ⟨F',true,k1,same F' true rfl k2,hb⟩
   ·obtain ⟨_,F',k1,k2⟩:=cz h1
    exact ⟨F',false,k1,same F' false rfl k2,hb⟩
  ·cases h
 ·rename_i b
  exact ⟨F,b,h,fun ds S=>rfl,rfl⟩
 ·cases h
def pT:aB→List Nat
 | .region _ ops _=>xE ops
 | .seq x y=>pT x++pT y
 | .cut H x y=>(pT x++(H.qT.map (·.1)++H.grow.map (·.1)))++pT y
 | .cond _ x y=>pT x++pT y
 | .block _ x=>pT x
 | .loop H x=>pT x++(H.qT.map (·.1)++H.grow.map (·.1))
 | _=>[]
def DJ {σ:Type} (pj:Tr A→H→List Nat→Fp→Option σ) (k:σ→Option β) (K:KC β):KC β:=fun e F h ds T=>match e with
 | .normal=>(match pj F h ds T with
  | some s=>k s
  | none=>none)
 | e=>K e F h ds T
def HI (U:Fp) (K:KC β):KC β:=fun e F h ds T=>K e F h ds (U.cat T)
abbrev UH (β:Type):=Nat→List Oper→Tr A→H→Fp→(Tr A→H→Fp→Option β)→Option β
def EG (J:LH):Option Nat:=match J.loops with
 | [k]=>bif Nat.ble 1000000 k then some (k-1000000) else none
 | _=>none
def yv (E:Env) (cx:Cx) (inr:Bool) (n:Nat) (dr:UH β):aB→Tr A→H→List Nat→Fp→KC β→Option β
 | .skip,F,h,ds,U,K=>K .normal F h ds U
 | .ret,F,h,ds,U,K=>K .ret F h ds U
 | .exit id,F,h,ds,U,K=>K (.exit id) F h ds U
 | .bad _,_,_,_,_,_=>none
 | .region id ops d,F,h,ds,U,K=>bif d then dr id ops F h U (fun F h U=>K .normal F h ds U) else Dt E cx n ops ops F h U (fun F h U=>K .normal F h ds U)
 | .seq x y,F,h,ds,U,K=>yv E cx inr n dr x F h ds U (Rp (fun F h ds U=>yv E cx inr n dr y F h ds U K) K)
 | .cut J x y,F,h,ds,U,K=>match N2 J F h with
  | some e=>bif FQ J e ds F h then
    jn (fun k=>yv E cx inr n dr x F h ds .no (DJ (HR J n h.bI e.bs e.cs e.qs e.fh ds) k (HI U K)))
     (fun s=>Hd J (pT x++(J.qT.map (·.1)++J.grow.map (·.1))) e.bs e.cs e.fh F h s (fun Fc hc=>yv E cx inr n dr y Fc hc ds .no (HI (U.cat (jT J h.bI e)) K)))
   else none
  | none=>none
 | .cond c x y,F,h,ds,U,K=>Te n F c (fun F b=>bif b then yv E cx inr n dr x F h ds U K else yv E cx inr n dr y F h ds U K)
 | .block id x,F,h,ds,U,K=>yv E cx inr n dr x F h ds U (ahL id K)
 | .loop J x,F,h,ds,U,K=>match EG J with
  | some m=>Nat.rec (motive:=fun _=>Tr A→H→List Nat→Fp→Option β) (fun _ _ _ _=>none) (fun _ ih F h ds U=>yv E cx inr n dr x F h ds U (Rp ih K)) m F h ds U
  | none=>match N2 J F h with
  | some e=>bif FQ J e ds F h then (match HR J n h.bI e.bs e.cs e.qs e.fh ds F h ds .no with
   | some s0=>loop (fun k s=>Hd J (pT x++(J.qT.map (·.1)++J.grow.map (·.1))) e.bs e.cs e.fh F h s (fun Fc hc=>yv E cx inr n dr x Fc hc ds .no (DJ (HR J n h.bI e.bs e.cs e.qs e.fh ds) k (HI (U.cat (jT J h.bI e)) K)))) s0
   | none=>none) else none
  | none=>none
 | .range g ps J aa bd,F,h,ds,U,K=>bif inr then none else match E6 n F g with
  | .fn f fi ca=>bif Nat.blt h.bI 16777214 then ir h.t h.bI (some (.eL .FU)) (fun t1=>ir t1 (h.bI+1) (some (.eL (.loop .ready none))) (fun t2=>cx.call β f (fi ++ .wY (h.bI+1) n F ps J aa bd::ca) { h with t:=t2,bI:=h.bI+1+1 } (fun _ h3 T3=>match h3.t.get (h.bI+1) with
   | some (.eL (.loop st pe))=>bif Se st then none else ir h3.t (h.bI+1) none (fun t4=>match JT pe with
    | some e=>K e F { h3 with t:=t4 } (h.bI::ds) (U.cat (((Fp.wr [gq h.bI]).cat (.wr [gq (h.bI+1)])).cat (T3.cat (.wr [gq (h.bI+1)]))))
    | none=>none)
   | _=>none))) else none
  | _=>none
def Ov (P:Program) (inr:Bool) (n:Nat) (c:Code) (F:Tr A) (h:H) (ds:List Nat) (e:Exit) (F':Tr A) (h':H) (nQ:List Nat) (T:Fp):Prop:=
 tu h h' T∧∀ro,(inr=false→ro=none)→∀S0 g0 w0,Lz F h F' h' n T (fun Q st=>pw P ro S0 g0 w0 c Q st) e ds nQ
def LC (P:Program) (n:Nat) (dr:UH β):Prop:=
 ∀id ops F h U K (r:β),dr id ops F h U K=some r→∃F' h' T,K F' h' (U.cat T)=some r∧Kp (xE ops) F F'∧∀inr ds,Ov P inr n (.region id ops.toArray true) F h ds .normal F' h' ds T
theorem all_eq {S S2:Hp} {l m:List Nat} {w:Bool} (h:bO ⟨true,l,w,m⟩ S S2):S2=S:=Hp.ext' (fun i=>(h i rfl).1) (fun i=>(h i rfl).2)
theorem E1 {S S2:Hp} {l m:List Nat} {w:Bool}:mb ⟨true,l,w,m⟩ S S2=S:=Hp.ext' (fun i=>by
 show (if aR ⟨true,l,w,m⟩ i=true then S.ob i else S2.ob i)=S.ob i
 rw [if_pos (show aR ⟨true,l,w,m⟩ i=true from rfl)]) (fun i=>by
 show (if aR ⟨true,l,w,m⟩ i=true then S.fr i else S2.fr i)↔S.fr i
 rw [if_pos (show aR ⟨true,l,w,m⟩ i=true from rfl)])
theorem JV (J:LH) (N:Nat) (e:L8) (T:Fp):∃l m w,(jT J N e).cat T=⟨true,l,w,m⟩:=⟨_,_,_,rfl⟩
theorem R.entry {n:Nat} {F:Tr A} {h:H} {ds:List Nat} {S0:Hp} {g0:G} {w0 w:World} {a:Act} (hR:R S0 g0 w0 (jX n F ds (hp h)) a w):(∀i,h.bI≤i→i<dO→iG h.t i=none)∧∀o,h.bI≤o→o<dO→S0.fr o∧g0.ck o=none:=by
 obtain ⟨g,hI,hE,_⟩:=hR
 have hI:Inv g (hp h) w:=hI
 have hE:Ext S0 g0 w0 (hp h) g w:=hE
 have fr:∀o,h.bI≤o→o<dO→(hp h).fr o:=fun o h1 h2=>by show (if o<dO then _ else _);rw [if_pos h2];exact h1
 refine ⟨fun i h1 h2=>?_,fun o h1 h2=>⟨hE.fr o (fr o h1 h2),?_⟩⟩
 ·cases hx:iG h.t i with
  | none=>rfl
  | some x=>
   have fN:(hp h).ob i=some x:=by show (if i<dO then _ else _)=_;rw [if_pos h2];exact hx
   have cV:=hI.fresh i (fr i h1 h2)
   cases x with
   | cells cs=>
    rcases hI.cells i cs fN with ⟨k,_⟩ | ⟨b,t,k,_⟩
    ·rw [cV] at k;cases k
    ·rw [cV] at k;cases k
   | eL x=>
    obtain ⟨b,s,ob,k,_⟩:=hI.eL i x fN
    rw [cV] at k;cases k
 ·have cV:=hI.fresh o (fr o h1 h2)
  cases hx:g0.ck o with
  | none=>rfl
  | some p=>rw [hE.le.ck o p hx] at cV;cases cV
section
variable {J:LH} {nS ds:List Nat} {En:L8} {F:Tr A} {h:H}
theorem DT {s:J.S} {Fc:Tr A} {hc:H} (k:tb J nS En F h s Fc hc) (hv:∀i,i∈J.qT.map (·.1)++J.grow.map (·.1)→i∈nS):Kp nS F Fc:=by
 have aV:∀(l:List (Nat×Bool×Ty)) (x:mE (l.map (·.2))),(∀i∈l.map (·.1),i∈nS)→Ll (fun i c=>i∉nS→c=ch F.get i) l x:=fun l=>by
  induction l with
  | nil=>exact fun _ _=>trivial
  | cons p l ih=>exact fun x hh=>⟨fun hn=>absurd (hh p.1 (.head _)) hn,ih x.2 (fun i hi=>hh i (.tail _ hi))⟩
 have aW:∀(l:List (Nat×Ty)) (j:Nat),(∀i∈l.map (·.1),i∈nS)→Lk (fun i c=>i∉nS→c=ch F.get i) l j:=fun l=>by
  induction l with
  | nil=>exact fun _ _=>trivial
  | cons p l ih=>exact fun j hh=>⟨fun hn=>absurd (hh p.1 (.head _)) hn,ih (j+1) (fun i hi=>hh i (.tail _ hi))⟩
 exact k.F (fun i c=>i∉nS→c=ch F.get i) (fun i h1 h2=>absurd h1 h2) (fun i _ _=>rfl) (aV _ _ (fun i hi=>hv i (zQ _ hi))) (aW _ _ (fun i hi=>hv i (zS _ hi)))
theorem Y5 {n:Nat} {s s':J.S} {Fc UF F1:Tr A} {hc HZ h1:H} {pN:List Nat} {T1:Fp} (E:wW J En ds F h) (k:tb J nS En F h s Fc hc) (k':tb J nS En F h s' UF HZ) (hv:∀i,i∈J.qT.map (·.1)++J.grow.map (·.1)→i∈nS)
  (hkp:Kp nS Fc F1) (mz:tu hc h1 T1) (Nr:HR J n h.bI En.bs En.cs En.qs En.fh ds F1 h1 pN T1=some s') {S0:Hp} {g0:G} {w0 w:World} {a:Act} (sJ:∀i,h.bI≤i→i<dO→iG h.t i=none) (hf:∀o,h.bI≤o→o<dO→S0.fr o∧g0.ck o=none)
  (hR:R S0 g0 w0 (jX n F1 pN (hp h1)) a w):R S0 g0 w0 (jX n UF ds (hp HZ)) a w:=by
 obtain ⟨j1,j2,_⟩:=vY E k
 have hw:=Nr
 unfold HR at hw
 obtain ⟨FB,_⟩:=ae hw
 rw [zC,zC] at FB
 have aev:=E.top
 exact Qm E sJ (fun i hi=>(hkp i hi).trans (DT k hv i hi)) (fun i hi hn=>(mz.rd i (Cz FB.1.1 (by omega) hi hn)).1.trans (j1 i hi (fun h=>hn (by
   rcases zX.1 h with h | h
   ·exact zQ _ h
   ·exact zS _ (zQ _ h)))))
  (fun i hl hk=>by
   have e1:=mz.rd i (Cy FB.1.1 hl hk)
   have e2:=j2 i hl hk
   exact ⟨e1.1.trans e2.1,e1.2.trans e2.2⟩) Nr k' hf hR
theorem QR {n:Nat} {s':J.S} {UF F1:Tr A} {HZ h1:H} {pN:List Nat} {T1:Fp} (E:wW J En ds F h) (k':tb J nS En F h s' UF HZ)
  (hkp:Kp nS F F1) (mz:tu h h1 T1) (Nr:HR J n h.bI En.bs En.cs En.qs En.fh ds F1 h1 pN T1=some s') {S0:Hp} {g0:G} {w0 w:World} {a:Act} (sJ:∀i,h.bI≤i→i<dO→iG h.t i=none) (hf:∀o,h.bI≤o→o<dO→S0.fr o∧g0.ck o=none)
  (hR:R S0 g0 w0 (jX n F1 pN (hp h1)) a w):R S0 g0 w0 (jX n UF ds (hp HZ)) a w:=by
 have hw:=Nr
 unfold HR at hw
 obtain ⟨FB,_⟩:=ae hw
 rw [zC,zC] at FB
 have aev:=E.top
 exact Qm E sJ (fun i hi=>hkp i hi) (fun i hi hn=>(mz.rd i (Cz FB.1.1 (by omega) hi hn)).1) (fun i hl hk=>mz.rd i (Cy FB.1.1 hl hk)) Nr k' hf hR
theorem J1 {s:J.S} {Fc:Tr A} {hc:H} (E:wW J En ds F h) (k:tb J nS En F h s Fc hc):tu h hc (jT J h.bI En):=⟨fun i hi=>(by cases hi),(vY E k).2.2⟩
theorem BP {σ:Type} {pj:Tr A→H→List Nat→Fp→Option σ} {k:σ→Option β} {K:KC β} {e:Exit} {T:Fp} (hr:DJ pj k K e F h ds T=some r):(e = .normal∧∃s,pj F h ds T=some s∧k s=some r)∨(e≠.normal∧K e F h ds T=some r):=by
 unfold DJ at hr
 split at hr
 ·split at hr
  ·rename_i s hs;exact .inl ⟨rfl,s,hs,hr⟩
  ·cases hr
 ·rename_i jB;exact .inr ⟨jB,hr⟩
theorem Fg {inr:Bool} {n:Nat} {x:aB} {dr:UH β} {E:Env} {cx:Cx} {K:KC β} {U:Fp} (hx:∀(F:Tr A) (h:H) (ds:List Nat) (U:Fp) (K:KC β),yv E cx inr n dr x F h ds U K=some r→∃e F' h' nQ T,K e F' h' nQ (U.cat T)=some r∧Kp (pT x) F F'∧Ov P inr n x.code F h ds e F' h' nQ T)
  (EO:wW J En ds F h) (hv:∀i,i∈J.qT.map (·.1)++J.grow.map (·.1)→i∈nS) (ha:∀i,i∈pT x→i∈nS):∀(m:Nat) (s:J.S),iter (fun k s=>Hd J nS En.bs En.cs En.fh F h s (fun Fc hc=>yv E cx inr n dr x Fc hc ds .no (DJ (HR J n h.bI En.bs En.cs En.qs En.fh ds) k (HI (U.cat (jT J h.bI En)) K)))) m s=some r →
  ∃Fc hc,tb J nS En F h s Fc hc∧∃e F' h' nQ T,K e F' h' nQ (U.cat ((jT J h.bI En).cat T))=some r∧Kp nS F F'∧tu h h' ((jT J h.bI En).cat T) ∧
   ∀ro,(inr=false→ro=none)→∀S0 g0 w0,(∀i,h.bI≤i→i<dO→iG h.t i=none)→(∀o,h.bI≤o→o<dO→S0.fr o∧g0.ck o=none)→∀Q:Exit→St→Prop,Q e (jX n F' nQ (hp h'))→∀a w,R S0 g0 w0 (jX n Fc ds (hp hc)) a w→Code.roundsIn (FR ro) 0 P x.code (lift S0 g0 w0 Q) m a w
 | 0,s,hr=>by cases hr
 | m+1,s,hr=>by
  obtain ⟨Fc,hc,k1,k2⟩:=BU (show Hd J nS En.bs En.cs En.fh F h s (fun Fc hc=>yv E cx inr n dr x Fc hc ds .no (DJ (HR J n h.bI En.bs En.cs En.qs En.fh ds) (iter (fun k s=>Hd J nS En.bs En.cs En.fh F h s (fun Fc hc=>yv E cx inr n dr x Fc hc ds .no (DJ (HR J n h.bI En.bs En.cs En.qs En.fh ds) k (HI (U.cat (jT J h.bI En)) K)))) m) (HI (U.cat (jT J h.bI En)) K)))=some r from hr)
  obtain ⟨e1,F1,h1,pN,T1,k3,k4,k5,k6⟩:=hx Fc hc ds .no _ k1
  rw [Fp.tL] at k3
  refine ⟨Fc,hc,k2,?_⟩
  rcases BP k3 with ⟨rfl,s',q1,q2⟩ | ⟨jB,q1⟩
  ·obtain ⟨UF,HZ,u1,e,F',h',nQ,T,u2,u3,u4,u5⟩:=Fg hx EO hv ha m s' q2
   refine ⟨e,F',h',nQ,T,u2,u3,u4,fun ro m6 S0 g0 w0 sJ hf Q hq a w hR=>?_⟩
   rw [roundsIn_succ]
   refine wpIn_mono (k6 ro m6 S0 g0 w0 (hp hc) bO.self (fun e st=>e = .normal∧st=jX n F1 pN (hp h1)) ⟨rfl,by rw [uZ k5]⟩ a w hR) ?_
   rintro e2 a2 w2 ⟨st,NG,rfl,rfl⟩
   exact u5 ro m6 S0 g0 w0 sJ hf Q hq a2 w2 (Y5 EO k2 u1 hv (k4.mono ha) k5 q1 sJ hf NG)
  ·refine ⟨e1,F1,h1,pN,T1,by rw [←Fp.nJ];exact q1,(DT k2 hv).trans k4 (fun i hi=>hi) ha,(J1 EO k2).trans k5,fun ro m6 S0 g0 w0 sJ hf Q hq a w hR=>?_⟩
   rw [roundsIn_succ]
   refine wpIn_mono (k6 ro m6 S0 g0 w0 (hp hc) bO.self (fun e st=>e=e1∧st=jX n F1 pN (hp h1)) ⟨rfl,by rw [uZ k5]⟩ a w hR) ?_
   rintro e2 a2 w2 ⟨st,NG,rfl,rfl⟩
   have hl:lift S0 g0 w0 Q e2 a2 w2:=⟨_,NG,hq⟩
   cases e2 with
   | normal=>exact absurd rfl jB
   | _=>exact hl
end
theorem Ij {inr:Bool} {n:Nat} {x:aB} {dr:UH β} {E:Env} {cx:Cx} {K:KC β} {r:β} (hx:∀(F:Tr A) (h:H) (ds:List Nat) (U:Fp) (K:KC β),yv E cx inr n dr x F h ds U K=some r→∃e F' h' nQ T,K e F' h' nQ (U.cat T)=some r∧Kp (pT x) F F'∧Ov P inr n x.code F h ds e F' h' nQ T) :
  ∀(m:Nat) (F:Tr A) (h:H) (ds:List Nat) (U:Fp),Nat.rec (motive:=fun _=>Tr A→H→List Nat→Fp→Option β) (fun _ _ _ _=>none) (fun _ ih F h ds U=>yv E cx inr n dr x F h ds U (Rp ih K)) m F h ds U=some r →
  ∃e F' h' nQ T,K e F' h' nQ (U.cat T)=some r∧Kp (pT x) F F'∧tu h h' T∧∀ro,(inr=false→ro=none)→∀S0 g0 w0 S2,bO T (hp h) S2→∀Q:Exit→St→Prop,Q e (jX n F' nQ (mb T (hp h') S2))→∀a w,R S0 g0 w0 (jX n F ds S2) a w→Code.roundsIn (FR ro) 0 P x.code (lift S0 g0 w0 Q) m a w
 | 0,F,h,ds,U,hr=>by cases hr
 | m+1,F,h,ds,U,hr=>by
  obtain ⟨e1,F1,h1,pN,T1,k1,kp,k2,k3⟩:=hx F h ds U _ hr
  by_cases jB:e1 = .normal
  ·subst jB
   obtain ⟨e,F2,h2,H5,T2,q1,qp,q2,q3⟩:=Ij hx m F1 h1 pN _ k1
   refine ⟨e,F2,h2,H5,T1.cat T2,by rw [←Fp.nJ];exact q1,kp.trans qp (fun i hi=>hi) (fun i hi=>hi),k2.trans q2,fun ro m6 S0 g0 w0 S2 hA Q hq a w hR=>?_⟩
   rw [roundsIn_succ]
   refine wpIn_mono (k3 ro m6 S0 g0 w0 S2 hA.left (fun e st=>e = .normal∧st=jX n F1 pN (mb T1 (hp h1) S2)) ⟨rfl,rfl⟩ a w hR) ?_
   rintro e2 a2 w2 ⟨st,NG,rfl,rfl⟩
   exact q3 ro m6 S0 g0 w0 _ (bO.right k2 hA) Q (by rw [jx q2];exact hq) a2 w2 NG
  ·have k4:K e1 F1 h1 pN (U.cat T1)=some r:=by
    cases e1 with
    | normal=>exact absurd rfl jB
    | _=>exact k1
   refine ⟨e1,F1,h1,pN,T1,k4,kp,k2,fun ro m6 S0 g0 w0 S2 hA Q hq a w hR=>?_⟩
   rw [roundsIn_succ]
   refine wpIn_mono (k3 ro m6 S0 g0 w0 S2 hA (fun e st=>e=e1∧st=jX n F1 pN (mb T1 (hp h1) S2)) ⟨rfl,rfl⟩ a w hR) ?_
   rintro e2 a2 w2 ⟨st,NG,rfl,rfl⟩
   have hl:lift S0 g0 w0 Q e2 a2 w2:=⟨_,NG,hq⟩
   cases e2 with
   | normal=>exact absurd rfl jB
   | _=>exact hl
theorem lU {inr:Bool} {dr:UH β} (hE:dq P E) (hx:nM P cx) (AL:LC P n dr):∀(c:aB) (F:Tr A) (h:H) (ds:List Nat) (U:Fp) (K:KC β),yv E cx inr n dr c F h ds U K=some r →
  ∃e F' h' nQ T,K e F' h' nQ (U.cat T)=some r∧Kp (pT c) F F'∧Ov P inr n c.code F h ds e F' h' nQ T
 | .skip,F,h,ds,U,K,hr=>⟨.normal,F,h,ds,.no,by rw [Fp.An];exact hr,.refl _ F,.refl h,fun ro m6 S0 g0 w0 S2 hA Q hq=>by rw [y6] at hq;exact MA hq⟩
 | .ret,F,h,ds,U,K,hr=>⟨.ret,F,h,ds,.no,by rw [Fp.An];exact hr,.refl _ F,.refl h,fun ro m6 S0 g0 w0 S2 hA Q hq=>by rw [y6] at hq;exact Rz hq⟩
 | .exit id,F,h,ds,U,K,hr=>⟨.exit id,F,h,ds,.no,by rw [Fp.An];exact hr,.refl _ F,.refl h,fun ro m6 S0 g0 w0 S2 hA Q hq=>by rw [y6] at hq;exact MB hq⟩
 | .bad _,F,h,ds,U,K,hr=>by cases hr
 | .region id ops d,F,h,ds,U,K,hr=>by
  cases d with
  | true=>
   obtain ⟨F',h',T,k1,kp,k2⟩:=AL id ops F h U _ r hr
   exact ⟨.normal,F',h',ds,T,k1,kp,k2 inr ds⟩
  | false=>
   obtain ⟨F',h',T,k1,kp,k2,k3⟩:=yQ hE hx ops F h U _ hr
   exact ⟨.normal,F',h',ds,T,k1,kp,k2,fun ro m6 S0 g0 w0 S2 hA Q hq=>GF (k3 ro S0 g0 w0 ds S2 hA Q hq)⟩
 | .seq x y,F,h,ds,U,K,hr=>by
  obtain ⟨e,F1,h1,pN,T1,k1,kp,k2,k3⟩:=lU hE hx AL x F h ds U _ hr
  cases e with
  | normal=>
   obtain ⟨e,F2,h2,H5,T2,q1,qp,q2,q3⟩:=lU hE hx AL y F1 h1 pN _ K k1
   refine ⟨e,F2,h2,H5,T1.cat T2,by rw [←Fp.nJ];exact q1,kp.trans qp (fun i hi=>zQ _ hi) (fun i hi=>zS _ hi),k2.trans q2,fun ro m6 S0 g0 w0 S2 hA Q hq=>?_⟩
   refine yX (k3 ro m6 S0 g0 w0 S2 hA.left _ ?_)
   refine q3 ro m6 S0 g0 w0 _ (bO.right k2 hA) Q ?_
   rw [jx q2];exact hq
  | _=>exact ⟨_,F1,h1,pN,T1,k1,kp.mono (fun i hi=>zQ _ hi),k2,fun ro m6 S0 g0 w0 S2 hA Q hq=>yX (k3 ro m6 S0 g0 w0 S2 hA _ hq)⟩
 | .cut J x y,F,h,ds,U,K,hr=>by
  have hr:(match N2 J F h with | some e=>_ | none=>none)=some r:=hr
  split at hr
  ·rename_i En ZG
   obtain ⟨ho,hr⟩:=ae hr
   have EO:=Cj ho
   have hv:∀i,i∈J.qT.map (·.1)++J.grow.map (·.1)→i∈pT x++(J.qT.map (·.1)++J.grow.map (·.1)):=fun i hi=>zS _ hi
   obtain ⟨e1,F1,h1,pN,T1,k1,kp,k2,k3⟩:=lU hE hx AL x F h ds .no _ (show yv E cx inr n dr x F h ds .no _=some r from (cP _ _).symm.trans hr)
   rw [Fp.tL] at k1
   rcases BP k1 with ⟨rfl,s,q1,q2⟩ | ⟨jB,q1⟩
   ·obtain ⟨Fc,hc,u1,u2⟩:=BU q2
    obtain ⟨e,F2,h2,H5,T2,u3,u4,u5,u6⟩:=lU hE hx AL y Fc hc ds .no _ u1
    rw [Fp.tL] at u3
    have u3:K e F2 h2 H5 ((U.cat (jT J h.bI En)).cat T2)=some r:=u3
    refine ⟨e,F2,h2,H5,(jT J h.bI En).cat T2,by rw [←Fp.nJ];exact u3,(DT u2 hv).trans u4 (fun i hi=>zQ _ hi) (fun i hi=>zS _ hi),(J1 EO u2).trans u5,fun ro m6 S0 g0 w0 S2 hA Q hq=>?_⟩
    obtain ⟨l,m,w,ej⟩:=JV J h.bI En T2
    rw [ej] at hA hq
    rw [E1] at hq
    rw [all_eq hA]
    intro a w hR
    obtain ⟨sJ,hf⟩:=hR.entry
    refine yX (k3 ro m6 S0 g0 w0 (hp h) bO.self _ ?_) a w hR
    rw [uZ k2]
    intro a1 w1 hR1
    refine u6 ro m6 S0 g0 w0 (hp hc) bO.self Q ?_ a1 w1 (QR EO u2 (kp.mono (fun i hi=>zQ _ hi)) k2 q1 sJ hf hR1)
    rw [uZ u5];exact hq
   ·refine ⟨e1,F1,h1,pN,T1,q1,kp.mono (fun i hi=>zQ _ (zQ _ hi)),k2,fun ro m6 S0 g0 w0 S2 hA Q hq=>yX (k3 ro m6 S0 g0 w0 S2 hA _ ?_)⟩
    cases e1 with
    | normal=>exact absurd rfl jB
    | _=>exact hq
  ·cases hr
 | .cond c x y,F,h,ds,U,K,hr=>by
  obtain ⟨F1,b,k1,k2,k3⟩:=N7 hr
  cases b with
  | true=>
   obtain ⟨e,F2,h2,H5,T2,q1,qp,q2,q3⟩:=lU hE hx AL x F1 h ds U K k1
   refine ⟨e,F2,h2,H5,T2,q1,(Kp.of (l:=[]) k2).trans qp (fun i hi=>by cases hi) (fun i hi=>zQ _ hi),q2,fun ro m6 S0 g0 w0 S2 hA Q hq=>?_⟩
   refine EX (b:=true) (by rw [←tK];exact k3) (fun _=>?_) (fun h=>by cases h)
   rw [←k2]
   exact q3 ro m6 S0 g0 w0 S2 hA Q hq
  | false=>
   obtain ⟨e,F2,h2,H5,T2,q1,qp,q2,q3⟩:=lU hE hx AL y F1 h ds U K k1
   refine ⟨e,F2,h2,H5,T2,q1,(Kp.of (l:=[]) k2).trans qp (fun i hi=>by cases hi) (fun i hi=>zS _ hi),q2,fun ro m6 S0 g0 w0 S2 hA Q hq=>?_⟩
   refine EX (b:=false) (by rw [←tK];exact k3) (fun h=>by cases h) (fun _=>?_)
   rw [←k2]
   exact q3 ro m6 S0 g0 w0 S2 hA Q hq
 | .block id x,F,h,ds,U,K,hr=>by
  obtain ⟨e,F1,h1,pN,T1,k1,kp,k2,k3⟩:=lU hE hx AL x F h ds U _ hr
  cases e with
  | exit i=>
   have kk:(bif Nat.beq i id then K .normal F1 h1 pN (U.cat T1) else K (.exit i) F1 h1 pN (U.cat T1))=some r:=k1
   cases hb:Nat.beq i id with
   | true=>
    rw [hb] at kk
    obtain rfl:=beq_eq hb
    refine ⟨.normal,F1,h1,pN,T1,kk,kp,k2,fun ro m6 S0 g0 w0 S2 hA Q hq=>vD (k3 ro m6 S0 g0 w0 S2 hA _ ?_)⟩
    show (if i=i then Q .normal _ else _)
    rw [if_pos rfl];exact hq
   | false=>
    rw [hb] at kk
    refine ⟨.exit i,F1,h1,pN,T1,kk,kp,k2,fun ro m6 S0 g0 w0 S2 hA Q hq=>vD (k3 ro m6 S0 g0 w0 S2 hA _ ?_)⟩
    show (if i=id then _ else Q (.exit i) _)
    rw [if_neg (fun e=>by rw [e,Nat.beq_refl] at hb;cases hb)];exact hq
  | _=>exact ⟨_,F1,h1,pN,T1,k1,kp,k2,fun ro m6 S0 g0 w0 S2 hA Q hq=>vD (k3 ro m6 S0 g0 w0 S2 hA _ hq)⟩
 | .loop J x,F,h,ds,U,K,hr=>by
  have hr:(match EG J with | some m=>_ | none=>(match N2 J F h with | some e=>_ | none=>none))=some r:=hr
  split at hr
  ·rename_i m _
   obtain ⟨e,F',h',nQ,T,u2,u3,u4,u5⟩:=Ij (P:=P) (fun F h ds U K hr=>lU hE hx AL x F h ds U K hr) m F h ds U hr
   exact ⟨e,F',h',nQ,T,u2,u3.mono (fun i hi=>zQ _ hi),u4,fun ro m6 S0 g0 w0 S2 hA Q hq a w hR=>wpIn_loop_rounds m (u5 ro m6 S0 g0 w0 S2 hA Q hq a w hR)⟩
  split at hr
  ·rename_i En ZG
   obtain ⟨ho,hr⟩:=ae hr
   split at hr
   ·rename_i s0 hs0
    have EO:=Cj ho
    have hv:∀i,i∈J.qT.map (·.1)++J.grow.map (·.1)→i∈pT x++(J.qT.map (·.1)++J.grow.map (·.1)):=fun i hi=>zS _ hi
    obtain ⟨Fc,hc,u1,e,F',h',nQ,T,u2,u3,u4,u5⟩:=Fg (P:=P) (fun F h ds U K hr=>lU hE hx AL x F h ds U K hr) EO hv (fun i hi=>zQ _ hi) lG s0 ((qj _ _).symm.trans hr)
    refine ⟨e,F',h',nQ,_,u2,u3,u4,fun ro m6 S0 g0 w0 S2 hA Q hq=>?_⟩
    obtain ⟨l,m,w,ej⟩:=JV J h.bI En T
    rw [ej] at hA hq
    rw [E1] at hq
    rw [all_eq hA]
    intro a w hR
    obtain ⟨sJ,hf⟩:=hR.entry
    exact wpIn_loop_rounds lG (u5 ro m6 S0 g0 w0 sJ hf Q hq a w (QR (T1:=.no) EO u1 (.refl _ F) (.refl h) hs0 sJ hf hR))
   ·cases hr
  ·cases hr
 | .range g ps J aa bd,F,h,ds,U,K,hr=>by
  have hr:(bif inr then none else _)=some r:=hr
  obtain ⟨aeX,hr⟩:=lN hr
  split at hr
  ·rename_i f fi ca hf
   obtain ⟨hn,hr⟩:=ae hr
   have hn:=bW hn
   obtain ⟨_,t1,hr,Nl⟩:=cz hr
   obtain ⟨_,t2,hr,ht2⟩:=cz hr
   obtain ⟨pv,h3,T3,hr,k2⟩:=hx.call β f _ _ _ r hr
   split at hr
   ·rename_i st pe h3q
    obtain ⟨hb,hr⟩:=lN hr
    obtain ⟨_,t4,hr,ht4⟩:=cz hr
    split at hr
    ·rename_i e hj
     obtain ⟨f1,v1⟩:=E_ (h:=h) (x:=.eL .FU) (by omega) Nl
     obtain ⟨f2,v2⟩:=E_ (h:={ h with t:=t1,bI:=h.bI+1 }) (x:=.eL (.loop .ready none)) (show h.bI+1<16777216 by omega) ht2
     have f3:tu { h with t:=t2,bI:=h.bI+1+1 } h3 T3:=⟨k2.out,k2.rd⟩
     obtain ⟨f4,v4⟩:=FV (h:=h3) (q:=h.bI+1) (by omega) ht4
     have f12:=f1.trans f2
     have f34:=f3.trans f4
     refine ⟨e,F,{ h3 with t:=t4 },h.bI::ds,_,hr,.refl _ F,f12.trans f34,fun ro m6 S0 g0 w0 S2 hA Q hq=>?_⟩
     obtain rfl:=m6 aeX
     have Ku:=hA.left
     have D5:=bO.right f12 hA
     rw [←jx f34,←jx f4] at hq
     rw [←jx f2] at D5 hq
     have A1:=Ku.left
     have A2:=bO.right f1 Ku
     have A3:=D5.left
     have A4:=bO.right f3 D5
     have NB:S2.fr h.bI:=(A1 h.bI (aL (o:=h.bI) (by omega) (.head _))).2.2 (by show (if h.bI<dO then h.bI≤h.bI else _);rw [if_pos (show h.bI<dO by unfold dO;omega)];exact Nat.le_refl _)
     have Zx:(mb (.wr [gq h.bI]) (hp { h with t:=t1,bI:=h.bI+1 }) S2).fr (h.bI+1):=(A2 (h.bI+1) (aL (o:=h.bI+1) (by omega) (.head _))).2.2 (by show (if h.bI+1<dO then h.bI+1≤h.bI+1 else _);rw [if_pos (show h.bI+1<dO by unfold dO;omega)];exact Nat.le_refl _)
     have BZ:=Ga (x:=.eL (.loop st pe)) (by omega) h3q A4 (.head _)
     rw [v2 _ A2] at A3 A4 BZ hq
     rw [v4 _ A4] at hq
     rw [v1 _ A1] at Zx A3 A4 BZ hq
     rintro a w ⟨gg,hI,Qz,hd,hs,hv⟩
     have hI:Inv gg S2 w:=hI
     have hs:a.tmps.size=n:=hs
     refine wpIn_rangeFunc (fun fn _=>?_)
     obtain ⟨i1,x1⟩:=hI.alloc (s:=(0,0)) NB (x:=.eL .FU) (ob:=.deferred (some [])) ⟨_,heap_alloc_new w _,rfl⟩
     have q1:=dK (g:=gg) (o:=h.bI) (p:=(some w.heap.size,(0,0)))
     generalize l5 gg h.bI (some w.heap.size,(0,0))=g1 at i1 x1 q1
     obtain ⟨rr,LQ⟩:∃rr:Loop,rr={ state:=.ready,pending:=none,fn,tmps:=a.tmps,params:=ps.toArray,assign:=aa.code,body:=bd.code,defers:=w.heap.size }:=⟨_,rfl⟩
     obtain ⟨g2,i2,x2,q2,l2⟩:=i1.Y1 Zx rr
     have qB:(w.alloc (.deferred (some []))).heap.size=w.heap.size+1:=Array.size_push _
     rw [qB] at q2 l2
     have hu:=CM (st:=jX n F ds S2) hs hv 0 g
     rw [←tK,hf] at hu
     generalize hev:a.eval g=u at hu
     cases hu with
     | fn _ _ _ fv cv Sw ZF h1 h2=>
     obtain ⟨w1,hw1⟩:∃w1,w1=(w.alloc (.deferred (some []))).alloc (.loop rr):=⟨_,rfl⟩
     rw [←hw1] at i2 x2
     rw [show rr.state = .ready by rw [LQ],show rr.pending=none by rw [LQ]] at i2 x2
     refine ⟨w.heap.size+1,[{ target:=.collected w.heap.size,args:=#[] }],w1,{ target:=.fn (.func f) cv,args:=fv ++ #[.func (.yield (w.heap.size+1)) #[] #[]] },w1,f,(fv.toList ++ .func (.yield (w.heap.size+1)) #[] #[]::cv.toList).toArray,w1,?_,?_,fun f' _=>trivial,?_,fun h=>by simp [FR,Fence.wide] at h,wM ?_⟩
     ·rw [hw1,LQ];exact run_enterLoop_outer fn a.tmps ps.toArray aa.code bd.code
     ·simp only [resolve,hev,Deferred.ofValue,Sem.run_pure]
      congr 3
      simp [Act.eval]
     ·have h2:=k2.fn.run ((fv.toList ++ .func (.yield (w.heap.size+1)) #[] #[]::cv.toList).toArray) w1
      simp only [invoke]
      rw [show fv ++ #[.func (.yield (w.heap.size+1)) #[] #[]]++cv=(fv.toList ++ .func (.yield (w.heap.size+1)) #[] #[]::cv.toList).toArray by apply Array.ext';simp]
      exact h2
     ·have hle:=x1.le.trans x2.le
      refine (k2.ok _ A3 g2 w1 (fv.toList ++ .func (.yield (w.heap.size+1)) #[] #[]::cv.toList) i2 (by simp [Sw,ZF]) (Y7 (by simp [Sw]) (fun i c x e1 e2=>(h1 i c x e1 (by simpa using e2)).mono hle)
       (.wY _ n F ps J aa bd _ _ _ q2 l2 (by rw [LQ];rfl) (by rw [LQ];rfl) (by rw [LQ];rfl) (by rw [LQ];exact hs) (fun i hi=>by rw [LQ];exact (hv i hi).mono hle)) (fun i c x e1 e2=>(h2 i c x e1 (by simpa using e2)).mono hle))).mono ?_
      rintro e1 w3 ⟨v,g3,rfl,_,i3,x3⟩
      obtain ⟨b3,s3,ob3,k1,tg,k3⟩:=i3.eL (h.bI+1) _ BZ
      have hb3:=x3.le.ck _ _ q2
      rw [k1] at hb3
      obtain ⟨rfl,rfl⟩:b3=w.heap.size+1∧s3=(0,0):=by simpa using hb3
      obtain ⟨r3,rfl,r1,r2⟩:=k3
      have D3:=run_endLoop (P:=P) tg (by rw [r1];intro hh;rw [hh] at hb;cases hb)
      obtain ⟨i4,x4⟩:=i3.Iv (Mh:=.exhausted) (RB:=r3.pending) BZ k1 tg
      have B3:∀(S:Hp) o ob,(S.del (h.bI+1)).ob o=some ob→(S.set (h.bI+1) (.eL (.loop .exhausted r3.pending))).ob o=some ob:=fun S o ob e=>by
       have e:(if o=h.bI+1 then none else S.ob o)=some ob:=e
       show (if o=h.bI+1 then _ else S.ob o)=some ob
       by_cases ho:o=h.bI+1
       ·rw [if_pos ho] at e;cases e
       ·rw [if_neg ho] at e;rw [if_neg ho];exact e
      have i4:=i4.less (B3 _) (fun _ e=>e)
      have x4:=x4.trans (Ext.less (B3 _) (fun _ e=>e))
      have DU:=((x1.trans (hw1▸x2)).trans x3).trans x4
      have hR:∀S5,Inv g3 S5 (w3.putObj (w.heap.size+1) (.loop { r3 with state:=.exhausted,pending:=r3.pending }))→Ext S2 gg w S5 g3 (w3.putObj (w.heap.size+1) (.loop { r3 with state:=.exhausted,pending:=r3.pending }))→R S0 g0 w0 (jX n F (h.bI::ds) S5) { a with defers:=[{ target:=.collected w.heap.size,args:=#[] }]++a.defers } (w3.putObj (w.heap.size+1) (.loop { r3 with state:=.exhausted,pending:=r3.pending })):=by
       intro S5 i4 DU
       refine ⟨g3,i4,Qz.trans DU,⟨by have:=hd.1;simp [jX] at this ⊢;exact this,fun i d el e1 e2=>?_⟩,hs,fun i hi=>(hv i hi).mono DU.le⟩
       cases i with
       | zero=>
        simp [jX] at e1 e2;subst e1 e2
        exact ⟨w.heap.size,(0,0),(x2.le.trans x3.le).ck _ _ q1,rfl⟩
       | succ i=>exact (hd.mono DU.le).2 i d el (by simpa [jX] using e1) (by simpa using e2)
      have hR:=hR _ i4 DU
      have D3:(Instr.endLoop (w.heap.size+1)).run P w3 = .ok r3.pending (w3.putObj (w.heap.size+1) (.loop { r3 with state:=.exhausted,pending:=r3.pending })):=D3
      generalize w3.putObj (w.heap.size+1) (.loop { r3 with state:=.exhausted,pending:=r3.pending })=w4 at hR D3
      refine ⟨r3.pending,_,D3,?_⟩
      rw [r2]
      rcases JS hj with ⟨h5,h6⟩ | ⟨h5,h6⟩ | ⟨id,h5,h6⟩
      ·rw [h6] at hq;rw [h5];exact ⟨_,hR,hq⟩
      ·rw [h6] at hq;rw [h5];exact wpIn_ret ⟨_,hR,hq⟩
      ·rw [h6] at hq;rw [h5];exact wpIn_exit ⟨_,hR,hq⟩
    ·cases hr
   ·cases hr
  ·cases hr
end
end
section
open Go.RowKit
abbrev UG:=(β:Type)→UH β
def F9:Nat→List A→Option (Tr A)
 | _,[]=>some .nil
 | i,p::ps=>match F9 (i+1) ps with
  | some F=>Uy p (fun p=>ir F i (some p) some)
  | none=>none
def Gs {β:Type} (E:Env) (n:Nat) (F:Tr A) (h:H):List ResultVar→(List A→List Nat→Option β)→Option β
 | [],k=>k [] []
 | .tmp i::r,k=>bif Nat.blt i n then Gs E n F h r (fun ps l=>k (ch F.get i::ps) l) else none
 | .cell a T::r,k=>bif Nat.blt a n then RY E T (ch F.get a) h (fun v _ T1=>Gs E n F h r (fun ps l=>k (v::ps) (T1.rs++l))) else none
def KV {β:Type}:Tr jM→List Nat→(Tr jM→Option β)→Option β
 | t,[],k=>k t
 | t,d::ds,k=>match t.get d with
  | some (.eL .FU)=>bif Nat.blt d 16777216 then ir t d none (fun t=>KV t ds k) else none
  | _=>none
def Qx:Exit→Bool
 | .normal=>true
 | .ret=>true
 | _=>false
abbrev FT:=Nat→Option (Func×aB)
structure bq (P:Program) (f:Nat) (fn:Func) (x:aB):Prop where
 ck:P.funcs[f]?=some fn
 body:fn.body=some x.code
 name : (fn.name == "runtime.NumGoroutine") = false
def ED (P:Program) (fns:FT):Prop:=∀f fn x,fns f=some (fn,x)→bq P f fn x
def fnK (E:Env) (fns:FT) (dr:Cx→Nat→UG) (cx:Cx) (β:Type) (f:FuncId) (aa:List A) (h:H) (K:A→H→Fp→Option β):Option β:=match fns f with
 | some (fn,x)=>match F9 0 aa with
  | some F=>bif Nat.ble aa.length fn.ntmps then yv E cx false fn.ntmps (dr cx fn.ntmps β) x F h [] .no (fun e F' h' ds U=>bif Qx e then KV h'.t ds (fun t'=>Gs E fn.ntmps F' { h' with t:=t' } fn.results.toList (fun ps l=>K (Ru ps) { h' with t:=t' } ((U.cat (.wr (ds.map gq))).cat (.rd l)))) else none) else none
  | none=>none
 | none=>none
def Rt (E:Env) (dr:Cx→Nat→UG) (cx:Cx) (β:Type) (y:A) (aa:List A) (h:H) (K:A→H→Fp→Option β):Option β:=match y with
 | .wY q n F ps _ nS bd=>match h.t.get q with
  | some (.eL (.loop .ready _))=>bif Nat.blt q 16777216 then Di F ps aa (fun F1=>yv E cx true n (dr cx n β) nS F1 h [] .no (fun e1 Fa ha pN T1=>match e1 with
   | .normal=>match ha.t.get q with
    | some (.eL (.loop .ready pe))=>ir ha.t q (some (.eL (.loop .busy pe))) (fun t2=>yv E cx true n (dr cx n β) bd Fa { ha with t:=t2 } pN .no (fun e2 _ hb _ T2=>match hb.t.get q,YI e2 with
     | some (.eL (.loop _ _)),some jump=>ir hb.t q (some (.eL (.loop (II jump) jump))) (fun t3=>K (.v (.bool jump.isNone)) { hb with t:=t3 } ((T1.cat (.wr [gq q])).cat (T2.cat (.wr [gq q]))))
     | _,_=>none))
    | _=>none
   | _=>none)) else none
  | _=>none
 | _=>none
def Dd (E:Env) (fns:FT) (dr:Cx→Nat→UG) (hm:List (Nat×Nat)) (cx:Cx):Cx:=⟨fnK E fns dr cx,hm,Rt E dr cx⟩
def H_ (hm:List (Nat×Nat)):Cx:=⟨fun _ _ _ _ _=>none,hm,fun _ _ _ _ _=>none⟩
section
variable {P:Program} {E:Env} {n:Nat}
theorem CJ:∀(aa:List A) (i:Nat) (F:Tr A),F9 i aa=some F→∀j,ch F.get j=if i≤j then aa.getD (j-i) .un else .un
 | [],i,F,h,j=>by
  cases h
  simp [ch,Tr.get_nil]
 | p::ps,i,F,h,j=>by
  simp only [F9] at h
  split at h
  ·rename_i F1 h1
   have ih:=CJ ps (i+1) F1 h1 j
   rw [Ep] at h
   obtain ⟨_,F2,hF,hg⟩:=cz h
   cases hF
   have e:ch F.get j=if j=i then p else ch F1.get j:=by
    simp only [ch,hg]
    by_cases hj:j=i
    ·rw [if_pos hj,if_pos hj]
    ·rw [if_neg hj,if_neg hj]
   rw [e,ih]
   by_cases hj:j=i
   ·subst hj;simp
   ·rw [if_neg hj]
    by_cases hk:i≤j
    ·rw [if_pos hk,if_pos (by omega),show j-i=(j-(i+1))+1 by omega,List.getD_cons_succ]
    ·rw [if_neg hk,if_neg (by omega)]
  ·cases h
theorem JF {P:Program} {T:Nat} {u v:Value} {ad:Addr} {w w':World} {a:Act} {o:Oper} (ho:o.op = .load T (.const u)) (hu:u = .pointer (some ad)) (h:(execOp a.eval o).run P w = .ok (.value v) w'):(loadVar T ad).run P w = .ok v w':=by
 simp only [execOp,ho,Act.eval,hu,Instr.loadAt,Instr.sureAddr,pure_bind] at h
 simp only [Sem.run_bind] at h
 generalize (loadVar T ad).run P w=res at h
 cases res with
 | ok x w1=>
  simp only [Result.andThen_ok,Sem.run_pure,Result.ok.injEq,Next.value.injEq] at h
  obtain ⟨rfl,rfl⟩:=h
  rfl
 | halt x w1=>cases h
theorem Nc {β:Type} {E:Env} {T:Nat} {px:A} {h:H} {K:A→H→Fp→Option β} {r:β} (hr:RY E T px h K=some r) {g:G} {u:Value} (hv:V g px u):∃ad,u = .pointer (some ad):=by
 unfold RY at hr
 split at hr
 ·split at hr
  ·cases hv;exact ⟨_,rfl⟩
  ·cases hv;exact ⟨_,rfl⟩
  ·cases hv;exact ⟨_,rfl⟩
  ·cases hr
 ·cases hr
theorem yP {β:Type} {r:β} (hE:dq P E) {F:Tr A} {h:H}:∀(TV:List ResultVar) (k:List A→List Nat→Option β),Gs E n F h TV k=some r →
  ∃ps l,k ps l=some r∧∀S2,bO (.rd l) (hp h) S2→∀(g:G) (w:World) (tmps:Array Value),Inv g S2 w→(∀i,i<n→V g (ch F.get i) (tmps.getD i undef)) →
   ∃vs:List Value,(TV.mapM (fun rv=>Bh rv tmps)).run P w = .ok vs w∧ps.length=vs.length∧∀(i:Nat) (p:A) (v:Value),ps[i]?=some p→vs[i]?=some v→V g p v
 | [],k,hk=>⟨[],[],hk,fun S2 _ g w tmps _ _=>⟨[],rfl,rfl,by simp⟩⟩
 | .tmp i::TV,k,hk=>by
  simp only [Gs] at hk
  obtain ⟨hi,hk⟩:=ae hk
  obtain ⟨ps,l,k1,k2⟩:=yP hE TV _ hk
  refine ⟨_,l,k1,fun S2 hA g w tmps hI hv=>?_⟩
  obtain ⟨vs,q1,q2,q3⟩:=k2 S2 hA g w tmps hI hv
  refine ⟨tmps.getD i undef::vs,?_,by simp [q2],fun k q x e1 e2=>?_⟩
  ·have:(Bh (.tmp i) tmps).run P w = .ok (tmps.getD i undef) w:=rfl
   rw [List.mapM_cons]
   simp only [Sem.run_bind,this,Result.andThen_ok]
   rw [q1]
   simp only [Result.andThen_ok,Sem.run_pure]
  ·cases k with
   | zero=>
    simp only [List.getElem?_cons_zero,zI] at e1 e2
    subst e1 e2
    exact hv i (bW hi)
   | succ k=>exact q3 k q x (by simpa using e1) (by simpa using e2)
 | .cell a T::TV,k,hk=>by
  simp only [Gs] at hk
  obtain ⟨hi,hk⟩:=ae hk
  obtain ⟨v,l1,k0,kv⟩:=JI hE hk
  obtain ⟨ps,l,k1,k2⟩:=yP hE TV _ k0
  refine ⟨_,_,k1,fun S2 hA g w tmps hI hv=>?_⟩
  have hA:bO (.rd (l1++l)) (hp h) S2:=hA
  obtain ⟨vs,q1,q2,q3⟩:=k2 S2 (hA.mono fun i hi=>zS _ hi) g w tmps hI hv
  have hva:=hv a (bW hi)
  obtain ⟨ad,had⟩:=Nc hk hva
  obtain ⟨x, u1, u2⟩ := kv S2 (hA.mono fun i hi => zQ _ hi) { dst := none, op := .load T (.const (tmps.getD a undef)), type := 0, pos := "", after := #[], guard := none } (fun _ => ch F.get a) (.const (tmps.getD a undef)) rfl rfl g w { tmps := #[], defers := [] } hI (fun y hy => by
   simp only [Op.operands,Array.mem_singleton] at hy
   subst hy;exact hva)
  have jb:(Bh (.cell a T) tmps).run P w = .ok x w:=by
   have:=JF rfl had u1
   show (do loadVar T (←asAddr (tmps.getD a undef)):Sem Value).run P w=_
   rw [had]
   exact this
  refine ⟨x::vs,?_,by simp [q2],fun k q y e1 e2=>?_⟩
  ·rw [List.mapM_cons]
   simp only [Sem.run_bind,jb,Result.andThen_ok]
   rw [q1]
   simp only [Result.andThen_ok,Sem.run_pure]
  ·cases k with
   | zero=>
    simp only [List.getElem?_cons_zero,zI] at e1 e2
    subst e1 e2
    exact u2
   | succ k=>exact q3 k q y (by simpa using e1) (by simpa using e2)
theorem Inv.drop {g:G} {S:Hp} {w:World} (h:Inv g S w) {d b:Nat} {s:Nat×Nat} (ho:S.ob d=some (.eL .FU)) (hg:g.ck d=some (some b,s)) :
  w.heap[b]?=some (.deferred (some []))∧Inv g (S.del d) (w.putObj b (.deferred none))∧Ext S g w (S.del d) g (w.putObj b (.deferred none)):=by
 obtain ⟨b1,s1,ob,k1,k2,k3⟩:=h.eL d _ ho
 rw [hg] at k1
 obtain ⟨rfl,rfl⟩:b=b1∧s=s1:=by simpa using k1
 have k3:ob = .deferred (some []):=k3
 subst k3
 have m5:∀{i x},(S.del d).ob i=some x→i≠d∧S.ob i=some x:=fun {i x} e=>by
  have e:(if i=d then none else S.ob i)=some x:=e
  split at e
  ·cases e
  ·exact ⟨by assumption,e⟩
 have Ka:∀k,k≠b→(w.putObj b (.deferred none)).heap[k]?=w.heap[k]?:=fun k jB=>World.putObj_heap_other jB
 refine ⟨k2,⟨fun i cs e=>?_,fun i x e=>?_,fun i e=>h.fresh i e,fun i b' s' e=>by rw [World.putObj_size];exact h.lt i b' s' e,fun i j x y b1 s1 s2 e1 e2=>h.inj i j _ _ b1 s1 s2 (m5 e1).2 (m5 e2).2,fun b' i x e=>?_,fun i b' s' j x e k=>h.pC i b' s' j _ (m5 e).2 k,fun b' l e=>?_⟩,
  ⟨.refl g,rfl,rfl,rfl,by rw [World.putObj_size];exact Nat.le_refl _,fun k _ hn=>Ka k (fun hh=>hn ⟨d,s,_,ho,by rw [hh];exact hg⟩),fun k ⟨i,s',x,e1,e2⟩=>.inl ⟨i,s',x,(m5 e1).2,e2⟩,fun _ _ e=>.inl e,fun _ e=>e,fun _ _ _ e=>.inl e,fun _ _ e=>.inl e⟩⟩
 ·obtain ⟨jB,e⟩:=m5 e
  refine (h.cells i cs e).imp id fun ⟨b1,t,q1,cur,ty,q2,q3⟩=>⟨b1,t,q1,cur,ty,?_,q3⟩
  rw [Ka b1 (fun hb=>by subst hb;rw [k2] at q2;cases q2)];exact q2
 ·obtain ⟨jB,e⟩:=m5 e
  obtain ⟨b1,s1,o1,q1,q2,q3⟩:=h.eL i x e
  exact ⟨b1,s1,o1,q1,by rw [Ka b1 (fun hb=>by subst hb;exact jB (h.inj i d _ _ b1 s1 s e ho q1 hg))];exact q2,q3⟩
 ·obtain ⟨cur,ty,fz,q1,q2⟩:=h.mem b' i x e
  exact ⟨cur,ty,fz,by rw [Ka b' (fun hb=>by subst hb;rw [k2] at q1;cases q1)];exact q1,q2⟩
 ·obtain ⟨r,q1,q2⟩:=h.lp b' l e
  exact ⟨r,by rw [Ka b' (fun hb=>by subst hb;rw [k2] at q1;cases q1)];exact q1,q2⟩
theorem Cl {β:Type} {r:β} {h:H}:∀(ds:List Nat) (t:Tr jM) (k:Tr jM→Option β),KV t ds k=some r→∃t',k t'=some r∧tu { h with t:=t } { h with t:=t' } (.wr (ds.map gq)) ∧
  ∀(fn:Func) (tmps:Array Value) (Rr:Ending→World→Prop) S2,bO (.wr (ds.map gq)) (hp { h with t:=t }) S2→∀(g:G) (w:World) (l:List Deferred),Inv g S2 w→tc g ds l →
   (∀w',Inv g (mb (.wr (ds.map gq)) (hp { h with t:=t' }) S2) w'→Ext S2 g w (mb (.wr (ds.map gq)) (hp { h with t:=t' }) S2) g w'→∃v,(results fn tmps).run P w' = .ok v w'∧Rr (.returned v) w')→LeavesInM (FR none) 0 P fn tmps Rr l .returning w
 | [],t,k,hk=>⟨t,hk,⟨fun _ _=>⟨rfl,Iff.rfl⟩,fun _ _=>⟨rfl,Iff.rfl⟩⟩,fun fn tmps Rr S2 hA g w l hI hd K=>by
  obtain rfl:l=[]:=List.length_eq_zero_iff.1 (by have:=hd.1;simpa using this.symm)
  have e:mb (.wr (List.map gq [])) (hp { h with t:=t }) S2=S2:=sf hA
  rw [e] at K
  exact K w hI (.refl _ g w)⟩
 | d::ds,t,k,hk=>by
  have hk:(match t.get d with | some (.eL .FU)=>_ | _=>none)=some r:=hk
  split at hk
  ·rename_i fN
   obtain ⟨hd0,hk⟩:=ae hk
   have hd0:=bW hd0
   obtain ⟨_,t1,k1,Nl⟩:=cz hk
   obtain ⟨t',q1,q2,q3⟩:=Cl (h:=h) ds t1 k k1
   obtain ⟨f1,v1⟩:=FV (h:={ h with t:=t }) hd0 Nl
   have ec:(Fp.wr [gq d]).cat (.wr (ds.map gq)) = .wr ((d::ds).map gq):=rfl
   have f1:tu { h with t:=t } { h with t:=t1 } (.wr [gq d]):=f1
   refine ⟨t',q1,ec▸f1.trans q2,fun fn tmps Rr S2 hA g w l hI hd K=>?_⟩
   rw [←ec] at hA K
   rw [←jx q2] at K
   have A1:=hA.left
   have A2:=bO.right f1 hA
   have v1:=v1 S2 A1
   have v1:mb (.wr [gq d]) (hp { h with t:=t1 }) S2=S2.del d:=v1
   rw [v1] at A2 K
   cases l with
   | nil=>have:=hd.1;simp at this
   | cons el l=>
    obtain ⟨b,s,hg,rfl⟩:=hd.2 0 d el rfl rfl
    obtain ⟨u1,u2,u3⟩:=hI.drop (Ga (x:=.eL .FU) hd0 fN A1 (.head _)) hg
    refine ⟨by simp,.inl ⟨b,_,rfl,run_takeDeferred u1,?_⟩⟩
    exact q3 fn tmps Rr _ A2 g _ l u2 ⟨by have:=hd.1;simpa using this,fun i d el e1 e2=>hd.2 (i+1) d el (by simpa using e1) (by simpa using e2)⟩ (fun w' z1 z2=>K w' z1 (u3.trans z2))
  ·cases hk
theorem SH (hE:dq P E) {fns:FT} (hF:ED P fns) {dr:Cx→Nat→UG} {cx:Cx} (hx:nM P cx) (AL:∀n β,LC P n (dr cx n β)) {β:Type} {f:FuncId} {aa:List A} {h:H} {K:A→H→Fp→Option β} {r:β} (hr:fnK E fns dr cx β f aa h K=some r) :
  ∃pv h' T,K pv h' T=some r∧Ge P f aa h h' T pv:=by
 unfold fnK at hr
 split at hr
 ·rename_i fn x hf
  have Nz:=hF f fn x hf
  split at hr
  ·rename_i F hFa
   obtain ⟨hn,hr⟩:=ae hr
   have hn:=Nat.le_of_ble_eq_true hn
   obtain ⟨e,F',h',nQ,T0,k1,_,k2,k3⟩:=lU hE hx (AL fn.ntmps β) x F h [] .no _ hr
   rw [Fp.tL] at k1
   obtain ⟨k4,k1⟩:=ae k1
   obtain ⟨t',k5,k6,k7⟩:=Cl (P:=P) (h:=h') nQ h'.t _ k1
   obtain ⟨ps,l,k8,k9⟩:=yP (P:=P) hE _ _ k5
   have f3:tu { h' with t:=t' } { h' with t:=t' } (.rd l):=⟨fun _ _=>⟨rfl,Iff.rfl⟩,fun _ _=>⟨rfl,Iff.rfl⟩⟩
   have f12:tu h { h' with t:=t' } (T0.cat (.wr (nQ.map gq))):=k2.trans k6
   refine ⟨_,_,_,k8,(f12.trans f3).out,(f12.trans f3).rd,⟨fn,Nz.ck,Nz.name,by rw [Nz.body];rfl⟩,fun S2 hA g w vs hI hl hv=>?_⟩
   have A1:=hA.left.left
   have A2:bO (.wr (nQ.map gq)) (hp h') _:=bO.right k2 hA.left
   have A3:=bO.right f12 hA
   rw [←jx f3,sf A3,←jx k6]
   rw [←jx k6] at A3
   have d:=k3 none (fun _=>rfl) S2 g w S2 A1 (fun e1 st=>e1=e∧st=jX fn.ntmps F' nQ (mb T0 (hp h') S2)) ⟨rfl,rfl⟩
   refine (callsIn_wide (n:=0)).1 (callsIn_of_wp_marks (F:=FR none) Nz.ck Nz.body trivial ?_)
   have qB:(vs.toArray++Array.replicate (fn.ntmps-vs.toArray.size) undef).size=fn.ntmps:=by simp;omega
   have hR0:R S2 g w (jX fn.ntmps F [] S2) { tmps:=vs.toArray++Array.replicate (fn.ntmps-vs.toArray.size) undef,defers:=[] } w:=by
    refine ⟨g,hI,.refl _ g w,⟨rfl,fun i d el e1=>by simp [jX] at e1⟩,qB,fun i hi=>?_⟩
    show V g (ch F.get i) ((vs.toArray++Array.replicate (fn.ntmps-vs.toArray.size) undef).getD i undef)
    rw [CJ aa 0 F hFa i,if_pos (Nat.zero_le i),Nat.sub_zero,Array.getD_eq_getD_getElem?]
    by_cases hia:i<aa.length
    ·rw [Array.getElem?_append_left (by simp;omega)]
     have h1:aa[i]?=some aa[i]:=zD hia
     have h2 : vs[i]? = some (vs[i]'(by omega)) := zD (by omega)
     have:=hv i _ _ h1 h2
     simpa [List.getD,h1,h2] using this
    ·rw [Array.getElem?_append_right (by simp;omega)]
     have h1:aa[i]?=none:=zb (by omega)
     have h2:(Array.replicate (fn.ntmps-vs.toArray.size) undef)[i-vs.toArray.size]?.getD undef=undef:=by
      cases hx:(Array.replicate (fn.ntmps-vs.toArray.size) undef)[i-vs.toArray.size]? with
      | none=>rfl
      | some x=>
       obtain ⟨eh,sE⟩:=Array.getElem?_eq_some_iff.1 hx
       rw [←sE];simp
     rw [h2]
     simp only [List.getD,h1,Option.getD_none]
     exact .un
   refine wpIn_mono (d _ w hR0) ?_
   rintro e1 a w' ⟨st,hR,rfl,rfl⟩
   obtain ⟨g1,i1,x1,d1,s1,v1⟩:=hR
   have key:LeavesInM (FR none) 0 P fn a.tmps (fun e w2=>∃v g',e = .returned v∧V g' (Ru ps) v∧Inv g' (mb (.wr (nQ.map gq)) (hp { h' with t:=t' }) (mb T0 (hp h') S2)) w2∧Ext S2 g w (mb (.wr (nQ.map gq)) (hp { h' with t:=t' }) (mb T0 (hp h') S2)) g' w2) a.defers .returning w':=by
    refine k7 fn a.tmps _ _ A2 g1 w' a.defers i1 d1 (fun w2 i2 x2=>?_)
    obtain ⟨us,u1,u2,u3⟩:=k9 _ A3 g1 w2 a.tmps i2 v1
    have jb:=Bg (P:=P) (fn:=fn) u1
    refine ⟨_,jb,_,g1,rfl,?_,i2,x1.trans x2⟩
    match ps,us,u2,u3 with
    | [p],[u],_,u3=>exact u3 0 p u rfl rfl
    | [],[],_,_=>exact .mH [] #[] rfl (by simp)
    | p::q::ps,u::v::us,u2,u3=>
     rw [dif_neg (by simp)]
     exact .mH _ _ (by simpa using u2) (fun i c x e1 e2=>u3 i c x e1 (by simpa using e2))
   cases e1 with
   | normal=>exact key
   | ret=>exact key
   | _=>exact absurd k4 (by simp [Qx])
  ·cases hr
 ·cases hr
theorem Mo (hE:dq P E) {dr:Cx→Nat→UG} {cx:Cx} (hx:nM P cx) (AL:∀n β,LC P n (dr cx n β)) {β:Type} {y:A} {aa:List A} {h:H} {K:A→H→Fp→Option β} {r:β} (hr:Rt E dr cx β y aa h K=some r) :
  ∃pv h' T,K pv h' T=some r∧Q6 P y aa h h' T pv:=by
 unfold Rt at hr
 split at hr
 ·rename_i q n F ps j nS bd
  split at hr
  ·rename_i pe0 hq0
   obtain ⟨hq,hr⟩:=ae hr
   have hq:=bW hq
   obtain ⟨F1,hr,hlen,Nn⟩:=xR _ _ _ _ hr
   obtain ⟨e1,Fa,ha,pN,T1,hr,_,f1,d1⟩:=lU hE hx (AL n β) nS F1 h [] .no _ hr
   rw [Fp.tL] at hr
   split at hr
   ·split at hr
    ·rename_i pe hqa
     obtain ⟨_,t2,hr,ht2⟩:=cz hr
     obtain ⟨e2,Fb,hb,H5,T2,hr,_,f3,d2⟩:=lU hE hx (AL n β) bd Fa _ pN .no _ hr
     rw [Fp.tL] at hr
     split at hr
     ·rename_i st3 pe3 jump hqb hj
      obtain ⟨_,t3,hr,ht3⟩:=cz hr
      obtain ⟨f2,v2⟩:=EM (h:=ha) hq ht2
      obtain ⟨f4,v4⟩:=EM (h:=hb) hq ht3
      have f12:=f1.trans f2
      have f34:=f3.trans f4
      have ft:=f12.trans f34
      refine ⟨_,_,_,hr,ft.out,ft.rd,fun S2 hA g w u vs hI hu hl hv=>?_⟩
      have Ku:=hA.left
      have D5:=bO.right f12 hA
      rw [←jx f34,←jx f4]
      rw [←jx f2] at D5 ⊢
      have A1:=Ku.left
      have A2:=bO.right f1 Ku
      have A3:=D5.left
      have A4:=bO.right f3 D5
      have gh:=Ga (x:=.eL (.loop .ready pe)) hq hqa A2 (.head _)
      have BZ:=Ga (x:=.eL (.loop st3 pe3)) hq hqb A4 (.head _)
      have Ns:S2.ob q=some (.eL (.loop .ready pe0))∨True:=.inr trivial
      rw [v4 _ A4]
      rw [v2 _ A2] at A3 A4 BZ ⊢
      cases hu with
      | wY _ _ _ _ _ _ _ b s lp h0 hlp h1 h2 h3 h4 h5=>
      obtain ⟨rr,r1,r2⟩:=hI.lp b lp hlp
      subst r2
      refine ⟨b,rr,rfl,r1,?_,?_⟩
      ·rw [←hl,hlen,←h1];simp [zj]
      have aaX:(rr.params.zip vs.toArray).foldl (fun tmps (t,a)=>tmps.setIfInBounds t a) rr.tmps=(ps.zip vs).foldl (fun tmps x=>tmps.setIfInBounds x.1 x.2) rr.tmps:=by
       rw [←Array.foldl_toList,Array.toList_zip,←h1];rfl
      rw [aaX]
      obtain ⟨z1,z2⟩:=Nn g n vs rr.tmps hl hv h4 h5
      generalize (ps.zip vs).foldl (fun tmps x=>tmps.setIfInBounds x.1 x.2) rr.tmps=T at z1 z2
      have h2:rr.assign=nS.code:=h2
      have h3:rr.body=bd.code:=h3
      rw [h2,h3]
      refine roundIn_of_wpIn trivial ?_
      show nS.code.wpIn (FR (some b)) 0 P _ _ _
      have hR0:R S2 g w (jX n F1 [] S2) { tmps:=T,defers:=[] } w:=⟨g,hI,.refl _ g w,⟨rfl,fun i d el e1=>by simp [jX] at e1⟩,z1,z2⟩
      refine wpIn_mono (d1 (some b) (fun h=>by cases h) S2 g w S2 A1 (fun e st=>e = .normal∧st=jX n Fa pN (mb T1 (hp ha) S2)) ⟨rfl,rfl⟩ _ w hR0) ?_
      rintro e1 a1 w1 ⟨st,hR1,rfl,rfl⟩
      obtain ⟨g1,i1,x1,hd1,No,LO⟩:=hR1
      have i1:Inv g1 (mb T1 (hp ha) S2) w1:=i1
      obtain ⟨b1,s1,ob1,q1,q2,q3⟩:=i1.eL q _ gh
      have ZJ:=x1.le.ck _ _ h0
      rw [q1] at ZJ
      obtain ⟨rfl,rfl⟩:b1=b∧s1=s:=by simpa using ZJ
      obtain ⟨rr1,rfl,u1,u2⟩:=q3
      obtain ⟨i2,x2⟩:=i1.Iv (Mh:=.busy) (RB:=rr1.pending) gh q1 q2
      rw [u2] at i2 x2
      refine ⟨_,run_beginRound q2 u1,?_⟩
      show bd.code.wpIn (FR (some b1)) 0 P _ _ _
      have eb:({ rr1 with state:=.busy }:Loop)={ rr1 with state:=.busy,pending:=pe }:=by rw [←u2]
      rw [eb]
      refine wpIn_mono (d2 (some b1) (fun h=>by cases h) S2 g w _ A3 (fun e st=>e=e2∧st=jX n Fb H5 (mb T2 (hp hb) ((mb T1 (hp ha) S2).set q (.eL (.loop .busy pe))))) ⟨rfl,rfl⟩ a1 _ ⟨g1,i2,x1.trans x2,hd1,No,LO⟩) ?_
      rintro e2' a2 w3 ⟨st,hR3,rfl,rfl⟩
      obtain ⟨g3,i3,x3,_,_,_⟩:=hR3
      obtain ⟨b3,s3,ob3,p1,p2,p3⟩:=i3.eL q _ BZ
      have ZI:=x3.le.ck _ _ h0
      rw [p1] at ZI
      obtain ⟨rfl,rfl⟩:b3=b1∧s3=s1:=by simpa using ZI
      obtain ⟨rr3,rfl,w1',w2'⟩:=p3
      have fin:∀jc:Option Code,YI e2'=some jc→∃v w4,(Instr.endRound b3 jc).run P w3 = .ok v w4∧∃v' g',Ending.returned v = .returned v'∧V g' (.v (.bool jump.isNone)) v'∧Inv g' ((mb T2 (hp hb) ((mb T1 (hp ha) S2).set q (.eL (.loop .busy pe)))).set q (jM.eL (.loop (II jump) jump)).low) w4∧Ext S2 g w ((mb T2 (hp hb) ((mb T1 (hp ha) S2).set q (.eL (.loop .busy pe)))).set q (jM.eL (.loop (II jump) jump)).low) g' w4:=by
       intro jc Nx
       rw [hj] at Nx
       obtain rfl:=Option.some.inj Nx
       have D3:=run_endRound (P:=P) jump p2
       have est:(if jump.isNone=true then LoopState.ready else LoopState.done)=II jump:=by cases jump<;>rfl
       rw [est] at D3
       obtain ⟨i4,x4⟩:=i3.Iv (Mh:=II jump) (RB:=jump) BZ p1 p2
       exact ⟨_,_,D3,_,g3,rfl,.v _,i4,x3.trans x4⟩
      cases e2' with
      | normal=>exact fin none rfl
      | ret=>exact fin _ rfl
      | exit id=>exact fin _ rfl
      | goto l=>cases hj
      | panic c=>cases hj
      | outgrown=>cases hj
     ·cases hr
    ·cases hr
   ·cases hr
  ·cases hr
 ·cases hr
theorem xO (hE:dq P E) {fns:FT} (hF:ED P fns) {dr:Cx→Nat→UG} {hm:List (Nat×Nat)} {cx:Cx} (hx:nM P cx) (AL:∀n β,LC P n (dr cx n β)):nM P (Dd E fns dr hm cx):=
 ⟨fun _ _ _ _ _ _ h=>SH hE hF hx AL h,fun _ _ _ _ _ _ h=>Mo hE hx AL h⟩
theorem Gf (hm:List (Nat×Nat)):nM P (H_ hm):=⟨fun _ _ _ _ _ r h=>(by have h:(none:Option _)=some r:=h;cases h),fun _ _ _ _ _ r h=>(by have h:(none:Option _)=some r:=h;cases h)⟩
end
end
section
open Go.RowKit
def cf (T U:Fp):Bool:=(T.w || U.w) && (T.all || U.all || T.rs.any fun a=>U.rs.any (Nat.beq a))
def Rx (ops:Array Oper):Nat→Nat→Nat→Bool
 | 0,_,_=>false
 | f+1,i,j=>dep ops i j || (List.range i).any fun m=>dep ops i m && Rx ops f m j
theorem vC {ops:Array Oper} {L:Nat→Bool} (hd:∀k j,L k=true→dep ops k j=true→L j=true):∀(f k j:Nat),L k=true→Rx ops f k j=true→L j=true
 | 0,_,_,_,h=>by cases h
 | f+1,k,j,hk,h=>by
  simp only [Rx,Bool.or_eq_true,List.any_eq_true,zC] at h
  rcases h with h | ⟨m,_,h1,h2⟩
  ·exact hd k j hk h
  ·exact vC hd f m j (hd k m hk h1) h2
theorem Mu {ops:Array Oper} {L:Nat→Bool} {i:Nat} (h:L_ ops i L):∀(f j:Nat),Rx ops f i j=true→L j=true
 | 0,_,h=>by cases h
 | f+1,j,hr=>by
  simp only [Rx,Bool.or_eq_true,List.any_eq_true,zC] at hr
  rcases hr with hr | ⟨m,_,h1,h2⟩
  ·exact h.N3 j hr
  ·exact vC h.down f m j (h.N3 m h1) h2
def indep (ops:Array Oper) (m:Nat) (Ts:List Fp):Bool:=(List.range m).all fun i=>(List.range i).all fun j=>!(cf (Ts.getD j .no) (Ts.getD i .no)) || Rx ops m i j
theorem Q2 {T U:Fp} {x:Nat} (h1:aR T x=true) (h2:aR U x=true) (hw:T.w=true∨U.w=true):cf T U=true:=by
 unfold cf
 rw [zC]
 refine ⟨by rcases hw with h | h<;>simp [h],?_⟩
 unfold aR at h1 h2
 simp only [Bool.or_eq_true,List.any_eq_true] at h1 h2 ⊢
 rcases h1 with h1 | ⟨a,ha,h1⟩
 ·exact .inl (.inl h1)
 ·rcases h2 with h2 | ⟨b,hb,h2⟩
  ·exact .inl (.inr h2)
  ·exact .inr ⟨a,ha,b,hb,by rw [←beq_eq h1,←beq_eq h2];exact Nat.beq_refl _⟩
def qF (S:Hp) (x:Nat):Option Ob×Prop:=(S.ob x,S.fr x)
theorem vg {S S':Hp} (h:∀x,qF S x=qF S' x):S=S':=Hp.ext' (fun i=>congrArg Prod.fst (h i)) (fun i=>by have:=congrArg Prod.snd (h i);exact Iff.of_eq this)
def C9 (T:Fp) (H S:Hp):Hp:=bif T.w then mb T H S else S
theorem F8 (T:Fp) (H S:Hp) (x:Nat):qF (C9 T H S) x=if (T.w && aR T x)=true then qF H x else qF S x:=by
 unfold C9
 cases hw:T.w with
 | false=>simp
 | true=>
  simp only [cond_true,Bool.true_and]
  show (if aR T x=true then H.ob x else S.ob x,if aR T x=true then H.fr x else S.fr x)=_
  cases aR T x<;>rfl
def oK (L:Nat→Bool):List (Fp×Hp)→Nat→Hp→Hp
 | [],_,S=>S
 | (T,H)::r,j,S=>oK L r (j+1) (bif L j then C9 T H S else S)
def fx (L:Nat→Bool) (x:Nat):List (Fp×Hp)→Nat→Option Ob×Prop→Option Ob×Prop
 | [],_,v=>v
 | (T,H)::r,j,v=>fx L x r (j+1) (if (L j && (T.w && aR T x))=true then qF H x else v)
theorem lz (L:Nat→Bool) (x:Nat):∀(r:List (Fp×Hp)) (j:Nat) (S:Hp),qF (oK L r j S) x=fx L x r j (qF S x)
 | [],_,_=>rfl
 | (T,H)::r,j,S=>by
  unfold oK fx
  rw [lz L x r]
  congr 1
  cases hl:L j with
  | true=>simp only [cond_true,Bool.true_and];exact F8 T H S x
  | false=>simp
theorem pK {L L':Nat→Bool} {x:Nat}:∀(r:List (Fp×Hp)) (j:Nat) (v:Option Ob×Prop),(∀m T H,r[m]?=some (T,H)→(T.w && aR T x)=true→L (j+m)=L' (j+m))→fx L x r j v=fx L' x r j v
 | [],_,_,_=>rfl
 | (T,H)::r,j,v,h=>by
  unfold fx
  have e:(if (L j && (T.w && aR T x))=true then qF H x else v)=(if (L' j && (T.w && aR T x))=true then qF H x else v):=by
   cases hw:(T.w && aR T x) with
   | false=>simp
   | true=>rw [show L j=L' j from h 0 T H rfl hw]
  rw [e]
  exact pK r (j+1) _ (fun m T' H' hm hw=>by have:=h (m+1) T' H' (by simpa using hm) hw;rwa [show j+(m+1)=j+1+m by omega] at this)
def Gc (H0:Hp) (rs:List (Fp×Hp)):Nat→Hp
 | 0=>H0
 | m+1=>match rs[m]? with
  | some q=>q.2
  | none=>H0
def oQ (H0:Hp) (rs:List (Fp×Hp)):Prop:=∀m T H,rs[m]?=some (T,H)→(∀x,aR T x=false→qF H x=qF (Gc H0 rs m) x)∧(T.w=false→H=Gc H0 rs m)
theorem mF {H0:Hp} {q:Fp×Hp} {rs:List (Fp×Hp)} (m:Nat) (hm:m≤rs.length):Gc H0 (q::rs) (m+1)=Gc q.2 rs m:=by
 cases m with
 | zero=>rfl
 | succ m=>
  show (match (q::rs)[m+1]? with | some q=>q.2 | none=>H0)=(match rs[m]? with | some q'=>q'.2 | none=>q.2)
  rw [List.getElem?_cons_succ,zD (show m<rs.length by omega)]
theorem oQ.tail {H0:Hp} {q:Fp×Hp} {rs:List (Fp×Hp)} (h:oQ H0 (q::rs)):oQ q.2 rs:=fun m T H hm=>by
 have:=h (m+1) T H (by simpa using hm)
 rw [mF m (Nat.le_of_lt (zB.1 hm).1)] at this
 exact this
theorem vb {x:Nat}:∀(rs:List (Fp×Hp)) (H0:Hp) (j i:Nat),oQ H0 rs→i≤rs.length→fx (fun k=>decide (k<j+i)) x rs j (qF H0 x)=qF (Gc H0 rs i) x
 | [],H0,j,i,_,hi=>by
  have:i=0:=by simpa using hi
  subst this;rfl
 | (T,H)::rs,H0,j,0,hc,_=>by
  have YY:∀(r:List (Fp×Hp)) (k:Nat) (v:Option Ob×Prop),j≤k→fx (fun k=>decide (k<j+0)) x r k v=v:=by
   intro r
   induction r with
   | nil=>intro k v _;rfl
   | cons q r ih=>
    intro k v hk
    obtain ⟨T,H⟩:=q
    unfold fx
    rw [show (decide (k<j+0))=false by simpa using hk]
    simp only [Bool.false_and,Bool.false_eq_true,if_false]
    exact ih (k+1) v (by omega)
  exact YY _ j _ (Nat.le_refl _)
 | (T,H)::rs,H0,j,i+1,hc,hi=>by
  unfold fx
  rw [show (decide (j<j+(i+1)))=true by simp]
  simp only [Bool.true_and]
  have h0:=hc 0 T H rfl
  have e:(if (T.w && aR T x)=true then qF H x else qF H0 x)=qF H x:=by
   cases hw:T.w with
   | false=>rw [h0.2 hw];simp [Gc]
   | true=>
    cases ht:aR T x with
    | true=>simp
    | false=>simp only [Bool.and_false,Bool.false_eq_true,if_false];exact (h0.1 x ht).symm
  rw [e,mF i (by simpa using hi)]
  have:=vb (x:=x) rs H (j+1) i hc.tail (by simpa using hi)
  rw [show j+1+i=j+(i+1) by omega] at this
  exact this
theorem BV {ops:Array Oper} {H0 S2:Hp} {rs:List (Fp×Hp)} (hc:oQ H0 rs) (hi:indep ops rs.length (rs.map (·.1))=true) (hA:∀T H,(T,H)∈rs→bO T H0 S2) {i:Nat} {T:Fp} {H:Hp} (hr:rs[i]?=some (T,H)) {L:Nat→Bool} (ha:L_ ops i L) :
  bO T (Gc H0 rs i) (oK L rs 0 S2)∧oK (ins L i) rs 0 S2=C9 T H (oK L rs 0 S2):=by
 have eh:=(zB.1 hr).1
 have QO:∀(a b:Nat) (Ta Tb:Fp) (Ha Hb:Hp),b<rs.length→a<b→rs[a]?=some (Ta,Ha)→rs[b]?=some (Tb,Hb)→cf Ta Tb=true→Rx ops rs.length b a=true:=fun a b Ta Tb Ha Hb h1 h2 h3 h4 h5=>by
  unfold indep at hi
  have:=List.all_eq_true.1 (List.all_eq_true.1 hi b (List.mem_range.2 h1)) a (List.mem_range.2 h2)
  have ga:(rs.map (·.1)).getD a .no=Ta:=by simp [zA,zL,h3]
  have gb:(rs.map (·.1)).getD b .no=Tb:=by simp [zA,zL,h4]
  rw [ga,gb,h5] at this
  simpa using this
 have seg:∀x,aR T x=true→∀m T' H',rs[m]?=some (T',H')→(T'.w && aR T' x)=true→m≠i→L m=decide (m<i):=fun x hx m T' H' hm hw jB=>by
  simp only [zC] at hw
  have hml:=(zB.1 hm).1
  rcases Nat.lt_or_ge m i with DZ | DZ
  ·rw [show decide (m<i)=true by simpa using DZ]
   exact Mu ha _ m (QO m i T' T H' H eh DZ hm hr (Q2 hw.2 hx (.inl hw.1)))
  ·have DZ:i<m:=by omega
   rw [show decide (m<i)=false by simp;omega]
   cases hl:L m with
   | false=>rfl
   | true=>
    have:=vC ha.down _ m i hl (QO i m T T' H H' hml DZ hr hm (Q2 hx hw.2 (.inr hw.1)))
    rw [ha.new] at this;cases this
 have base:∀x,aR T x=true→qF S2 x=qF H0 x:=fun x hx=>by
  have:=hA T H (zG hr) x hx
  exact Prod.ext this.1 (propext this.2)
 have pre:∀x,aR T x=true→qF (oK L rs 0 S2) x=qF (Gc H0 rs i) x:=fun x hx=>by
  rw [lz,base x hx,←vb rs H0 0 i hc (Nat.le_of_lt eh)]
  refine pK rs 0 _ (fun m T' H' hm hw=>?_)
  simp only [Nat.zero_add]
  by_cases DZ:m=i
  ·subst DZ;rw [ha.new];simp
  ·exact seg x hx m T' H' hm hw DZ
 refine ⟨fun x hx=>?_,vg fun x=>?_⟩
 ·have:=pre x hx
  exact ⟨congrArg Prod.fst this,Iff.of_eq (congrArg Prod.snd this)⟩
 ·rw [F8]
  by_cases hw:(T.w && aR T x)=true
  ·rw [if_pos hw]
   simp only [zC] at hw
   have e:Gc H0 rs (i+1)=H:=by
    show (match rs[i]? with | some q=>q.2 | none=>H0)=H
    rw [hr]
   rw [←e,lz,base x hw.2,←vb rs H0 0 (i+1) hc eh]
   refine pK rs 0 _ (fun m T' H' hm hw'=>?_)
   simp only [Nat.zero_add]
   by_cases DZ:m=i
   ·subst DZ;simp [ins]
   ·have:=seg x hw.2 m T' H' hm hw' DZ
    show (m == i || L m)=decide (m<i+1)
    rw [this,show (m == i)=false by simpa using DZ,Bool.false_or]
    by_cases h1:m<i
    ·rw [show decide (m<i)=true by simpa using h1,show decide (m<i+1)=true by simp;omega]
    ·rw [show decide (m<i)=false by simpa using h1,show decide (m<i+1)=false by simp;omega]
  ·rw [if_neg hw,lz,lz]
   refine pK rs 0 _ (fun m T' H' hm hw'=>?_)
   simp only [Nat.zero_add]
   by_cases DZ:m=i
   ·subst DZ;rw [hr] at hm;cases hm;exact absurd hw' hw
   ·show (m == i || L m)=L m
    rw [show (m == i)=false by simpa using DZ,Bool.false_or]
end
section
open Go.RowKit
section
variable {P:Program} {E:Env} {cx:Cx} {n:Nat} {β:Type} {r:β}
def oS:List Fp→Fp
 | []=>.no
 | T::r=>T.cat (oS r)
def Et (E:Env) (cx:Cx) (n:Nat) (l0:List Oper):List Oper→Tr A→H→List Fp→(Tr A→H→List Fp→Option β)→Option β
 | [],F,h,acc,K=>K F h acc
 | o::l,F,h,acc,K=>match o.guard with
  | none=>RQ E cx n o.op F h (fun F pv h' T=>y4 F o.dst pv (fun F'=>Et E cx n l0 l F' h' (acc++[T]) K))
  | some (j,want)=>NM l0 n F j want (fun F b=>bif b then RQ E cx n o.op F h (fun F pv h' T=>y4 F o.dst pv (fun F'=>Et E cx n l0 l F' h' (acc++[T]) K)) else y4 F o.dst .un (fun F'=>Et E cx n l0 l F' h (acc++[.no]) K))
def drK (E:Env) (cx:Cx) (n:Nat) (β:Type) (_id:Nat) (ops:List Oper) (F:Tr A) (h:H) (U:Fp) (K:Tr A→H→Fp→Option β):Option β:=
 bif chk ops.toArray then Et E cx n ops ops F h [] (fun F h Ts=>bif indep ops.toArray ops.length Ts then K F h (U.cat (oS Ts)) else none) else none
def sZ (ops:Array Oper) (H0:Hp) (rs:List (Fp×Hp)) (Sf:(Nat→Bool)→Hp) (k:Nat):Prop:=
 ∀m T H,rs[m]?=some (T,H)→∀L,L_ ops (k+m) L→bO T (Gc H0 rs m) (Sf L)∧Sf (ins L (k+m))=C9 T H (Sf L)
theorem sZ.tail {ops:Array Oper} {H0:Hp} {q:Fp×Hp} {rs:List (Fp×Hp)} {Sf:(Nat→Bool)→Hp} {k:Nat} (h:sZ ops H0 (q::rs) Sf k):sZ ops q.2 rs Sf (k+1):=fun m T H hm L ha=>by
 have:=h (m+1) T H (by simpa using hm) L (by rwa [show k+(m+1)=k+1+m by omega])
 rw [mF m (Nat.le_of_lt (zB.1 hm).1),show k+(m+1)=k+1+m by omega] at this
 exact this
theorem oQ.cons {H0:Hp} {T:Fp} {H:Hp} {rs:List (Fp×Hp)} (h1:∀x,aR T x=false→qF H x=qF H0 x) (h2:T.w=false→H=H0) (h:oQ H rs):oQ H0 ((T,H)::rs):=fun m T' H' hm=>by
 cases m with
 | zero=>simp at hm;obtain ⟨rfl,rfl⟩:=hm;exact ⟨h1,h2⟩
 | succ m=>
  have B1:rs[m]?=some (T',H'):=by simpa using hm
  rw [mF m (Nat.le_of_lt (zB.1 B1).1)]
  exact h m T' H' B1
theorem Af (hE:dq P E) (hx:nM P cx) {l0:List Oper}:∀(l:List Oper) (F:Tr A) (h:H) (acc:List Fp) (K:Tr A→H→List Fp→Option β),Et E cx n l0 l F h acc K=some r →
  ∃F' h' rs,K F' h' (acc++rs.map (·.1))=some r∧Kp (xE l) F F'∧rs.length=l.length∧oQ (hp h) rs∧(∀x,wt (oS (rs.map (·.1))) x=false→qF (hp h') x=qF (hp h) x)∧Gc (hp h) rs rs.length=hp h'∧∀Sf k,sZ l0.toArray (hp h) rs Sf k→∀ds S (Kf:St→Prop),Kf (jX n F' ds S)→wE P l0.toArray Sf l k (jX n F ds S) Kf
 | [],F,h,acc,K,hr=>⟨F,h,[],by have hr:K F h acc=some r:=hr;simpa using hr,.refl _ F,rfl,fun m T H hm=>by simp at hm,fun _ _=>rfl,rfl,fun Sf k _ ds S Kf hk=>hk⟩
 | o::l,F,h,acc,K,hr=>by
  have yes:∀(F:Tr A),RQ E cx n o.op F h (fun F pv h' T=>y4 F o.dst pv (fun F'=>Et E cx n l0 l F' h' (acc++[T]) K))=some r →
    (∀ds S,o.guard=none∨∃j want,o.guard=some (j,want)∧pI l0.toArray (jX n F ds S) j want=some true) →
    ∃F' h' rs,K F' h' (acc++rs.map (·.1))=some r∧Kp (xE (o::l)) F F'∧rs.length=(o::l).length∧oQ (hp h) rs∧(∀x,wt (oS (rs.map (·.1))) x=false→qF (hp h') x=qF (hp h) x)∧Gc (hp h) rs rs.length=hp h'∧∀Sf k,sZ l0.toArray (hp h) rs Sf k→∀ds S (Kf:St→Prop),Kf (jX n F' ds S)→wE P l0.toArray Sf (o::l) k (jX n F ds S) Kf:=fun F hr hg=>by
   obtain ⟨F0,e0,pv,h1,T1,k1,k2⟩:=Jm hE hx hr
   obtain ⟨F1,k3,R_,k4⟩:=uX k1
   obtain ⟨F2,h2,rs,k5,kp2,k6,k7,kw,k8,k9⟩:=Af hE hx l F1 h1 (acc++[T1]) K k3
   have hg:∀ds S,o.guard=none∨∃j want,o.guard=some (j,want)∧pI l0.toArray (jX n F0 ds S) j want=some true:=fun ds S=>by rw [e0];exact hg ds S
   refine ⟨F2,h2,(T1,hp h1)::rs,by simpa using k5,(Kp.of (l:=[]) e0).trans (m:=xE (o::l)) (R_.trans kp2 (fun i hi=>zQ _ hi) (fun i hi=>zS _ hi)) (fun i hi=>by cases hi) (fun i hi=>hi),by simp [k6],oQ.cons (fun x hx=>Prod.ext (k2.out x hx).1 (propext (k2.out x hx).2)) (fun hw=>vg fun x=>Prod.ext (k2.rd x (Mb hw)).1 (propext (k2.rd x (Mb hw)).2)) k7,fun x hx=>(kw x (vh hx).2).trans (Prod.ext (k2.rd x (vh hx).1).1 (propext (k2.rd x (vh hx).1).2)),by rw [zR,mF _ (Nat.le_refl _)];exact k8,fun Sf k hs ds S Kf hk=>?_⟩
   rw [←e0 ds S]
   refine ⟨pv,?_,?_⟩
   ·have tj:∀L,L_ l0.toArray k L→HN P o ((jX n F0 ds S).CY 0) (Sf L) (Sf (ins L k)) pv:=fun L ha=>by
     obtain ⟨q1,q2⟩:=hs 0 T1 (hp h1) rfl L ha
     have q1:bO T1 (hp h) (Sf L):=q1
     have q2:Sf (ins L k)=C9 T1 (hp h1) (Sf L):=q2
     rw [←tK,q2]
     have:=k2.ok (Sf L) q1
     unfold C9
     cases hw:T1.w with
     | true=>exact this
     | false=>
      rw [show hp h1=hp h from vg fun x=>Prod.ext (k2.rd x (Mb hw)).1 (propext (k2.rd x (Mb hw)).2),sf q1] at this
      exact this
    unfold xN
    rcases hg ds S with hg | ⟨j,want,hg,hv⟩
    ·rw [hg];exact ⟨0,tj⟩
    ·rw [hg];exact .inl ⟨hv,0,tj⟩
   ·have:=k9 Sf (k+1) hs.tail ds S Kf hk
    rw [←k4 n ds S S,show ((jX n F0 ds S).put o.dst pv).to S=(jX n F0 ds S).put o.dst pv from yY _ _] at this
    exact this
  unfold Et at hr
  split at hr
  ·rename_i hg
   exact yes F hr (fun _ _=>.inl hg)
  ·rename_i j want hg
   obtain ⟨F1,b,k1,k2,k3⟩:=FE hr
   cases b with
   | true=>
    simp only [cond_true] at k1
    obtain ⟨F',h',rs,q1,qp,q2,q3,qw,q4,q5⟩:=yes F1 k1 (fun ds S=>.inr ⟨j,want,hg,by rw [k2];exact k3 ds S⟩)
    refine ⟨F',h',rs,q1,(Kp.of (l:=[]) k2).trans qp (fun i hi=>by cases hi) (fun i hi=>hi),q2,q3,qw,q4,fun Sf k hs ds S Kf hk=>?_⟩
    rw [←k2]
    exact q5 Sf k hs ds S Kf hk
   | false=>
    simp only [cond_false] at k1
    obtain ⟨F2,k4,R_,k5⟩:=uX k1
    obtain ⟨F',h',rs,q1,qp,q2,q3,qw,q4,q5⟩:=Af hE hx l F2 h (acc++[.no]) K k4
    refine ⟨F',h',(.no,hp h)::rs,by simpa using q1,(Kp.of (l:=[]) k2).trans (m:=xE (o::l)) (R_.trans qp (fun i hi=>zQ _ hi) (fun i hi=>zS _ hi)) (fun i hi=>by cases hi) (fun i hi=>hi),by simp [q2],.cons (fun _ _=>rfl) (fun _=>rfl) q3,fun x hx=>qw x (vh hx).2,by rw [zR,mF _ (Nat.le_refl _)];exact q4,fun Sf k hs ds S Kf hk=>⟨.un,?_,?_⟩⟩
    ·unfold xN
     rw [hg]
     exact .inr ⟨k3 ds S,fun g=>.un,fun L ha=>(hs 0 .no (hp h) rfl L ha).2⟩
    ·have:=q5 Sf (k+1) hs.tail ds S Kf hk
     rw [←k5 n ds S S,show ((jX n F1 ds S).put o.dst .un).to S=(jX n F1 ds S).put o.dst .un from yY _ _] at this
     rw [←k2]
     exact this
theorem qV {x:Nat}:∀(Ts:List Fp),aR (oS Ts) x=Ts.any fun T=>aR T x
 | []=>rfl
 | T::r=>by
  show aR (T.cat (oS r)) x=_
  rw [k_,qV r,List.any_cons]
theorem HE {H0:Hp}:∀(rs:List (Fp×Hp)),oQ H0 rs→(∀x,aR (oS (rs.map (·.1))) x=false→qF (Gc H0 rs rs.length) x=qF H0 x)∧((oS (rs.map (·.1))).w=false→Gc H0 rs rs.length=H0):=fun rs=>by
 induction rs generalizing H0 with
 | nil=>exact fun _=>⟨fun _ _=>rfl,fun _=>rfl⟩
 | cons q rs ih=>
  intro hc
  obtain ⟨T,H⟩:=q
  obtain ⟨i1,i2⟩:=ih hc.tail
  have h0:=hc 0 T H rfl
  rw [zR,mF _ (Nat.le_refl _)]
  refine ⟨fun x hx=>?_,fun hw=>?_⟩
  ·have hx:aR (T.cat (oS (rs.map (·.1)))) x=false:=hx
   rw [k_,Bool.or_eq_false_iff] at hx
   exact (i1 x hx.2).trans (h0.1 x hx.1)
  ·have hw:(T.w || (oS (rs.map (·.1))).w)=false:=hw
   rw [Bool.or_eq_false_iff] at hw
   exact (i2 hw.2).trans (h0.2 hw.1)
theorem KX (hE:dq P E) (hx:nM P cx) (hm:P.follows .mixedOrders=true) (n:Nat) (β:Type):LC P n (drK E cx n β):=fun id ops F h U K r hr=>by
 obtain ⟨hch,hr⟩:=ae hr
 obtain ⟨F',h',rs,k1,kp,k2,k3,kw,k4,k5⟩:=Af hE hx ops F h [] _ hr
 rw [List.nil_append] at k1
 obtain ⟨hi,k1⟩:=ae k1
 rw [←k2] at hi
 refine ⟨F',h',oS (rs.map (·.1)),k1,kp,fun inr ds=>?_⟩
 obtain ⟨e1,e2⟩:=HE rs k3
 rw [k4] at e1 e2
 refine ⟨⟨fun x hx=>⟨congrArg Prod.fst (e1 x hx),Iff.of_eq (congrArg Prod.snd (e1 x hx))⟩,fun x hx=>⟨congrArg Prod.fst (kw x hx),Iff.of_eq (congrArg Prod.snd (kw x hx))⟩⟩,fun ro _ S0 g0 w0 S2 hA Q hq=>?_⟩
 have hA':∀T H,(T,H)∈rs→bO T (hp h) S2:=fun T H Hk x hx=>hA x (by
  rw [qV,List.any_eq_true]
  exact ⟨T,List.mem_map.2 ⟨_,Hk,rfl⟩,hx⟩)
 have zero:∀(r:List (Fp×Hp)) (j:Nat) (S:Hp),oK (fun _=>false) r j S=S:=fun r=>by
  induction r with
  | nil=>exact fun _ _=>rfl
  | cons q r ih=>exact fun j S=>ih (j+1) S
 refine MC (fun L=>oK L rs 0 S2) hm hch (zero rs 0 S2) ?_
 refine k5 (fun L=>oK L rs 0 S2) 0 (fun m T H hmr L ha=>?_) ds S2 _ ?_
 ·rw [Nat.zero_add] at ha ⊢
  exact BV k3 hi hA' hmr ha
 ·have e:oK (fun j=>decide (j<ops.length)) rs 0 S2=mb (oS (rs.map (·.1))) (hp h') S2:=vg fun x=>by
   rw [lz]
   cases ht:aR (oS (rs.map (·.1))) x with
   | true=>
    have b:qF S2 x=qF (hp h) x:=Prod.ext (hA x ht).1 (propext (hA x ht).2)
    have:=vb (x:=x) rs (hp h) 0 rs.length k3 (Nat.le_refl _)
    rw [Nat.zero_add,k4,k2] at this
    rw [b,this]
    show qF (hp h') x=(if aR (oS (rs.map (·.1))) x=true then (hp h').ob x else S2.ob x,if aR (oS (rs.map (·.1))) x=true then (hp h').fr x else S2.fr x)
    rw [if_pos ht,if_pos ht];rfl
   | false=>
    rw [pK (L':=fun _=>false) rs 0 _ (fun m T H hmr hw=>by
     simp only [zC] at hw
     have:aR (oS (rs.map (·.1))) x=true:=by
      rw [qV,List.any_eq_true]
      exact ⟨T,List.mem_map.2 ⟨_,zG hmr,rfl⟩,hw.2⟩
     rw [this] at ht;cases ht),←lz,zero]
    show qF S2 x=(if aR (oS (rs.map (·.1))) x=true then (hp h').ob x else S2.ob x,if aR (oS (rs.map (·.1))) x=true then (hp h').fr x else S2.fr x)
    rw [if_neg (by rw [ht];simp),if_neg (by rw [ht];simp)];rfl
  show Q .normal ((jX n F' ds S2).to (oK (fun j=>decide (j<ops.length)) rs 0 S2))
  rw [e]
  exact hq
end
end
open Go.RowKit
inductive Az (P:Program):Nat→Nat→HM→Prop
 | nil (a b:Nat):Az P a b .nil
 | no {a b:Nat} {l r:HM} (h1:Az P (2*a) (a+b) l) (h2:Az P (2*a) (2*a+b) r):Az P a b (.node l none r)
 | yes {a b:Nat} {e:dP} {l r:HM} (h:b0 P b e) (h1:Az P (2*a) (a+b) l) (h2:Az P (2*a) (2*a+b) r):Az P a b (.node l (some e) r)
theorem Mf {P:Program} {T:HM} {a b:Nat} (h:Az P a b T):∀t e,dA T t=some e→b0 P (a*t+b) e:=by
 have key:∀(a b:Nat) (l r:HM),(∀t e,dA l t=some e→b0 P (2*a*t+(a+b)) e)→(∀t e,dA r t=some e→b0 P (2*a*t+(2*a+b)) e) →
   ∀n e v,dA (.node l v r) (n+1)=some e→b0 P (a*(n+1)+b) e:=by
  intro a b l r hl hr n e v ht
  rw [Gh] at ht
  cases hn:Nat.beq (n%2) 0 with
  | true=>
   rw [hn] at ht
   have h0:=Nat.eq_of_beq_eq_true hn
   have:=hl _ e ht
   have e1:a*(n+1)+b=2*a*(n / 2)+(a+b):=by
    have:n=2*(n / 2):=by omega
    generalize n / 2=k at this
    subst this
    rw [Nat.mul_add,Nat.mul_one,Nat.mul_comm 2 a,Nat.mul_assoc];omega
   rw [e1];exact this
  | false=>
   rw [hn] at ht
   have h0:n%2≠0:=fun h=>by rw [h] at hn;cases hn
   have:=hr _ e ht
   have e1:a*(n+1)+b=2*a*(n / 2)+(2*a+b):=by
    have:n=2*(n / 2)+1:=by omega
    generalize n / 2=k at this
    subst this
    rw [show 2*k+1+1=2*(k+1) by omega,←Nat.mul_assoc,Nat.mul_comm a 2,Nat.mul_add,Nat.mul_one];omega
   rw [e1];exact this
 induction h with
 | nil=>intro t e h;cases h
 | no h1 h2 J2 LM=>
  intro t e ht
  cases t with
  | zero=>cases ht
  | succ n=>exact key _ _ _ _ J2 LM n e _ ht
 | yes h h1 h2 J2 LM=>
  intro t e ht
  cases t with
  | zero=>cases ht;rw [Nat.mul_zero,Nat.zero_add];exact h
  | succ n=>exact key _ _ _ _ J2 LM n e _ ht
theorem Me {P:Program} {T:HM} (h:Az P 1 0 T):∀t e,dA T t=some e→b0 P t e:=fun t e ht=>by
 have:=Mf h t e ht
 rwa [Nat.one_mul,Nat.add_zero] at this
inductive EqL (P:Program):List Nat→Prop
 | nil:EqL P []
 | cons {t:Nat} {r:List Nat} (h:lV P t) (k:EqL P r):EqL P (t::r)
theorem SR {P:Program} {l:List Nat} (h:EqL P l):∀t,l.any (Nat.beq t)=true→lV P t:=by
 induction h with
 | nil=>intro f h;simp at h
 | cons h k ih=>
  rename_i f0 r
  intro f hf
  rw [List.any_cons,Bool.or_eq_true] at hf
  rcases hf with hf | hf
  ·obtain rfl:=Nat.eq_of_beq_eq_true hf;exact h
  ·exact ih f hf
theorem fT {P : Program} {t : Nat} {fs : Array Field} (h1 : P.stoodInHeld t = false) (h2 : P.eqGuardType P.depth t = false) (h3 : P.underlying t = some (.struct fs)) (h4 : fs.toList.all (fun f => f.name != "_") = true) : lV P t :=
 ⟨h1,h2,fun fs' e f hf=>by
  rw [h3] at e
  cases e
  have:=List.all_eq_true.1 h4 f hf
  simpa using this⟩
theorem aE {P:Program} {t:Nat} {e:dP} (h1:P.underlying t=some e.d) (h2:TI P t e.size e.bytes e.zero) (h3:∀fs,e.d = .struct fs→∀w:World,(fs.mapM fun f=>(do pure (f.offset,←sizeOf f.type):Sem (Nat×Nat))).run P w = .ok e.pl.toArray w)
  (h4:∀u,e.t=some u→u.size=e.size∧te u (mg e.zero)=some u.dS):b0 P t e where
 u:=h1
 ti:=h2
 pl:=h3
 ts:=fun u hu=>(h4 u hu).1
 tz:=fun u hu g=>by
  obtain ⟨i,t1,t2,t3,t4,t5,t6⟩:=h2
  exact (lO (g:=g) u _ _ (h4 u hu).2).2 _ (rN t6 g)
theorem lj {e:dP} (h:e.t=none):∀u,e.t=some u→u.size=e.size∧te u (mg e.zero)=some u.dS:=fun u hu=>by rw [h] at hu;cases hu
theorem bw {e:dP} {u:Ty} (h:e.t=some u) (h1:u.size=e.size) (h2:te u (mg e.zero)=some u.dS):∀u,e.t=some u→u.size=e.size∧te u (mg e.zero)=some u.dS:=fun u' hu=>by rw [h] at hu;cases hu;exact ⟨h1,h2⟩
inductive HT where
 | o
 | n (h:Option LH) (x y:HT)
def HT.h:HT→Option LH
 | .o=>none
 | .n h _ _=>h
def HT.l:HT→HT
 | .o=>.o
 | .n _ x _=>x
def HT.r:HT→HT
 | .o=>.o
 | .n _ _ y=>y
def YZ:LH:=⟨[],[],[],[],[],[]⟩
def mkSeq (h:Option LH) (x y:aB):aB:=match h with
 | some h=>.cut h x y
 | none=>.seq x y
def Jy (h:Option LH) (x:aB):aB:=match h with
 | some h=>.loop h x
 | none=>.loop YZ x
def comp:Code→HT→aB
 | .skip,_=>.skip
 | .ret,_=>.ret
 | .exit id,_=>.exit id
 | .region id ops d,_=>.region id ops.toList d
 | .seq x y,t=>mkSeq t.h (comp x t.l) (comp y t.r)
 | .cond c x y,t=>.cond c (comp x t.l) (comp y t.r)
 | .block id x,t=>.block id (comp x t.l)
 | .loop x,t=>Jy t.h (comp x t.l)
 | .rangeFunc g ps x y,t=>.range g ps.toList YZ (comp x t.l) (comp y t.r)
 | c,_=>.bad c
theorem DI (h:Option LH) (x y:aB):(mkSeq h x y).code = .seq x.code y.code:=by cases h<;>rfl
theorem BL (h:Option LH) (x:aB):(Jy h x).code = .loop x.code:=by cases h<;>rfl
theorem HD (c:Code) (t:HT):(comp c t).code=c:=by
 fun_induction comp c t<;>simp_all [aB.code,DI,BL]
def az (f:Func):Code:=match f.body with
 | some c=>c
 | none=>.skip
theorem ah {P : Program} {f : Nat} {fn : Func} {t : HT} (h1 : P.funcs[f]? = some fn) (h2 : fn.body = some (az fn)) (h3 : (fn.name == "runtime.NumGoroutine") = false) : bq P f fn (comp (az fn) t) := ⟨h1, by rw [HD]; exact h2, h3⟩
section
open Go.RowKit
structure CtE where
 sg:eO
 F:Plain sg
abbrev HO:=Nat→Option CtE
def uH (P:Program) (w_:HO):Prop:=∀f e,w_ f=some e→cb P f e.sg e.F
def SZ (w_:HO) (Er:Cx):Cx:=⟨fun β f aa h K=>match w_ f with
 | some e=>ctK e.sg e.F aa h K
 | none=>Er.call β f aa h K,Er.hm,Er.wY⟩
section
variable {P:Program} {E:Env}
theorem FX {w_:HO} (hc:uH P w_) {Er:Cx} (hf:nM P Er):nM P (SZ w_ Er):=⟨fun β f aa h K r hr=>by
 have hr:(match w_ f with | some e=>ctK e.sg e.F aa h K | none=>Er.call β f aa h K)=some r:=hr
 split at hr
 ·rename_i e he
  exact S8 (hc f e he) hr
 ·exact hf.call β f aa h K r hr,hf.wY⟩
def cxT (E:Env) (fns:FT) (hm:List (Nat×Nat)) (w_:HO):Nat→Cx
 | 0=>SZ w_ (H_ hm)
 | k+1=>SZ w_ (Dd E fns (fun cx n=>drK E cx n) hm (cxT E fns hm w_ k))
def cxF (E:Env) (fns:FT) (hm:List (Nat×Nat)) (w_:HO) (k:Nat):Cx:=Dd E fns (fun cx n=>drK E cx n) hm (cxT E fns hm w_ k)
theorem Ai (hE:dq P E) (Kh:P.follows .mixedOrders=true) {fns:FT} (hF:ED P fns) {hm:List (Nat×Nat)} {w_:HO} (hc:uH P w_):∀k,nM P (cxT E fns hm w_ k)
 | 0=>FX hc (Gf hm)
 | k+1=>FX hc (xO hE hF (Ai hE Kh hF hc k) (fun n β=>KX hE (Ai hE Kh hF hc k) Kh n β))
theorem Aj (hE:dq P E) (Kh:P.follows .mixedOrders=true) {fns:FT} (hF:ED P fns) {hm:List (Nat×Nat)} {w_:HO} (hc:uH P w_) (k:Nat):nM P (cxF E fns hm w_ k):=xO hE hF (Ai hE Kh hF hc k) (fun n β=>KX hE (Ai hE Kh hF hc k) Kh n β)
theorem cb.of {f:FuncId} {sg:eO} {F G:Plain sg} (h:cb P f sg G) (e:∀x c d,F x c d=G x c d):cb P f sg F:=by
 have:F=G:=funext fun x=>funext fun c=>funext fun d=>e x c d
 rw [this];exact h
end
end
section
open Go.RowKit
def aw {α:Type} (d:α) (l:List α) (i:Nat) (f:α→α):List α:=aU l i (f (nth d l i))
def ctN:HO:=fun _=>none
def ctC (f:Nat) (sg:eO) (F:Plain sg) (l:HO):HO:=fun g=>bif Nat.beq g f then some ⟨sg,F⟩ else l g
theorem aP {P:Program}:uH P ctN:=fun f e h=>by cases h
theorem ay {P:Program} {f:Nat} {sg:eO} {F:Plain sg} {l:HO} (h:cb P f sg F) (k:uH P l):uH P (ctC f sg F l):=fun g e hg=>by
 have hg:(bif Nat.beq g f then some (⟨sg,F⟩:CtE) else l g)=some e:=hg
 cases hb:Nat.beq g f with
 | true=>rw [hb] at hg;cases hg;rw [beq_eq hb];exact h
 | false=>rw [hb] at hg;exact k g e hg
inductive Ot (P:Program):Nat→Nat→Tr (Func×aB)→Prop
 | nil (a b:Nat):Ot P a b .nil
 | no {a b:Nat} {l r:Tr (Func×aB)} (h1:Ot P (2*a) (a+b) l) (h2:Ot P (2*a) (2*a+b) r):Ot P a b (.node l none r)
 | yes {a b:Nat} {fn:Func} {x:aB} {l r:Tr (Func×aB)} (h:bq P b fn x) (h1:Ot P (2*a) (a+b) l) (h2:Ot P (2*a) (2*a+b) r):Ot P a b (.node l (some (fn,x)) r)
theorem SG {P:Program} {T:Tr (Func×aB)} {a b:Nat} (h:Ot P a b T):∀t fn x,T.get t=some (fn,x)→bq P (a*t+b) fn x:=by
 have key:∀(a b:Nat) (l r:Tr (Func×aB)),(∀t fn x,l.get t=some (fn,x)→bq P (2*a*t+(a+b)) fn x)→(∀t fn x,r.get t=some (fn,x)→bq P (2*a*t+(2*a+b)) fn x) →
   ∀n fn x v,(Tr.node l v r).get (n+1)=some (fn,x)→bq P (a*(n+1)+b) fn x:=by
  intro a b l r hl hr n fn x v ht
  rw [Tr.kc] at ht
  cases hn:Nat.beq (n%2) 0 with
  | true=>
   rw [hn] at ht
   have h0:=Nat.eq_of_beq_eq_true hn
   have:=hl _ fn x ht
   have e1:a*(n+1)+b=2*a*(n / 2)+(a+b):=by
    have:n=2*(n / 2):=by omega
    generalize n / 2=k at this
    subst this
    rw [Nat.mul_add,Nat.mul_one,Nat.mul_comm 2 a,Nat.mul_assoc];omega
   rw [e1];exact this
  | false=>
   rw [hn] at ht
   have h0:n%2≠0:=fun h=>by rw [h] at hn;cases hn
   have:=hr _ fn x ht
   have e1:a*(n+1)+b=2*a*(n / 2)+(2*a+b):=by
    have:n=2*(n / 2)+1:=by omega
    generalize n / 2=k at this
    subst this
    rw [show 2*k+1+1=2*(k+1) by omega,←Nat.mul_assoc,Nat.mul_comm a 2,Nat.mul_add,Nat.mul_one];omega
   rw [e1];exact this
 induction h with
 | nil=>intro t fn x h;cases h
 | no h1 h2 J2 LM=>
  intro t fn x ht
  cases t with
  | zero=>cases ht
  | succ n=>exact key _ _ _ _ J2 LM n fn x _ ht
 | yes h h1 h2 J2 LM=>
  intro t fn x ht
  cases t with
  | zero=>cases ht;rw [Nat.mul_zero,Nat.zero_add];exact h
  | succ n=>exact key _ _ _ _ J2 LM n fn x _ ht
theorem SF {P:Program} {T:Tr (Func×aB)} (h:Ot P 1 0 T):ED P (fun f=>T.get f):=fun f fn x hf=>by
 have:=SG h f fn x hf
 rwa [Nat.one_mul,Nat.add_zero] at this
theorem aa1 {P:Program} {E:Env} {fns:FT} {hm:List (Nat×Nat)} {w_:HO} (hE:dq P E) (Kh:P.follows .mixedOrders=true) (hF:ED P fns) (hc:uH P w_) (k:Nat) {f:FuncId} {sg:eO} {F:Plain sg} (e:∀x c d,F x c d=Rs (cxF E fns hm w_ k) f sg x c d):cb P f sg F:=
 (Mm (Aj hE Kh hF hc k) f sg).of e
theorem _root_.Go.Bm.V.Pu {g:G} {t:Ty} {f:Bool} {l:List t.T} {v:Value} (hv:V g (.tl t f l) v):(∃a n c,v = .slice (some a) n c∧VD g.mem (.sl t.size f (l.map (fb t))) v)∨(l=[]∧v = .slice none 0 0):=by
 cases hv with
 | tl _ _ _ _ hd=>
  generalize oO:List.map (fb t) l=es at hd
  have tT:es.length=l.length:=by rw [←oO,zH]
  have qC:=hd
  cases hd with
  | xc sz full A=>
   cases A with
   | none=>exact .inr ⟨zZ tT.symm,rfl⟩
   | some a=>exact .inl ⟨_,_,_,rfl,qC⟩
  | sl _ _ _ a cap vs hz hc hf hn hx hl hm He=>
   cases a with
   | some p=>exact .inl ⟨_,_,_,rfl,qC⟩
   | none=>
    have h0:cap=0:=hn rfl
    have h1:es.length=0:=by omega
    refine .inr ⟨zZ (by omega),?_⟩
    rw [h0,h1];rfl
theorem PC.less {P:Program} {f:FuncId} {aa:List A} {S S1 S2:Hp} {r:A} (h:PC P f aa S S1 r) (hs:∀o x,S2.ob o=some x→S1.ob o=some x) (hf:∀o,S2.fr o→S1.fr o):PC P f aa S S2 r:=fun g w vs hI hl hv=>by
 refine (h g w vs hI hl hv).mono ?_
 rintro e w' ⟨v,g',rfl,q1,q2,q3⟩
 exact ⟨v,g',rfl,q1,q2.less hs hf,q3.trans (.less hs hf)⟩
theorem QG {h:H} {i:Nat} (hl:i<dO):(hp h).ob i=iG h.t i∧((hp h).fr i↔h.bI≤i):=⟨if_pos hl,by show (if i<dO then _ else _)↔_;rw [if_pos hl]⟩
theorem l4 {t:Tr jM} {n m:Nat} {l:List Rg} {k k':List Nat} (h:n≤m):(∀o x,(hp ⟨.nil,m,l,k'⟩).ob o=some x→(hp ⟨t,n,l,k⟩).ob o=some x)∧∀o,(hp ⟨.nil,m,l,k'⟩).fr o→(hp ⟨t,n,l,k⟩).fr o:=by
 refine ⟨fun o x e=>?_,fun o e=>?_⟩
 ·by_cases ho:o<dO
  ·rw [(QG ho).1] at e
   have e0:iG .nil o=none:=by unfold iG;rw [Tr.get_nil]
   rw [show (⟨.nil,m,l,k'⟩:H).t = .nil from rfl,e0] at e
   cases e
  ·rw [(hM ho).1] at e ⊢;exact e
 ·by_cases ho:o<dO
  ·rw [(QG ho).2] at e ⊢;exact Nat.le_trans h e
  ·rw [(hM ho).2] at e ⊢;exact e
theorem K3 {P:Program} {cx:Cx} (hx:nM P cx) {f:FuncId} {t:Ty} {rs:List (Bool×Ty)} {F:List t.T→Option (mE rs×Unit)}
  (hn:Bc cx f ⟨[(false,.cN t)],rs,[],[]⟩ [.v (.slice none 0 0)] () ()=F []) (h1:∀l,Bc cx f ⟨[(false,.cN t)],rs,[],[]⟩ [.nn t l] () ()=F l):cb P f ⟨[(false,.cN t)],rs,[],[]⟩ (fun x _ _=>F x.1):=by
 refine ⟨fun x c d y h=>(lC hx f _ _ c d y.1 y.2 ((h1 x.1).trans h)).1,fun x c d y d' h=>?_⟩
 obtain ⟨l,u⟩:=x
 obtain ⟨_,t1,n1,k1,p1⟩:=lC hx f _ _ c d y d' ((h1 l).trans h)
 obtain ⟨a1,a2⟩:=l4 (t:=t1) (n:=n1) (m:=n1) (l:=fg [] d'++fg [] c) (k:=k1) (k':=k1) (Nat.le_refl _)
 have full:∀m,n1≤m→PC P f [.nn t l] (hp (h0 [] [] c d)) (hp ⟨.nil,m,fg [] d'++fg [] c,k1⟩) (xg rs y):=fun m hm=>p1.less (l4 hm).1 (l4 hm).2
 cases l with
 | cons a l=>
  refine ⟨.nil,n1,k1,fun g w vs hI hl hv=>?_⟩
  match vs,hl with
  | [v],_=>
   rcases (hv 0 _ _ rfl rfl:V g (.tl t false (a::l)) v).Pu with ⟨b,n,c2,rfl,hd⟩ | ⟨e,_⟩
   ·exact full n1 (Nat.le_refl _) g w _ hI rfl fun i p v e1 e2=>by
     cases i with
     | zero=>cases e1;cases e2;exact .nn _ _ _ _ _ hd
     | succ i=>cases e1
   ·cases e
 | nil=>
  obtain ⟨_,t0,n0,k0,p0⟩:=lC hx f _ _ c d y d' (hn.trans h)
  refine ⟨.nil,n1+n0,k1,fun g w vs hI hl hv=>?_⟩
  match vs,hl with
  | [v],_=>
   rcases (hv 0 _ _ rfl rfl:V g (.tl t false []) v).Pu with ⟨b,n,c2,rfl,hd⟩ | ⟨_,rfl⟩
   ·exact full _ (Nat.le_add_right _ _) g w _ hI rfl fun i p v e1 e2=>by
     cases i with
     | zero=>cases e1;cases e2;exact .nn _ _ _ _ _ hd
     | succ i=>cases e1
   ·exact (p0.less (S2:=hp ⟨.nil,n1+n0,fg [] d'++fg [] c,k1⟩) (l4 (Nat.le_add_left _ _)).1 (l4 (Nat.le_add_left _ _)).2) g w _ hI rfl fun i p v e1 e2=>by
     cases i with
     | zero=>cases e1;cases e2;exact .v _
     | succ i=>cases e1
end
end Go.Bm
namespace Go.Proofs.YtihiooaimdoapaaGreat
open Go.Bm
set_option maxRecDepth 20000
def R0:RK:=(.box (.pair (.pair (.int .i64) (.pair (.int .i64) (.pair (.int .i64) (.int .i64)))) (.pair (.cN (.cN (.pair (.int .u8) (.pair (.int .i64) (.int .i64))))) (.pair (.ptr 1) (.pair (.kA 5 3) (.pair (.kA 6 5) (.mp 7)))))))
def R1:RK:=(.box (.pair (.kA 3 6) (.ptr 2)))
def R2:RK:=(.box (.pair (.int .i64) (.pair (.int .i64) (.kA 4 2))))
def R3:RK:=(.row (.pair (.pair (.int .i64) (.pair (.int .i64) (.pair (.int .i64) (.int .i64)))) (.pair (.int .i64) (.int .i64))))
def R4:RK:=(.row (.pair (.int .i64) (.int .i64)))
def R5:RK:=(.row (.pair (.int .i64) (.pair (.int .u64) (.kA 9 1))))
def R6:RK:=(.row (.pair (.arr 4 (.int .u64)) (.cN (.pair (.int .i64) .bool))))
def R7:RK:=(.map true (.pair (.int .i64) (.pair (.int .i64) (.int .i64))) false (.ptr 8))
def R8:RK:=(.box (.pair (.pair (.int .i64) (.pair (.int .i64) (.int .i64))) (.pair (.int .i64) (.pair (.kA 10 1) .bool))))
def R9:RK:=(.row (.ptr 8))
def H7:RK:=(.row (.int .u64))
def C8:RK:=(.box (.pair (.pair (.int .i64) (.pair (.int .i64) (.pair (.int .i64) (.int .i64)))) (.pair (.cN (.cN (.pair (.int .u8) (.pair (.int .i64) (.int .i64))))) (.pair (.ptr 12) (.pair (.kA 17 5) (.pair (.arr 8 (.int .u64)) (.pair (.arr 8 (.int .i64)) (.pair (.arr 4 (.arr 4 (.int .u64))) (.arr 4 (.cN (.pair (.int .i64) .bool)))))))))))
def wS:RK:=(.box (.pair (.kA 14 4) (.pair (.kA 15 2) (.ptr 13))))
def uf:RK:=(.box (.pair (.int .i64) (.kA 16 1)))
def ue:RK:=(.row (.pair (.int .i64) (.pair (.int .i64) (.pair (.int .i64) (.int .i64)))))
def uT:RK:=(.row (.pair (.int .i64) (.int .i64)))
def qS:RK:=(.row .bool)
def CP:RK:=(.row (.pair (.int .i64) (.pair (.int .i64) (.pair (.int .i64) (.pair (.kA 18 1) .bool)))))
def AT:RK:=(.row (.int .u64))
def ty2:dP:=⟨.int .i64,1,8,.int .i64 0,[],(some (.int .i64)),false⟩
theorem te2:b0 Tryz.prog 2 ty2:=aE Tryz.underlying2 (bp (by kernel_rfl) rfl rfl) (fun _ h=>by cases h) (bw rfl (by kernel_rfl) (by kernel_rfl))
def ty3:dP:=⟨.int .i64,1,8,.int .i64 0,[],(some (.int .i64)),false⟩
theorem te3:b0 Tryz.prog 3 ty3:=aE Tryz.underlying3 (bp (by kernel_rfl) rfl rfl) (fun _ h=>by cases h) (bw rfl (by kernel_rfl) (by kernel_rfl))
def ty4:dP:=⟨.bool,1,1,.bool false,[],(some .bool),false⟩
theorem te4:b0 Tryz.prog 4 ty4:=aE Tryz.underlying4 (bp (by kernel_rfl) rfl rfl) (fun _ h=>by cases h) (bw rfl (by kernel_rfl) (by kernel_rfl))
def ty5:dP:=⟨.int .u8,1,1,.int .u8 0,[],(some (.int .u8)),false⟩
theorem te5:b0 Tryz.prog 5 ty5:=aE Tryz.underlying5 (bp (by kernel_rfl) rfl rfl) (fun _ h=>by cases h) (bw rfl (by kernel_rfl) (by kernel_rfl))
def ty9:dP:=⟨.string,1,16,.string ByteArray.empty,[],none,false⟩
theorem te9:b0 Tryz.prog 9 ty9:=aE Tryz.underlying9 (bp (by kernel_rfl) rfl rfl) (fun _ h=>by cases h) (lj rfl)
def WU:dP:=⟨.int .u64,1,8,.int .u64 0,[],(some (.int .u64)),false⟩
theorem adC:b0 Tryz.prog 12 WU:=aE Tryz.underlying12 (bp (by kernel_rfl) rfl rfl) (fun _ h=>by cases h) (bw rfl (by kernel_rfl) (by kernel_rfl))
def WT : dP := ⟨.struct #[⟨"msg", 9, 0, false, "", "runtime", 0⟩, ⟨"addr", 12, 1, false, "", "runtime", 16⟩], 2, 24, .agg #[.string ByteArray.empty, .int .u64 0], [(0, 1), (1, 1)], none, false⟩
theorem adA:b0 Tryz.prog 13 WT:=aE Tryz.underlying13 (bp (by kernel_rfl) rfl rfl) (fun fs h w=>by cases h;kernel_rfl) (lj rfl)
def WS:dP:=⟨.int .i32,1,4,.int .i32 0,[],(some (.int .i32)),false⟩
theorem adz:b0 Tryz.prog 21 WS:=aE Tryz.underlying21 (bp (by kernel_rfl) rfl rfl) (fun _ h=>by cases h) (bw rfl (by kernel_rfl) (by kernel_rfl))
def WR : dP := ⟨.struct #[⟨"Op", 5, 0, false, "", "", 0⟩, ⟨"A", 3, 1, false, "", "", 8⟩, ⟨"B", 3, 2, false, "", "", 16⟩], 3, 24, .agg #[.int .u8 0, .int .i64 0, .int .i64 0], [(0, 1), (1, 1), (2, 1)], (some (.pair (.int .u8) (.pair (.int .i64) (.int .i64)))), false⟩
theorem ady:b0 Tryz.prog 23 WR:=aE Tryz.underlying23 (bp (by kernel_rfl) rfl rfl) (fun fs h w=>by cases h;kernel_rfl) (bw rfl (by kernel_rfl) (by kernel_rfl))
def WQ : dP := ⟨.struct #[⟨"Op", 5, 0, false, "", "", 0⟩, ⟨"A", 3, 1, false, "", "", 8⟩, ⟨"B", 3, 2, false, "", "", 16⟩], 3, 24, .agg #[.int .u8 0, .int .i64 0, .int .i64 0], [(0, 1), (1, 1), (2, 1)], (some (.pair (.int .u8) (.pair (.int .i64) (.int .i64)))), false⟩
theorem adx:b0 Tryz.prog 24 WQ:=aE Tryz.underlying24 (bp (by kernel_rfl) rfl rfl) (fun fs h w=>by cases h;kernel_rfl) (bw rfl (by kernel_rfl) (by kernel_rfl))
def WO:dP:=⟨.slice 24,1,24,.slice none 0 0,[],(some (.cN (.pair (.int .u8) (.pair (.int .i64) (.int .i64))))),false⟩
theorem adw:b0 Tryz.prog 25 WO:=aE Tryz.underlying25 (bp (by kernel_rfl) rfl rfl) (fun _ h=>by cases h) (bw rfl (by kernel_rfl) (by kernel_rfl))
def WN:dP:=⟨.slice 25,1,24,.slice none 0 0,[],(some (.cN (.cN (.pair (.int .u8) (.pair (.int .i64) (.int .i64)))))),false⟩
theorem adv:b0 Tryz.prog 26 WN:=aE Tryz.underlying26 (bp (by kernel_rfl) rfl rfl) (fun _ h=>by cases h) (bw rfl (by kernel_rfl) (by kernel_rfl))
def WM:dP:=⟨.pointer 109,1,8,.pointer none,[],(some (.ptr 0)),false⟩
theorem adu:b0 Tryz.prog 27 WM:=aE Tryz.underlying27 (bp (by kernel_rfl) rfl rfl) (fun _ h=>by cases h) (bw rfl (by kernel_rfl) (by kernel_rfl))
def WL:dP:=⟨.int .i64,1,8,.int .i64 0,[],(some (.int .i64)),false⟩
theorem adt:b0 Tryz.prog 28 WL:=aE Tryz.underlying28 (bp (by kernel_rfl) rfl rfl) (fun _ h=>by cases h) (bw rfl (by kernel_rfl) (by kernel_rfl))
def WK : dP := ⟨.struct #[⟨"Scopes", 3, 0, false, "", "", 0⟩, ⟨"Threads", 3, 1, false, "", "", 8⟩, ⟨"Immortal", 3, 2, false, "", "", 16⟩, ⟨"Heap", 3, 3, false, "", "", 24⟩], 4, 32, .agg #[.int .i64 0, .int .i64 0, .int .i64 0, .int .i64 0], [(0, 1), (1, 1), (2, 1), (3, 1)], (some (.pair (.int .i64) (.pair (.int .i64) (.pair (.int .i64) (.int .i64))))), false⟩
theorem ads:b0 Tryz.prog 31 WK:=aE Tryz.underlying31 (bp (by kernel_rfl) rfl rfl) (fun fs h w=>by cases h;kernel_rfl) (bw rfl (by kernel_rfl) (by kernel_rfl))
def WJ : dP := ⟨.struct #[⟨"Scopes", 3, 0, false, "", "", 0⟩, ⟨"Threads", 3, 1, false, "", "", 8⟩, ⟨"Immortal", 3, 2, false, "", "", 16⟩, ⟨"Heap", 3, 3, false, "", "", 24⟩], 4, 32, .agg #[.int .i64 0, .int .i64 0, .int .i64 0, .int .i64 0], [(0, 1), (1, 1), (2, 1), (3, 1)], (some (.pair (.int .i64) (.pair (.int .i64) (.pair (.int .i64) (.int .i64))))), false⟩
theorem adq:b0 Tryz.prog 32 WJ:=aE Tryz.underlying32 (bp (by kernel_rfl) rfl rfl) (fun fs h w=>by cases h;kernel_rfl) (bw rfl (by kernel_rfl) (by kernel_rfl))
def WI:dP:=⟨.slice 3,1,24,.slice none 0 0,[],(some (.cN (.int .i64))),false⟩
theorem adp:b0 Tryz.prog 34 WI:=aE Tryz.underlying34 (bp (by kernel_rfl) rfl rfl) (fun _ h=>by cases h) (bw rfl (by kernel_rfl) (by kernel_rfl))
def WH : dP := ⟨.struct #[⟨"Code", 28, 0, false, "", "", 0⟩, ⟨"N", 3, 1, false, "", "", 8⟩, ⟨"Said", 34, 2, false, "", "", 16⟩], 3, 40, .agg #[.int .i64 0, .int .i64 0, .slice none 0 0], [(0, 1), (1, 1), (2, 1)], (some (.pair (.int .i64) (.pair (.int .i64) (.cN (.int .i64))))), false⟩
theorem ado:b0 Tryz.prog 35 WH:=aE Tryz.underlying35 (bp (by kernel_rfl) rfl rfl) (fun fs h w=>by cases h;kernel_rfl) (bw rfl (by kernel_rfl) (by kernel_rfl))
def WG : dP := ⟨.struct #[⟨"Code", 28, 0, false, "", "", 0⟩, ⟨"N", 3, 1, false, "", "", 8⟩, ⟨"Said", 34, 2, false, "", "", 16⟩], 3, 40, .agg #[.int .i64 0, .int .i64 0, .slice none 0 0], [(0, 1), (1, 1), (2, 1)], none, false⟩
theorem adn:b0 Tryz.prog 36 WG:=aE Tryz.underlying36 (bp (by kernel_rfl) rfl rfl) (fun fs h w=>by cases h;kernel_rfl) (lj rfl)
def WE : dP := ⟨.struct #[⟨"Op", 5, 0, false, "", "", 0⟩, ⟨"R", 5, 1, false, "", "", 1⟩, ⟨"H", 5, 2, false, "", "", 2⟩, ⟨"V", 5, 3, false, "", "", 3⟩, ⟨"A", 3, 4, false, "", "", 8⟩, ⟨"B", 3, 5, false, "", "", 16⟩, ⟨"C", 3, 6, false, "", "", 24⟩], 7, 32, .agg #[.int .u8 0, .int .u8 0, .int .u8 0, .int .u8 0, .int .i64 0, .int .i64 0, .int .i64 0], [(0, 1), (1, 1), (2, 1), (3, 1), (4, 1), (5, 1), (6, 1)], (some (.pair (.int .u8) (.pair (.int .u8) (.pair (.int .u8) (.pair (.int .u8) (.pair (.int .i64) (.pair (.int .i64) (.int .i64)))))))), false⟩
theorem adm:b0 Tryz.prog 39 WE:=aE Tryz.underlying39 (bp (by kernel_rfl) rfl rfl) (fun fs h w=>by cases h;kernel_rfl) (bw rfl (by kernel_rfl) (by kernel_rfl))
def WD : dP := ⟨.struct #[⟨"Op", 5, 0, false, "", "", 0⟩, ⟨"R", 5, 1, false, "", "", 1⟩, ⟨"H", 5, 2, false, "", "", 2⟩, ⟨"V", 5, 3, false, "", "", 3⟩, ⟨"A", 3, 4, false, "", "", 8⟩, ⟨"B", 3, 5, false, "", "", 16⟩, ⟨"C", 3, 6, false, "", "", 24⟩], 7, 32, .agg #[.int .u8 0, .int .u8 0, .int .u8 0, .int .u8 0, .int .i64 0, .int .i64 0, .int .i64 0], [(0, 1), (1, 1), (2, 1), (3, 1), (4, 1), (5, 1), (6, 1)], (some (.pair (.int .u8) (.pair (.int .u8) (.pair (.int .u8) (.pair (.int .u8) (.pair (.int .i64) (.pair (.int .i64) (.int .i64)))))))), false⟩
theorem adl:b0 Tryz.prog 40 WD:=aE Tryz.underlying40 (bp (by kernel_rfl) rfl rfl) (fun fs h w=>by cases h;kernel_rfl) (bw rfl (by kernel_rfl) (by kernel_rfl))
def WC : dP := ⟨.struct #[⟨"State", 3, 0, false, "", "", 0⟩, ⟨"Count", 3, 1, false, "", "", 8⟩, ⟨"Parent", 3, 2, false, "", "", 16⟩, ⟨"Epoch", 3, 3, false, "", "", 24⟩], 4, 32, .agg #[.int .i64 0, .int .i64 0, .int .i64 0, .int .i64 0], [(0, 1), (1, 1), (2, 1), (3, 1)], (some (.pair (.int .i64) (.pair (.int .i64) (.pair (.int .i64) (.int .i64))))), false⟩
theorem adk:b0 Tryz.prog 41 WC:=aE Tryz.underlying41 (bp (by kernel_rfl) rfl rfl) (fun fs h w=>by cases h;kernel_rfl) (bw rfl (by kernel_rfl) (by kernel_rfl))
def WB : dP := ⟨.struct #[⟨"State", 3, 0, false, "", "", 0⟩, ⟨"Count", 3, 1, false, "", "", 8⟩, ⟨"Parent", 3, 2, false, "", "", 16⟩, ⟨"Epoch", 3, 3, false, "", "", 24⟩], 4, 32, .agg #[.int .i64 0, .int .i64 0, .int .i64 0, .int .i64 0], [(0, 1), (1, 1), (2, 1), (3, 1)], (some (.pair (.int .i64) (.pair (.int .i64) (.pair (.int .i64) (.int .i64))))), false⟩
theorem adj:b0 Tryz.prog 42 WB:=aE Tryz.underlying42 (bp (by kernel_rfl) rfl rfl) (fun fs h w=>by cases h;kernel_rfl) (bw rfl (by kernel_rfl) (by kernel_rfl))
def WA:dP:=⟨.int .u64,1,8,.int .u64 0,[],(some (.int .u64)),false⟩
theorem adi:b0 Tryz.prog 45 WA:=aE Tryz.underlying45 (bp (by kernel_rfl) rfl rfl) (fun _ h=>by cases h) (bw rfl (by kernel_rfl) (by kernel_rfl))
def Wz:dP:=⟨.slice 54,1,24,.slice none 0 0,[],(some (.cN (.pair (.int .i64) (.pair (.int .u8) (.pair (.int .u8) (.pair (.int .u8) (.pair (.int .u8) (.pair (.int .i64) (.pair (.int .i64) (.int .i64)))))))))),false⟩
theorem adh:b0 Tryz.prog 50 Wz:=aE Tryz.underlying50 (bp (by kernel_rfl) rfl rfl) (fun _ h=>by cases h) (bw rfl (by kernel_rfl) (by kernel_rfl))
def Wy : dP := ⟨.struct #[⟨"Thread", 3, 0, false, "", "", 0⟩, ⟨"Call", 40, 1, false, "", "", 8⟩], 8, 40, .agg #[.int .i64 0, .int .u8 0, .int .u8 0, .int .u8 0, .int .u8 0, .int .i64 0, .int .i64 0, .int .i64 0], [(0, 1), (1, 7)], (some (.pair (.int .i64) (.pair (.int .u8) (.pair (.int .u8) (.pair (.int .u8) (.pair (.int .u8) (.pair (.int .i64) (.pair (.int .i64) (.int .i64))))))))), false⟩
theorem adg:b0 Tryz.prog 53 Wy:=aE Tryz.underlying53 (bp (by kernel_rfl) rfl rfl) (fun fs h w=>by cases h;kernel_rfl) (bw rfl (by kernel_rfl) (by kernel_rfl))
def Wx : dP := ⟨.struct #[⟨"Thread", 3, 0, false, "", "", 0⟩, ⟨"Call", 40, 1, false, "", "", 8⟩], 8, 40, .agg #[.int .i64 0, .int .u8 0, .int .u8 0, .int .u8 0, .int .u8 0, .int .i64 0, .int .i64 0, .int .i64 0], [(0, 1), (1, 7)], (some (.pair (.int .i64) (.pair (.int .u8) (.pair (.int .u8) (.pair (.int .u8) (.pair (.int .u8) (.pair (.int .i64) (.pair (.int .i64) (.int .i64))))))))), false⟩
theorem adf:b0 Tryz.prog 54 Wx:=aE Tryz.underlying54 (bp (by kernel_rfl) rfl rfl) (fun fs h w=>by cases h;kernel_rfl) (bw rfl (by kernel_rfl) (by kernel_rfl))
def Ww:dP:=⟨.slice 58,1,24,.slice none 0 0,[],(some (.cN (.pair (.int .i64) .bool))),false⟩
theorem ade:b0 Tryz.prog 55 Ww:=aE Tryz.underlying55 (bp (by kernel_rfl) rfl rfl) (fun _ h=>by cases h) (bw rfl (by kernel_rfl) (by kernel_rfl))
def Wv : dP := ⟨.struct #[⟨"Scope", 3, 0, false, "", "", 0⟩, ⟨"Counted", 4, 1, false, "", "", 8⟩], 2, 16, .agg #[.int .i64 0, .bool false], [(0, 1), (1, 1)], (some (.pair (.int .i64) .bool)), false⟩
theorem adb:b0 Tryz.prog 57 Wv:=aE Tryz.underlying57 (bp (by kernel_rfl) rfl rfl) (fun fs h w=>by cases h;kernel_rfl) (bw rfl (by kernel_rfl) (by kernel_rfl))
def Wu : dP := ⟨.struct #[⟨"Scope", 3, 0, false, "", "", 0⟩, ⟨"Counted", 4, 1, false, "", "", 8⟩], 2, 16, .agg #[.int .i64 0, .bool false], [(0, 1), (1, 1)], (some (.pair (.int .i64) .bool)), false⟩
theorem ada:b0 Tryz.prog 58 Wu:=aE Tryz.underlying58 (bp (by kernel_rfl) rfl rfl) (fun fs h w=>by cases h;kernel_rfl) (bw rfl (by kernel_rfl) (by kernel_rfl))
def Wt:dP:=⟨.pointer 71,1,8,.pointer none,[],(some (.ptr 11)),false⟩
theorem ac_:b0 Tryz.prog 60 Wt:=aE Tryz.underlying60 (bp (by kernel_rfl) rfl rfl) (fun _ h=>by cases h) (bw rfl (by kernel_rfl) (by kernel_rfl))
def Ws:dP:=⟨.pointer 98,1,8,.pointer none,[],(some (.ptr 12)),false⟩
theorem ac9:b0 Tryz.prog 63 Ws:=aE Tryz.underlying63 (bp (by kernel_rfl) rfl rfl) (fun _ h=>by cases h) (bw rfl (by kernel_rfl) (by kernel_rfl))
def Wr:dP:=⟨.slice 77,1,24,.slice none 0 0,[],none,false⟩
theorem ac8:b0 Tryz.prog 64 Wr:=aE Tryz.underlying64 (bp (by kernel_rfl) rfl rfl) (fun _ h=>by cases h) (lj rfl)
def Wq:dP:=⟨.array 8 45,8,64,.agg #[.int .u64 0,.int .u64 0,.int .u64 0,.int .u64 0,.int .u64 0,.int .u64 0,.int .u64 0,.int .u64 0],[],(some (.arr 8 (.int .u64))),false⟩
theorem ac7:b0 Tryz.prog 65 Wq:=aE Tryz.underlying65 (bp (by kernel_rfl) rfl rfl) (fun _ h=>by cases h) (bw rfl (by kernel_rfl) (by kernel_rfl))
def Wp:dP:=⟨.array 8 3,8,64,.agg #[.int .i64 0,.int .i64 0,.int .i64 0,.int .i64 0,.int .i64 0,.int .i64 0,.int .i64 0,.int .i64 0],[],(some (.arr 8 (.int .i64))),false⟩
theorem ac6:b0 Tryz.prog 66 Wp:=aE Tryz.underlying66 (bp (by kernel_rfl) rfl rfl) (fun _ h=>by cases h) (bw rfl (by kernel_rfl) (by kernel_rfl))
def Wo:dP:=⟨.array 4 45,4,32,.agg #[.int .u64 0,.int .u64 0,.int .u64 0,.int .u64 0],[],(some (.arr 4 (.int .u64))),false⟩
theorem ac5:b0 Tryz.prog 67 Wo:=aE Tryz.underlying67 (bp (by kernel_rfl) rfl rfl) (fun _ h=>by cases h) (bw rfl (by kernel_rfl) (by kernel_rfl))
def Wn:dP:=⟨.array 4 67,16,128,.agg #[.int .u64 0,.int .u64 0,.int .u64 0,.int .u64 0,.int .u64 0,.int .u64 0,.int .u64 0,.int .u64 0,.int .u64 0,.int .u64 0,.int .u64 0,.int .u64 0,.int .u64 0,.int .u64 0,.int .u64 0,.int .u64 0],[],(some (.arr 4 (.arr 4 (.int .u64)))),false⟩
theorem ac4:b0 Tryz.prog 68 Wn:=aE Tryz.underlying68 (bp (by kernel_rfl) rfl rfl) (fun _ h=>by cases h) (bw rfl (by kernel_rfl) (by kernel_rfl))
def Wm:dP:=⟨.array 4 55,4,96,.agg #[.slice none 0 0,.slice none 0 0,.slice none 0 0,.slice none 0 0],[],(some (.arr 4 (.cN (.pair (.int .i64) .bool)))),false⟩
theorem ac3:b0 Tryz.prog 69 Wm:=aE Tryz.underlying69 (bp (by kernel_rfl) rfl rfl) (fun _ h=>by cases h) (bw rfl (by kernel_rfl) (by kernel_rfl))
def Wl : dP := ⟨.struct #[⟨"P", 32, 0, false, "", "", 0⟩, ⟨"F", 26, 4, false, "", "", 32⟩, ⟨"S", 63, 5, false, "", "", 56⟩, ⟨"O", 64, 6, false, "", "", 64⟩, ⟨"Gate", 65, 7, false, "", "", 88⟩, ⟨"Bytes", 66, 15, false, "", "", 152⟩, ⟨"R", 68, 23, false, "", "", 216⟩, ⟨"C", 69, 39, false, "", "", 344⟩], 43, 440, .agg #[.int .i64 0, .int .i64 0, .int .i64 0, .int .i64 0, .slice none 0 0, .pointer none, .slice none 0 0, .int .u64 0, .int .u64 0, .int .u64 0, .int .u64 0, .int .u64 0, .int .u64 0, .int .u64 0, .int .u64 0, .int .i64 0, .int .i64 0, .int .i64 0, .int .i64 0, .int .i64 0, .int .i64 0, .int .i64 0, .int .i64 0, .int .u64 0, .int .u64 0, .int .u64 0, .int .u64 0, .int .u64 0, .int .u64 0, .int .u64 0, .int .u64 0, .int .u64 0, .int .u64 0, .int .u64 0, .int .u64 0, .int .u64 0, .int .u64 0, .int .u64 0, .int .u64 0, .slice none 0 0, .slice none 0 0, .slice none 0 0, .slice none 0 0], [(0, 4), (4, 1), (5, 1), (6, 1), (7, 8), (15, 8), (23, 16), (39, 4)], none, false⟩
theorem ac2:b0 Tryz.prog 70 Wl:=aE Tryz.underlying70 (bp (by kernel_rfl) rfl rfl) (fun fs h w=>by cases h;kernel_rfl) (lj rfl)
def Wk : dP := ⟨.struct #[⟨"P", 32, 0, false, "", "", 0⟩, ⟨"F", 26, 4, false, "", "", 32⟩, ⟨"S", 63, 5, false, "", "", 56⟩, ⟨"O", 64, 6, false, "", "", 64⟩, ⟨"Gate", 65, 7, false, "", "", 88⟩, ⟨"Bytes", 66, 15, false, "", "", 152⟩, ⟨"R", 68, 23, false, "", "", 216⟩, ⟨"C", 69, 39, false, "", "", 344⟩], 43, 440, .agg #[.int .i64 0, .int .i64 0, .int .i64 0, .int .i64 0, .slice none 0 0, .pointer none, .slice none 0 0, .int .u64 0, .int .u64 0, .int .u64 0, .int .u64 0, .int .u64 0, .int .u64 0, .int .u64 0, .int .u64 0, .int .i64 0, .int .i64 0, .int .i64 0, .int .i64 0, .int .i64 0, .int .i64 0, .int .i64 0, .int .i64 0, .int .u64 0, .int .u64 0, .int .u64 0, .int .u64 0, .int .u64 0, .int .u64 0, .int .u64 0, .int .u64 0, .int .u64 0, .int .u64 0, .int .u64 0, .int .u64 0, .int .u64 0, .int .u64 0, .int .u64 0, .int .u64 0, .slice none 0 0, .slice none 0 0, .slice none 0 0, .slice none 0 0], [(0, 4), (4, 1), (5, 1), (6, 1), (7, 8), (15, 8), (23, 16), (39, 4)], (some (.pair (.pair (.int .i64) (.pair (.int .i64) (.pair (.int .i64) (.int .i64)))) (.pair (.cN (.cN (.pair (.int .u8) (.pair (.int .i64) (.int .i64))))) (.pair (.ptr 12) (.pair (.kA 17 5) (.pair (.arr 8 (.int .u64)) (.pair (.arr 8 (.int .i64)) (.pair (.arr 4 (.arr 4 (.int .u64))) (.arr 4 (.cN (.pair (.int .i64) .bool))))))))))), false⟩
theorem ac1:b0 Tryz.prog 71 Wk:=aE Tryz.underlying71 (bp (by kernel_rfl) rfl rfl) (fun fs h w=>by cases h;kernel_rfl) (bw rfl (by kernel_rfl) (by kernel_rfl))
def Wj:dP:=⟨.slice 45,1,24,.slice none 0 0,[],(some (.cN (.int .u64))),false⟩
theorem ac0:b0 Tryz.prog 72 Wj:=aE Tryz.underlying72 (bp (by kernel_rfl) rfl rfl) (fun _ h=>by cases h) (bw rfl (by kernel_rfl) (by kernel_rfl))
def Wi : dP := ⟨.struct #[⟨"Scope", 3, 0, false, "", "", 0⟩, ⟨"At", 3, 1, false, "", "", 8⟩, ⟨"Tag", 3, 2, false, "", "", 16⟩, ⟨"Slots", 72, 3, false, "", "", 24⟩, ⟨"Done", 4, 4, false, "", "", 48⟩], 5, 56, .agg #[.int .i64 0, .int .i64 0, .int .i64 0, .slice none 0 0, .bool false], [(0, 1), (1, 1), (2, 1), (3, 1), (4, 1)], (some (.pair (.int .i64) (.pair (.int .i64) (.pair (.int .i64) (.pair (.cN (.int .u64)) .bool))))), false⟩
theorem acZ:b0 Tryz.prog 76 Wi:=aE Tryz.underlying76 (bp (by kernel_rfl) rfl rfl) (fun fs h w=>by cases h;kernel_rfl) (bw rfl (by kernel_rfl) (by kernel_rfl))
def Wh : dP := ⟨.struct #[⟨"Scope", 3, 0, false, "", "", 0⟩, ⟨"At", 3, 1, false, "", "", 8⟩, ⟨"Tag", 3, 2, false, "", "", 16⟩, ⟨"Slots", 72, 3, false, "", "", 24⟩, ⟨"Done", 4, 4, false, "", "", 48⟩], 5, 56, .agg #[.int .i64 0, .int .i64 0, .int .i64 0, .slice none 0 0, .bool false], [(0, 1), (1, 1), (2, 1), (3, 1), (4, 1)], (some (.pair (.int .i64) (.pair (.int .i64) (.pair (.int .i64) (.pair (.kA 18 1) .bool))))), false⟩
theorem acY:b0 Tryz.prog 77 Wh:=aE Tryz.underlying77 (bp (by kernel_rfl) rfl rfl) (fun fs h w=>by cases h;kernel_rfl) (bw rfl (by kernel_rfl) (by kernel_rfl))
def Wg:dP:=⟨.array 2 72,2,48,.agg #[.slice none 0 0,.slice none 0 0],[],(some (.arr 2 (.cN (.int .u64)))),false⟩
theorem acX:b0 Tryz.prog 79 Wg:=aE Tryz.underlying79 (bp (by kernel_rfl) rfl rfl) (fun _ h=>by cases h) (bw rfl (by kernel_rfl) (by kernel_rfl))
def Wf:dP:=⟨.array 2 55,2,48,.agg #[.slice none 0 0,.slice none 0 0],[],(some (.arr 2 (.cN (.pair (.int .i64) .bool)))),false⟩
theorem acW:b0 Tryz.prog 80 Wf:=aE Tryz.underlying80 (bp (by kernel_rfl) rfl rfl) (fun _ h=>by cases h) (bw rfl (by kernel_rfl) (by kernel_rfl))
def We:dP:=⟨.array 4 42,16,128,.agg #[.int .i64 0,.int .i64 0,.int .i64 0,.int .i64 0,.int .i64 0,.int .i64 0,.int .i64 0,.int .i64 0,.int .i64 0,.int .i64 0,.int .i64 0,.int .i64 0,.int .i64 0,.int .i64 0,.int .i64 0,.int .i64 0],[],(some (.arr 4 (.pair (.int .i64) (.pair (.int .i64) (.pair (.int .i64) (.int .i64)))))),false⟩
theorem acV:b0 Tryz.prog 81 We:=aE Tryz.underlying81 (bp (by kernel_rfl) rfl rfl) (fun _ h=>by cases h) (bw rfl (by kernel_rfl) (by kernel_rfl))
def Wd:dP:=⟨.array 4 3,4,32,.agg #[.int .i64 0,.int .i64 0,.int .i64 0,.int .i64 0],[],(some (.arr 4 (.int .i64))),false⟩
theorem acU:b0 Tryz.prog 82 Wd:=aE Tryz.underlying82 (bp (by kernel_rfl) rfl rfl) (fun _ h=>by cases h) (bw rfl (by kernel_rfl) (by kernel_rfl))
def Wc:dP:=⟨.array 12 45,12,96,.agg #[.int .u64 0,.int .u64 0,.int .u64 0,.int .u64 0,.int .u64 0,.int .u64 0,.int .u64 0,.int .u64 0,.int .u64 0,.int .u64 0,.int .u64 0,.int .u64 0],[],(some (.arr 12 (.int .u64))),false⟩
theorem acT:b0 Tryz.prog 85 Wc:=aE Tryz.underlying85 (bp (by kernel_rfl) rfl rfl) (fun _ h=>by cases h) (bw rfl (by kernel_rfl) (by kernel_rfl))
def Wb : dP := ⟨.struct #[⟨"Scope", 3, 0, false, "", "", 0⟩, ⟨"Epoch", 3, 1, false, "", "", 8⟩, ⟨"At", 3, 2, false, "", "", 16⟩], 3, 24, .agg #[.int .i64 0, .int .i64 0, .int .i64 0], [(0, 1), (1, 1), (2, 1)], (some (.pair (.int .i64) (.pair (.int .i64) (.int .i64)))), false⟩
theorem acS:b0 Tryz.prog 88 Wb:=aE Tryz.underlying88 (bp (by kernel_rfl) rfl rfl) (fun fs h w=>by cases h;kernel_rfl) (bw rfl (by kernel_rfl) (by kernel_rfl))
def Wa : dP := ⟨.struct #[⟨"Scope", 3, 0, false, "", "", 0⟩, ⟨"Epoch", 3, 1, false, "", "", 8⟩, ⟨"At", 3, 2, false, "", "", 16⟩], 3, 24, .agg #[.int .i64 0, .int .i64 0, .int .i64 0], [(0, 1), (1, 1), (2, 1)], (some (.pair (.int .i64) (.pair (.int .i64) (.int .i64)))), false⟩
theorem acR:b0 Tryz.prog 89 Wa:=aE Tryz.underlying89 (bp (by kernel_rfl) rfl rfl) (fun fs h w=>by cases h;kernel_rfl) (bw rfl (by kernel_rfl) (by kernel_rfl))
def V_:dP:=⟨.slice 42,1,24,.slice none 0 0,[],(some (.cN (.pair (.int .i64) (.pair (.int .i64) (.pair (.int .i64) (.int .i64)))))),false⟩
theorem acQ:b0 Tryz.prog 94 V_:=aE Tryz.underlying94 (bp (by kernel_rfl) rfl rfl) (fun _ h=>by cases h) (bw rfl (by kernel_rfl) (by kernel_rfl))
def V9:dP:=⟨.slice 151,1,24,.slice none 0 0,[],(some (.cN (.pair (.int .i64) (.int .i64)))),false⟩
theorem acP:b0 Tryz.prog 95 V9:=aE Tryz.underlying95 (bp (by kernel_rfl) rfl rfl) (fun _ h=>by cases h) (bw rfl (by kernel_rfl) (by kernel_rfl))
def V8:dP:=⟨.pointer 217,1,8,.pointer none,[],(some (.ptr 13)),false⟩
theorem acO:b0 Tryz.prog 96 V8:=aE Tryz.underlying96 (bp (by kernel_rfl) rfl rfl) (fun _ h=>by cases h) (bw rfl (by kernel_rfl) (by kernel_rfl))
def V7 : dP := ⟨.struct #[⟨"C", 94, 0, false, "", "", 0⟩, ⟨"X", 95, 1, false, "", "", 24⟩, ⟨"G", 96, 2, false, "", "", 48⟩], 3, 56, .agg #[.slice none 0 0, .slice none 0 0, .pointer none], [(0, 1), (1, 1), (2, 1)], (some (.pair (.cN (.pair (.int .i64) (.pair (.int .i64) (.pair (.int .i64) (.int .i64))))) (.pair (.cN (.pair (.int .i64) (.int .i64))) (.ptr 13)))), false⟩
theorem acN:b0 Tryz.prog 97 V7:=aE Tryz.underlying97 (bp (by kernel_rfl) rfl rfl) (fun fs h w=>by cases h;kernel_rfl) (bw rfl (by kernel_rfl) (by kernel_rfl))
def V6 : dP := ⟨.struct #[⟨"C", 94, 0, false, "", "", 0⟩, ⟨"X", 95, 1, false, "", "", 24⟩, ⟨"G", 96, 2, false, "", "", 48⟩], 3, 56, .agg #[.slice none 0 0, .slice none 0 0, .pointer none], [(0, 1), (1, 1), (2, 1)], (some (.pair (.kA 14 4) (.pair (.kA 15 2) (.ptr 13)))), false⟩
theorem acM:b0 Tryz.prog 98 V6:=aE Tryz.underlying98 (bp (by kernel_rfl) rfl rfl) (fun fs h w=>by cases h;kernel_rfl) (bw rfl (by kernel_rfl) (by kernel_rfl))
def Ps:dP:=⟨.pointer 149,1,8,.pointer none,[],(some (.ptr 1)),false⟩
theorem XI:b0 Tryz.prog 101 Ps:=aE Tryz.underlying101 (bp (by kernel_rfl) rfl rfl) (fun _ h=>by cases h) (bw rfl (by kernel_rfl) (by kernel_rfl))
def Pr:dP:=⟨.slice 123,1,24,.slice none 0 0,[],none,false⟩
theorem XH:b0 Tryz.prog 105 Pr:=aE Tryz.underlying105 (bp (by kernel_rfl) rfl rfl) (fun _ h=>by cases h) (lj rfl)
def Pq:dP:=⟨.slice 113,1,24,.slice none 0 0,[],(some (.cN (.pair (.arr 4 (.int .u64)) (.cN (.pair (.int .i64) .bool))))),false⟩
theorem XG:b0 Tryz.prog 106 Pq:=aE Tryz.underlying106 (bp (by kernel_rfl) rfl rfl) (fun _ h=>by cases h) (bw rfl (by kernel_rfl) (by kernel_rfl))
def Pp:dP:=⟨.map 89 136,1,8,.map none,[],none,false⟩
theorem XF:b0 Tryz.prog 107 Pp:=aE Tryz.underlying107 (bp (by kernel_rfl) rfl rfl) (fun _ h=>by cases h) (lj rfl)
def Po : dP := ⟨.struct #[⟨"plan", 32, 0, false, "", "penfold/model", 0⟩, ⟨"fins", 26, 4, false, "", "penfold/model", 32⟩, ⟨"scopes", 101, 5, false, "", "penfold/model", 56⟩, ⟨"areas", 105, 6, false, "", "penfold/model", 64⟩, ⟨"threads", 106, 7, false, "", "penfold/model", 88⟩, ⟨"objects", 107, 8, false, "", "penfold/model", 112⟩], 9, 120, .agg #[.int .i64 0, .int .i64 0, .int .i64 0, .int .i64 0, .slice none 0 0, .pointer none, .slice none 0 0, .slice none 0 0, .map none], [(0, 4), (4, 1), (5, 1), (6, 1), (7, 1), (8, 1)], none, false⟩
theorem XE:b0 Tryz.prog 108 Po:=aE Tryz.underlying108 (bp (by kernel_rfl) rfl rfl) (fun fs h w=>by cases h;kernel_rfl) (lj rfl)
def Pn : dP := ⟨.struct #[⟨"plan", 32, 0, false, "", "penfold/model", 0⟩, ⟨"fins", 26, 4, false, "", "penfold/model", 32⟩, ⟨"scopes", 101, 5, false, "", "penfold/model", 56⟩, ⟨"areas", 105, 6, false, "", "penfold/model", 64⟩, ⟨"threads", 106, 7, false, "", "penfold/model", 88⟩, ⟨"objects", 107, 8, false, "", "penfold/model", 112⟩], 9, 120, .agg #[.int .i64 0, .int .i64 0, .int .i64 0, .int .i64 0, .slice none 0 0, .pointer none, .slice none 0 0, .slice none 0 0, .map none], [(0, 4), (4, 1), (5, 1), (6, 1), (7, 1), (8, 1)], (some (.pair (.pair (.int .i64) (.pair (.int .i64) (.pair (.int .i64) (.int .i64)))) (.pair (.cN (.cN (.pair (.int .u8) (.pair (.int .i64) (.int .i64))))) (.pair (.ptr 1) (.pair (.kA 5 3) (.pair (.kA 6 5) (.mp 7))))))), false⟩
theorem XD:b0 Tryz.prog 109 Pn:=aE Tryz.underlying109 (bp (by kernel_rfl) rfl rfl) (fun fs h w=>by cases h;kernel_rfl) (bw rfl (by kernel_rfl) (by kernel_rfl))
def Pm:dP:=⟨.pointer 113,1,8,.pointer none,[],none,false⟩
theorem XC:b0 Tryz.prog 111 Pm:=aE Tryz.underlying111 (bp (by kernel_rfl) rfl rfl) (fun _ h=>by cases h) (lj rfl)
def Pk : dP := ⟨.struct #[⟨"regs", 67, 0, false, "", "penfold/model", 0⟩, ⟨"entries", 55, 4, false, "", "penfold/model", 32⟩], 5, 56, .agg #[.int .u64 0, .int .u64 0, .int .u64 0, .int .u64 0, .slice none 0 0], [(0, 4), (4, 1)], (some (.pair (.arr 4 (.int .u64)) (.cN (.pair (.int .i64) .bool)))), false⟩
theorem XB:b0 Tryz.prog 112 Pk:=aE Tryz.underlying112 (bp (by kernel_rfl) rfl rfl) (fun fs h w=>by cases h;kernel_rfl) (bw rfl (by kernel_rfl) (by kernel_rfl))
def Pj : dP := ⟨.struct #[⟨"regs", 67, 0, false, "", "penfold/model", 0⟩, ⟨"entries", 55, 4, false, "", "penfold/model", 32⟩], 5, 56, .agg #[.int .u64 0, .int .u64 0, .int .u64 0, .int .u64 0, .slice none 0 0], [(0, 4), (4, 1)], (some (.pair (.arr 4 (.int .u64)) (.cN (.pair (.int .i64) .bool)))), false⟩
theorem XA:b0 Tryz.prog 113 Pj:=aE Tryz.underlying113 (bp (by kernel_rfl) rfl rfl) (fun fs h w=>by cases h;kernel_rfl) (bw rfl (by kernel_rfl) (by kernel_rfl))
def Ph : dP := ⟨.struct #[⟨"Model", 27, 0, true, "", "", 0⟩, ⟨"thread", 111, 1, true, "", "penfold/model", 8⟩, ⟨"c", 40, 2, false, "", "penfold/model", 16⟩], 9, 48, .agg #[.pointer none, .pointer none, .int .u8 0, .int .u8 0, .int .u8 0, .int .u8 0, .int .i64 0, .int .i64 0, .int .i64 0], [(0, 1), (1, 1), (2, 7)], none, false⟩
theorem Xz:b0 Tryz.prog 114 Ph:=aE Tryz.underlying114 (bp (by kernel_rfl) rfl rfl) (fun fs h w=>by cases h;kernel_rfl) (lj rfl)
def Pg : dP := ⟨.struct #[⟨"Model", 27, 0, true, "", "", 0⟩, ⟨"thread", 111, 1, true, "", "penfold/model", 8⟩, ⟨"c", 40, 2, false, "", "penfold/model", 16⟩], 9, 48, .agg #[.pointer none, .pointer none, .int .u8 0, .int .u8 0, .int .u8 0, .int .u8 0, .int .i64 0, .int .i64 0, .int .i64 0], [(0, 1), (1, 1), (2, 7)], none, false⟩
theorem Xy:b0 Tryz.prog 115 Pg:=aE Tryz.underlying115 (bp (by kernel_rfl) rfl rfl) (fun fs h w=>by cases h;kernel_rfl) (lj rfl)
def Pf:dP:=⟨.func #[] #[36] false,1,8,.nilFunc,[],none,false⟩
theorem Xx:b0 Tryz.prog 116 Pf:=aE Tryz.underlying116 (bp (by kernel_rfl) rfl rfl) (fun _ h=>by cases h) (lj rfl)
def Pe:dP:=⟨.map 5 116,1,8,.map none,[],none,false⟩
theorem Xw:b0 Tryz.prog 117 Pe:=aE Tryz.underlying117 (bp (by kernel_rfl) rfl rfl) (fun _ h=>by cases h) (lj rfl)
def Pd:dP:=⟨.slice 136,1,24,.slice none 0 0,[],none,false⟩
theorem Xv:b0 Tryz.prog 121 Pd:=aE Tryz.underlying121 (bp (by kernel_rfl) rfl rfl) (fun _ h=>by cases h) (lj rfl)
def Pc : dP := ⟨.struct #[⟨"used", 3, 0, false, "", "penfold/model", 0⟩, ⟨"portal", 45, 1, false, "", "penfold/model", 8⟩, ⟨"objects", 121, 2, false, "", "penfold/model", 16⟩], 3, 40, .agg #[.int .i64 0, .int .u64 0, .slice none 0 0], [(0, 1), (1, 1), (2, 1)], none, false⟩
theorem Xu:b0 Tryz.prog 122 Pc:=aE Tryz.underlying122 (bp (by kernel_rfl) rfl rfl) (fun fs h w=>by cases h;kernel_rfl) (lj rfl)
def Pb : dP := ⟨.struct #[⟨"used", 3, 0, false, "", "penfold/model", 0⟩, ⟨"portal", 45, 1, false, "", "penfold/model", 8⟩, ⟨"objects", 121, 2, false, "", "penfold/model", 16⟩], 3, 40, .agg #[.int .i64 0, .int .u64 0, .slice none 0 0], [(0, 1), (1, 1), (2, 1)], (some (.pair (.int .i64) (.pair (.int .u64) (.kA 9 1)))), false⟩
theorem Xs:b0 Tryz.prog 123 Pb:=aE Tryz.underlying123 (bp (by kernel_rfl) rfl rfl) (fun fs h w=>by cases h;kernel_rfl) (bw rfl (by kernel_rfl) (by kernel_rfl))
def Pa:dP:=⟨.pointer 139,1,8,.pointer none,[],(some (.ptr 8)),false⟩
theorem Xr:b0 Tryz.prog 136 Pa:=aE Tryz.underlying136 (bp (by kernel_rfl) rfl rfl) (fun _ h=>by cases h) (bw rfl (by kernel_rfl) (by kernel_rfl))
def O_ : dP := ⟨.struct #[⟨"ref", 89, 0, false, "", "penfold/model", 0⟩, ⟨"tag", 3, 3, false, "", "penfold/model", 24⟩, ⟨"slots", 72, 4, false, "", "penfold/model", 32⟩, ⟨"done", 4, 5, false, "", "penfold/model", 56⟩], 6, 64, .agg #[.int .i64 0, .int .i64 0, .int .i64 0, .int .i64 0, .slice none 0 0, .bool false], [(0, 3), (3, 1), (4, 1), (5, 1)], (some (.pair (.pair (.int .i64) (.pair (.int .i64) (.int .i64))) (.pair (.int .i64) (.pair (.cN (.int .u64)) .bool)))), false⟩
theorem Xq:b0 Tryz.prog 138 O_:=aE Tryz.underlying138 (bp (by kernel_rfl) rfl rfl) (fun fs h w=>by cases h;kernel_rfl) (bw rfl (by kernel_rfl) (by kernel_rfl))
def O9 : dP := ⟨.struct #[⟨"ref", 89, 0, false, "", "penfold/model", 0⟩, ⟨"tag", 3, 3, false, "", "penfold/model", 24⟩, ⟨"slots", 72, 4, false, "", "penfold/model", 32⟩, ⟨"done", 4, 5, false, "", "penfold/model", 56⟩], 6, 64, .agg #[.int .i64 0, .int .i64 0, .int .i64 0, .int .i64 0, .slice none 0 0, .bool false], [(0, 3), (3, 1), (4, 1), (5, 1)], (some (.pair (.pair (.int .i64) (.pair (.int .i64) (.int .i64))) (.pair (.int .i64) (.pair (.kA 10 1) .bool)))), false⟩
theorem Xp:b0 Tryz.prog 139 O9:=aE Tryz.underlying139 (bp (by kernel_rfl) rfl rfl) (fun fs h w=>by cases h;kernel_rfl) (bw rfl (by kernel_rfl) (by kernel_rfl))
def O8:dP:=⟨.func #[196,24] #[] false,1,8,.nilFunc,[],none,false⟩
theorem Xo:b0 Tryz.prog 141 O8:=aE Tryz.underlying141 (bp (by kernel_rfl) rfl rfl) (fun _ h=>by cases h) (lj rfl)
def O7 : dP := ⟨.struct #[⟨"a", 3, 0, false, "", "penfold/fin", 0⟩, ⟨"b", 3, 1, false, "", "penfold/fin", 8⟩, ⟨"do", 141, 2, false, "", "penfold/fin", 16⟩], 3, 24, .agg #[.int .i64 0, .int .i64 0, .nilFunc], [(0, 1), (1, 1), (2, 1)], none, false⟩
theorem Xn:b0 Tryz.prog 142 O7:=aE Tryz.underlying142 (bp (by kernel_rfl) rfl rfl) (fun fs h w=>by cases h;kernel_rfl) (lj rfl)
def O6 : dP := ⟨.struct #[⟨"a", 3, 0, false, "", "penfold/fin", 0⟩, ⟨"b", 3, 1, false, "", "penfold/fin", 8⟩, ⟨"do", 141, 2, false, "", "penfold/fin", 16⟩], 3, 24, .agg #[.int .i64 0, .int .i64 0, .nilFunc], [(0, 1), (1, 1), (2, 1)], none, false⟩
theorem Xm:b0 Tryz.prog 143 O6:=aE Tryz.underlying143 (bp (by kernel_rfl) rfl rfl) (fun fs h w=>by cases h;kernel_rfl) (lj rfl)
def O5:dP:=⟨.array 5 143,15,120,.agg #[.int .i64 0,.int .i64 0,.nilFunc,.int .i64 0,.int .i64 0,.nilFunc,.int .i64 0,.int .i64 0,.nilFunc,.int .i64 0,.int .i64 0,.nilFunc,.int .i64 0,.int .i64 0,.nilFunc],[],none,false⟩
theorem Xl:b0 Tryz.prog 144 O5:=aE Tryz.underlying144 (bp (by kernel_rfl) rfl rfl) (fun _ h=>by cases h) (lj rfl)
def O4:dP:=⟨.slice 153,1,24,.slice none 0 0,[],(some (.cN (.pair (.pair (.int .i64) (.pair (.int .i64) (.pair (.int .i64) (.int .i64)))) (.pair (.int .i64) (.int .i64))))),false⟩
theorem Xk:b0 Tryz.prog 146 O4:=aE Tryz.underlying146 (bp (by kernel_rfl) rfl rfl) (fun _ h=>by cases h) (bw rfl (by kernel_rfl) (by kernel_rfl))
def O3:dP:=⟨.pointer 201,1,8,.pointer none,[],(some (.ptr 2)),false⟩
theorem Xj:b0 Tryz.prog 147 O3:=aE Tryz.underlying147 (bp (by kernel_rfl) rfl rfl) (fun _ h=>by cases h) (bw rfl (by kernel_rfl) (by kernel_rfl))
def O2 : dP := ⟨.struct #[⟨"l", 146, 0, false, "", "penfold/scopes", 0⟩, ⟨"ground", 147, 1, false, "", "penfold/scopes", 24⟩], 2, 32, .agg #[.slice none 0 0, .pointer none], [(0, 1), (1, 1)], (some (.pair (.cN (.pair (.pair (.int .i64) (.pair (.int .i64) (.pair (.int .i64) (.int .i64)))) (.pair (.int .i64) (.int .i64)))) (.ptr 2))), false⟩
theorem Xi:b0 Tryz.prog 148 O2:=aE Tryz.underlying148 (bp (by kernel_rfl) rfl rfl) (fun fs h w=>by cases h;kernel_rfl) (bw rfl (by kernel_rfl) (by kernel_rfl))
def O1 : dP := ⟨.struct #[⟨"l", 146, 0, false, "", "penfold/scopes", 0⟩, ⟨"ground", 147, 1, false, "", "penfold/scopes", 24⟩], 2, 32, .agg #[.slice none 0 0, .pointer none], [(0, 1), (1, 1)], (some (.pair (.kA 3 6) (.ptr 2))), false⟩
theorem Xh:b0 Tryz.prog 149 O1:=aE Tryz.underlying149 (bp (by kernel_rfl) rfl rfl) (fun fs h w=>by cases h;kernel_rfl) (bw rfl (by kernel_rfl) (by kernel_rfl))
def O0 : dP := ⟨.struct #[⟨"At", 3, 0, false, "", "", 0⟩, ⟨"Size", 3, 1, false, "", "", 8⟩], 2, 16, .agg #[.int .i64 0, .int .i64 0], [(0, 1), (1, 1)], (some (.pair (.int .i64) (.int .i64))), false⟩
theorem Xg:b0 Tryz.prog 150 O0:=aE Tryz.underlying150 (bp (by kernel_rfl) rfl rfl) (fun fs h w=>by cases h;kernel_rfl) (bw rfl (by kernel_rfl) (by kernel_rfl))
def OZ : dP := ⟨.struct #[⟨"At", 3, 0, false, "", "", 0⟩, ⟨"Size", 3, 1, false, "", "", 8⟩], 2, 16, .agg #[.int .i64 0, .int .i64 0], [(0, 1), (1, 1)], (some (.pair (.int .i64) (.int .i64))), false⟩
theorem Xf:b0 Tryz.prog 151 OZ:=aE Tryz.underlying151 (bp (by kernel_rfl) rfl rfl) (fun fs h w=>by cases h;kernel_rfl) (bw rfl (by kernel_rfl) (by kernel_rfl))
def OY : dP := ⟨.struct #[⟨"ctl", 42, 0, false, "", "penfold/scopes", 0⟩, ⟨"extent", 151, 4, false, "", "penfold/scopes", 32⟩], 6, 48, .agg #[.int .i64 0, .int .i64 0, .int .i64 0, .int .i64 0, .int .i64 0, .int .i64 0], [(0, 4), (4, 2)], (some (.pair (.pair (.int .i64) (.pair (.int .i64) (.pair (.int .i64) (.int .i64)))) (.pair (.int .i64) (.int .i64)))), false⟩
theorem Xe:b0 Tryz.prog 152 OY:=aE Tryz.underlying152 (bp (by kernel_rfl) rfl rfl) (fun fs h w=>by cases h;kernel_rfl) (bw rfl (by kernel_rfl) (by kernel_rfl))
def OX : dP := ⟨.struct #[⟨"ctl", 42, 0, false, "", "penfold/scopes", 0⟩, ⟨"extent", 151, 4, false, "", "penfold/scopes", 32⟩], 6, 48, .agg #[.int .i64 0, .int .i64 0, .int .i64 0, .int .i64 0, .int .i64 0, .int .i64 0], [(0, 4), (4, 2)], (some (.pair (.pair (.int .i64) (.pair (.int .i64) (.pair (.int .i64) (.int .i64)))) (.pair (.int .i64) (.int .i64)))), false⟩
theorem Xd:b0 Tryz.prog 153 OX:=aE Tryz.underlying153 (bp (by kernel_rfl) rfl rfl) (fun fs h w=>by cases h;kernel_rfl) (bw rfl (by kernel_rfl) (by kernel_rfl))
def OW:dP:=⟨.pointer 123,1,8,.pointer none,[],none,false⟩
theorem Xc:b0 Tryz.prog 163 OW:=aE Tryz.underlying163 (bp (by kernel_rfl) rfl rfl) (fun _ h=>by cases h) (lj rfl)
def OV:dP:=⟨.pointer 45,1,8,.pointer none,[],none,false⟩
theorem Xb:b0 Tryz.prog 170 OV:=aE Tryz.underlying170 (bp (by kernel_rfl) rfl rfl) (fun _ h=>by cases h) (lj rfl)
def OU:dP:=⟨.slice 5,1,24,.slice none 0 0,[],(some (.cN (.int .u8))),false⟩
theorem Xa:b0 Tryz.prog 177 OU:=aE Tryz.underlying177 (bp (by kernel_rfl) rfl rfl) (fun _ h=>by cases h) (bw rfl (by kernel_rfl) (by kernel_rfl))
def OT:dP:=⟨.map 5 177,1,8,.map none,[],none,false⟩
theorem W_:b0 Tryz.prog 178 OT:=aE Tryz.underlying178 (bp (by kernel_rfl) rfl rfl) (fun _ h=>by cases h) (lj rfl)
def OS:dP:=⟨.pointer 153,1,8,.pointer none,[],none,false⟩
theorem W9:b0 Tryz.prog 181 OS:=aE Tryz.underlying181 (bp (by kernel_rfl) rfl rfl) (fun _ h=>by cases h) (lj rfl)
def OQ:dP:=⟨.int .u64,1,8,.int .u64 0,[],(some (.int .u64)),false⟩
theorem W8:b0 Tryz.prog 195 OQ:=aE Tryz.underlying195 (bp (by kernel_rfl) rfl rfl) (fun _ h=>by cases h) (bw rfl (by kernel_rfl) (by kernel_rfl))
def OP:dP:=⟨.pointer 198,1,8,.pointer none,[],none,false⟩
theorem W7:b0 Tryz.prog 196 OP:=aE Tryz.underlying196 (bp (by kernel_rfl) rfl rfl) (fun _ h=>by cases h) (lj rfl)
def OO : dP := ⟨.struct #[⟨"slots", 72, 0, false, "", "penfold/fin", 0⟩, ⟨"said", 34, 1, false, "", "penfold/fin", 24⟩, ⟨"held", 4, 2, false, "", "penfold/fin", 48⟩, ⟨"skip", 3, 3, false, "", "penfold/fin", 56⟩], 4, 64, .agg #[.slice none 0 0, .slice none 0 0, .bool false, .int .i64 0], [(0, 1), (1, 1), (2, 1), (3, 1)], (some (.pair (.cN (.int .u64)) (.pair (.cN (.int .i64)) (.pair .bool (.int .i64))))), false⟩
theorem W6:b0 Tryz.prog 197 OO:=aE Tryz.underlying197 (bp (by kernel_rfl) rfl rfl) (fun fs h w=>by cases h;kernel_rfl) (bw rfl (by kernel_rfl) (by kernel_rfl))
def ON : dP := ⟨.struct #[⟨"slots", 72, 0, false, "", "penfold/fin", 0⟩, ⟨"said", 34, 1, false, "", "penfold/fin", 24⟩, ⟨"held", 4, 2, false, "", "penfold/fin", 48⟩, ⟨"skip", 3, 3, false, "", "penfold/fin", 56⟩], 4, 64, .agg #[.slice none 0 0, .slice none 0 0, .bool false, .int .i64 0], [(0, 1), (1, 1), (2, 1), (3, 1)], none, false⟩
theorem W5:b0 Tryz.prog 198 ON:=aE Tryz.underlying198 (bp (by kernel_rfl) rfl rfl) (fun fs h w=>by cases h;kernel_rfl) (lj rfl)
def OM : dP := ⟨.struct #[⟨"from", 3, 0, false, "", "penfold/ground", 0⟩, ⟨"end", 3, 1, false, "", "penfold/ground", 8⟩, ⟨"free", 95, 2, false, "", "penfold/ground", 16⟩], 3, 40, .agg #[.int .i64 0, .int .i64 0, .slice none 0 0], [(0, 1), (1, 1), (2, 1)], (some (.pair (.int .i64) (.pair (.int .i64) (.cN (.pair (.int .i64) (.int .i64)))))), false⟩
theorem W4:b0 Tryz.prog 200 OM:=aE Tryz.underlying200 (bp (by kernel_rfl) rfl rfl) (fun fs h w=>by cases h;kernel_rfl) (bw rfl (by kernel_rfl) (by kernel_rfl))
def OL : dP := ⟨.struct #[⟨"from", 3, 0, false, "", "penfold/ground", 0⟩, ⟨"end", 3, 1, false, "", "penfold/ground", 8⟩, ⟨"free", 95, 2, false, "", "penfold/ground", 16⟩], 3, 40, .agg #[.int .i64 0, .int .i64 0, .slice none 0 0], [(0, 1), (1, 1), (2, 1)], (some (.pair (.int .i64) (.pair (.int .i64) (.kA 4 2)))), false⟩
theorem W3:b0 Tryz.prog 201 OL:=aE Tryz.underlying201 (bp (by kernel_rfl) rfl rfl) (fun fs h w=>by cases h;kernel_rfl) (bw rfl (by kernel_rfl) (by kernel_rfl))
def OK:dP:=⟨.slice 4,1,24,.slice none 0 0,[],(some (.cN .bool)),false⟩
theorem W2:b0 Tryz.prog 215 OK:=aE Tryz.underlying215 (bp (by kernel_rfl) rfl rfl) (fun _ h=>by cases h) (bw rfl (by kernel_rfl) (by kernel_rfl))
def OJ : dP := ⟨.struct #[⟨"At", 3, 0, false, "", "", 0⟩, ⟨"Free", 215, 1, false, "", "", 8⟩], 2, 32, .agg #[.int .i64 0, .slice none 0 0], [(0, 1), (1, 1)], (some (.pair (.int .i64) (.cN .bool))), false⟩
theorem W1:b0 Tryz.prog 216 OJ:=aE Tryz.underlying216 (bp (by kernel_rfl) rfl rfl) (fun fs h w=>by cases h;kernel_rfl) (bw rfl (by kernel_rfl) (by kernel_rfl))
def OI : dP := ⟨.struct #[⟨"At", 3, 0, false, "", "", 0⟩, ⟨"Free", 215, 1, false, "", "", 8⟩], 2, 32, .agg #[.int .i64 0, .slice none 0 0], [(0, 1), (1, 1)], (some (.pair (.int .i64) (.kA 16 1))), false⟩
theorem W0:b0 Tryz.prog 217 OI:=aE Tryz.underlying217 (bp (by kernel_rfl) rfl rfl) (fun fs h w=>by cases h;kernel_rfl) (bw rfl (by kernel_rfl) (by kernel_rfl))
def OH:dP:=⟨.pointer 151,1,8,.pointer none,[],none,false⟩
theorem WZ:b0 Tryz.prog 226 OH:=aE Tryz.underlying226 (bp (by kernel_rfl) rfl rfl) (fun _ h=>by cases h) (lj rfl)
def OG:dP:=⟨.int .u32,1,4,.int .u32 0,[],(some (.int .u32)),false⟩
theorem WY:b0 Tryz.prog 240 OG:=aE Tryz.underlying240 (bp (by kernel_rfl) rfl rfl) (fun _ h=>by cases h) (bw rfl (by kernel_rfl) (by kernel_rfl))
def OF:dP:=⟨.pointer 5,1,8,.pointer none,[],none,false⟩
theorem WX:b0 Tryz.prog 244 OF:=aE Tryz.underlying244 (bp (by kernel_rfl) rfl rfl) (fun _ h=>by cases h) (lj rfl)
theorem agY:lV Tryz.prog 23:=fT Tryz.stoodInHeld23 Tryz.eqGuardType23 Tryz.underlying23 (by decide)
theorem agX:lV Tryz.prog 24:=fT Tryz.stoodInHeld24 Tryz.eqGuardType24 Tryz.underlying24 (by decide)
theorem agW:lV Tryz.prog 31:=fT Tryz.stoodInHeld31 Tryz.eqGuardType31 Tryz.underlying31 (by decide)
theorem agV:lV Tryz.prog 32:=fT Tryz.stoodInHeld32 Tryz.eqGuardType32 Tryz.underlying32 (by decide)
theorem agU:lV Tryz.prog 39:=fT Tryz.stoodInHeld39 Tryz.eqGuardType39 Tryz.underlying39 (by decide)
theorem agT:lV Tryz.prog 40:=fT Tryz.stoodInHeld40 Tryz.eqGuardType40 Tryz.underlying40 (by decide)
theorem agS:lV Tryz.prog 41:=fT Tryz.stoodInHeld41 Tryz.eqGuardType41 Tryz.underlying41 (by decide)
theorem agR:lV Tryz.prog 42:=fT Tryz.stoodInHeld42 Tryz.eqGuardType42 Tryz.underlying42 (by decide)
theorem agQ:lV Tryz.prog 53:=fT Tryz.stoodInHeld53 Tryz.eqGuardType53 Tryz.underlying53 (by decide)
theorem agP:lV Tryz.prog 54:=fT Tryz.stoodInHeld54 Tryz.eqGuardType54 Tryz.underlying54 (by decide)
theorem agO:lV Tryz.prog 57:=fT Tryz.stoodInHeld57 Tryz.eqGuardType57 Tryz.underlying57 (by decide)
theorem agN:lV Tryz.prog 58:=fT Tryz.stoodInHeld58 Tryz.eqGuardType58 Tryz.underlying58 (by decide)
theorem agM:lV Tryz.prog 88:=fT Tryz.stoodInHeld88 Tryz.eqGuardType88 Tryz.underlying88 (by decide)
theorem agL:lV Tryz.prog 89:=fT Tryz.stoodInHeld89 Tryz.eqGuardType89 Tryz.underlying89 (by decide)
theorem aaV:lV Tryz.prog 114:=fT Tryz.stoodInHeld114 Tryz.eqGuardType114 Tryz.underlying114 (by decide)
theorem aaU:lV Tryz.prog 115:=fT Tryz.stoodInHeld115 Tryz.eqGuardType115 Tryz.underlying115 (by decide)
theorem aaT:lV Tryz.prog 150:=fT Tryz.stoodInHeld150 Tryz.eqGuardType150 Tryz.underlying150 (by decide)
theorem aaS:lV Tryz.prog 151:=fT Tryz.stoodInHeld151 Tryz.eqGuardType151 Tryz.underlying151 (by decide)
theorem aaR:lV Tryz.prog 152:=fT Tryz.stoodInHeld152 Tryz.eqGuardType152 Tryz.underlying152 (by decide)
theorem aaQ:lV Tryz.prog 153:=fT Tryz.stoodInHeld153 Tryz.eqGuardType153 Tryz.underlying153 (by decide)
def env:Env:=⟨(.node (.node (.node (.node (.node (.node (.node (.node .nil none .nil) (some Ws) (.node .nil none .nil)) (some WK) (.node (.node .nil none .nil) (some V9) (.node .nil none .nil))) none (.node (.node (.node .nil (some O6) .nil) (some Wg) (.node .nil none .nil)) none (.node (.node .nil none .nil) (some Pm) (.node .nil none .nil)))) none (.node (.node (.node (.node .nil none .nil) (some Wk) (.node .nil none .nil)) (some WE) (.node (.node .nil none .nil) none (.node .nil none .nil))) (some WR) (.node (.node (.node .nil (some OZ) .nil) none (.node .nil (some OK) .nil)) (some Ww) (.node (.node .nil none .nil) none .nil)))) (some ty3) (.node (.node (.node (.node (.node .nil none .nil) (some Wo) (.node .nil (some OQ) .nil)) (some WH) (.node (.node .nil (some OW) .nil) none (.node .nil none .nil))) none (.node (.node (.node .nil (some O3) .nil) none (.node .nil none .nil)) none (.node (.node .nil none .nil) (some Pg) (.node .nil none .nil)))) none (.node (.node (.node (.node .nil (some O9) .nil) none (.node .nil none .nil)) none (.node (.node .nil none .nil) (some Pp) (.node .nil none .nil))) (some WM) (.node (.node (.node .nil none .nil) none (.node .nil none .nil)) none (.node (.node .nil none .nil) (some Pb) .nil))))) none (.node (.node (.node (.node (.node (.node .nil none .nil) (some Wq) (.node .nil none .nil)) none (.node (.node .nil none .nil) (some V7) (.node .nil none .nil))) none (.node (.node (.node .nil none .nil) (some We) (.node .nil none .nil)) none (.node (.node .nil (some OU) .nil) (some Pj) (.node .nil none .nil)))) (some ty9) (.node (.node (.node (.node .nil none .nil) none (.node .nil (some OL) .nil)) (some WC) (.node (.node .nil none .nil) (some Pr) (.node .nil none .nil))) (some WO) (.node (.node (.node .nil (some OX) .nil) (some Wa) (.node .nil (some OI) .nil)) (some Wv) (.node (.node .nil none .nil) (some Pd) .nil)))) (some ty5) (.node (.node (.node (.node (.node .nil none .nil) (some Wm) (.node .nil (some OO) .nil)) none (.node (.node .nil none .nil) (some Ps) (.node .nil none .nil))) (some WS) (.node (.node (.node .nil (some O1) .nil) (some Wc) (.node .nil none .nil)) (some Wy) (.node (.node .nil (some OS) .nil) (some Pe) .nil))) (some WT) (.node (.node (.node (.node .nil (some O8) .nil) (some Wh) (.node .nil none .nil)) (some WA) (.node (.node .nil none .nil) (some Pn) (.node .nil none .nil))) none (.node (.node (.node .nil none .nil) none (.node .nil none .nil)) none (.node (.node .nil none .nil) none .nil)))))) none (.node (.node (.node (.node (.node (.node (.node .nil none .nil) (some Wr) (.node .nil none .nil)) (some WJ) (.node (.node .nil none .nil) (some V8) (.node .nil none .nil))) none (.node (.node (.node .nil (some O5) .nil) (some Wf) (.node .nil none .nil)) none (.node (.node .nil none .nil) (some Pk) (.node .nil (some OG) .nil)))) none (.node (.node (.node (.node .nil (some Pa) .nil) (some Wj) (.node .nil (some OM) .nil)) (some WD) (.node (.node .nil none .nil) none (.node .nil none .nil))) (some WQ) (.node (.node (.node .nil (some OY) .nil) (some Wb) (.node .nil (some OJ) .nil)) none (.node (.node .nil none .nil) none .nil)))) (some ty4) (.node (.node (.node (.node (.node .nil none .nil) (some Wn) (.node .nil (some OP) .nil)) (some WG) (.node (.node .nil none .nil) none (.node .nil none .nil))) none (.node (.node (.node .nil (some O2) .nil) none (.node .nil none .nil)) none (.node (.node .nil none .nil) (some Pf) (.node .nil (some OF) .nil)))) (some WU) (.node (.node (.node (.node .nil none .nil) (some Wi) (.node .nil none .nil)) none (.node (.node .nil none .nil) (some Po) (.node .nil none .nil))) (some WL) (.node (.node (.node .nil none .nil) none (.node .nil none .nil)) (some Wt) (.node (.node .nil none .nil) none .nil))))) (some ty2) (.node (.node (.node (.node (.node (.node .nil none .nil) (some Wp) (.node .nil none .nil)) (some WI) (.node (.node .nil none .nil) (some V6) (.node .nil (some OH) .nil))) none (.node (.node (.node .nil (some O4) .nil) (some Wd) (.node .nil none .nil)) (some Wz) (.node (.node .nil (some OT) .nil) (some Ph) (.node .nil none .nil)))) none (.node (.node (.node (.node .nil (some O_) .nil) none (.node .nil none .nil)) (some WB) (.node (.node .nil (some OV) .nil) (some Pq) (.node .nil none .nil))) (some WN) (.node (.node (.node .nil none .nil) none (.node .nil none .nil)) (some Wu) (.node (.node .nil none .nil) (some Pc) .nil)))) none (.node (.node (.node (.node (.node .nil none .nil) (some Wl) (.node .nil (some ON) .nil)) none (.node (.node .nil none .nil) none (.node .nil none .nil))) none (.node (.node (.node .nil (some O0) .nil) none (.node .nil none .nil)) (some Wx) (.node (.node .nil none .nil) none .nil))) none (.node (.node (.node (.node .nil (some O7) .nil) none (.node .nil none .nil)) none (.node (.node .nil none .nil) none (.node .nil none .nil))) none (.node (.node (.node .nil none .nil) (some V_) (.node .nil none .nil)) none (.node (.node .nil none .nil) none .nil))))))),[23,24,31,32,39,40,41,42,53,54,57,58,88,89,114,115,150,151,152,153]⟩
theorem FP:dq Tryz.prog env:=⟨Me (.no (.no (.yes te3 (.no (.no (.yes ads (.yes ac9 (.no (.nil _ _) (.nil _ _)) (.no (.nil _ _) (.nil _ _))) (.yes acP (.no (.nil _ _) (.nil _ _)) (.no (.nil _ _) (.nil _ _)))) (.no (.yes acX (.yes Xm (.nil _ _) (.nil _ _)) (.no (.nil _ _) (.nil _ _))) (.yes XC (.no (.nil _ _) (.nil _ _)) (.no (.nil _ _) (.nil _ _))))) (.yes ady (.yes adm (.yes ac1 (.no (.nil _ _) (.nil _ _)) (.no (.nil _ _) (.nil _ _))) (.no (.no (.nil _ _) (.nil _ _)) (.no (.nil _ _) (.nil _ _)))) (.yes ade (.no (.yes Xf (.nil _ _) (.nil _ _)) (.yes W2 (.nil _ _) (.nil _ _))) (.no (.no (.nil _ _) (.nil _ _)) (.nil _ _))))) (.no (.no (.yes ado (.yes ac5 (.no (.nil _ _) (.nil _ _)) (.yes W8 (.nil _ _) (.nil _ _))) (.no (.yes Xc (.nil _ _) (.nil _ _)) (.no (.nil _ _) (.nil _ _)))) (.no (.no (.yes Xj (.nil _ _) (.nil _ _)) (.no (.nil _ _) (.nil _ _))) (.yes Xy (.no (.nil _ _) (.nil _ _)) (.no (.nil _ _) (.nil _ _))))) (.yes adu (.no (.no (.yes Xp (.nil _ _) (.nil _ _)) (.no (.nil _ _) (.nil _ _))) (.yes XF (.no (.nil _ _) (.nil _ _)) (.no (.nil _ _) (.nil _ _)))) (.no (.no (.no (.nil _ _) (.nil _ _)) (.no (.nil _ _) (.nil _ _))) (.yes Xs (.no (.nil _ _) (.nil _ _)) (.nil _ _)))))) (.yes te5 (.yes te9 (.no (.no (.yes ac7 (.no (.nil _ _) (.nil _ _)) (.no (.nil _ _) (.nil _ _))) (.yes acN (.no (.nil _ _) (.nil _ _)) (.no (.nil _ _) (.nil _ _)))) (.no (.yes acV (.no (.nil _ _) (.nil _ _)) (.no (.nil _ _) (.nil _ _))) (.yes XA (.yes Xa (.nil _ _) (.nil _ _)) (.no (.nil _ _) (.nil _ _))))) (.yes adw (.yes adk (.no (.no (.nil _ _) (.nil _ _)) (.yes W3 (.nil _ _) (.nil _ _))) (.yes XH (.no (.nil _ _) (.nil _ _)) (.no (.nil _ _) (.nil _ _)))) (.yes adb (.yes acR (.yes Xd (.nil _ _) (.nil _ _)) (.yes W0 (.nil _ _) (.nil _ _))) (.yes Xv (.no (.nil _ _) (.nil _ _)) (.nil _ _))))) (.yes adA (.yes adz (.no (.yes ac3 (.no (.nil _ _) (.nil _ _)) (.yes W6 (.nil _ _) (.nil _ _))) (.yes XI (.no (.nil _ _) (.nil _ _)) (.no (.nil _ _) (.nil _ _)))) (.yes adg (.yes acT (.yes Xh (.nil _ _) (.nil _ _)) (.no (.nil _ _) (.nil _ _))) (.yes Xw (.yes W9 (.nil _ _) (.nil _ _)) (.nil _ _)))) (.no (.yes adi (.yes acY (.yes Xo (.nil _ _) (.nil _ _)) (.no (.nil _ _) (.nil _ _))) (.yes XD (.no (.nil _ _) (.nil _ _)) (.no (.nil _ _) (.nil _ _)))) (.no (.no (.no (.nil _ _) (.nil _ _)) (.no (.nil _ _) (.nil _ _))) (.no (.no (.nil _ _) (.nil _ _)) (.nil _ _))))))) (.yes te2 (.yes te4 (.no (.no (.yes adq (.yes ac8 (.no (.nil _ _) (.nil _ _)) (.no (.nil _ _) (.nil _ _))) (.yes acO (.no (.nil _ _) (.nil _ _)) (.no (.nil _ _) (.nil _ _)))) (.no (.yes acW (.yes Xl (.nil _ _) (.nil _ _)) (.no (.nil _ _) (.nil _ _))) (.yes XB (.no (.nil _ _) (.nil _ _)) (.yes WY (.nil _ _) (.nil _ _))))) (.yes adx (.yes adl (.yes ac0 (.yes Xr (.nil _ _) (.nil _ _)) (.yes W4 (.nil _ _) (.nil _ _))) (.no (.no (.nil _ _) (.nil _ _)) (.no (.nil _ _) (.nil _ _)))) (.no (.yes acS (.yes Xe (.nil _ _) (.nil _ _)) (.yes W1 (.nil _ _) (.nil _ _))) (.no (.no (.nil _ _) (.nil _ _)) (.nil _ _))))) (.yes adC (.no (.yes adn (.yes ac4 (.no (.nil _ _) (.nil _ _)) (.yes W7 (.nil _ _) (.nil _ _))) (.no (.no (.nil _ _) (.nil _ _)) (.no (.nil _ _) (.nil _ _)))) (.no (.no (.yes Xi (.nil _ _) (.nil _ _)) (.no (.nil _ _) (.nil _ _))) (.yes Xx (.no (.nil _ _) (.nil _ _)) (.yes WX (.nil _ _) (.nil _ _))))) (.yes adt (.no (.yes acZ (.no (.nil _ _) (.nil _ _)) (.no (.nil _ _) (.nil _ _))) (.yes XE (.no (.nil _ _) (.nil _ _)) (.no (.nil _ _) (.nil _ _)))) (.yes ac_ (.no (.no (.nil _ _) (.nil _ _)) (.no (.nil _ _) (.nil _ _))) (.no (.no (.nil _ _) (.nil _ _)) (.nil _ _)))))) (.no (.no (.no (.yes adp (.yes ac6 (.no (.nil _ _) (.nil _ _)) (.no (.nil _ _) (.nil _ _))) (.yes acM (.no (.nil _ _) (.nil _ _)) (.yes WZ (.nil _ _) (.nil _ _)))) (.yes adh (.yes acU (.yes Xk (.nil _ _) (.nil _ _)) (.no (.nil _ _) (.nil _ _))) (.yes Xz (.yes W_ (.nil _ _) (.nil _ _)) (.no (.nil _ _) (.nil _ _))))) (.yes adv (.yes adj (.no (.yes Xq (.nil _ _) (.nil _ _)) (.no (.nil _ _) (.nil _ _))) (.yes XG (.yes Xb (.nil _ _) (.nil _ _)) (.no (.nil _ _) (.nil _ _)))) (.yes ada (.no (.no (.nil _ _) (.nil _ _)) (.no (.nil _ _) (.nil _ _))) (.yes Xu (.no (.nil _ _) (.nil _ _)) (.nil _ _))))) (.no (.no (.no (.yes ac2 (.no (.nil _ _) (.nil _ _)) (.yes W5 (.nil _ _) (.nil _ _))) (.no (.no (.nil _ _) (.nil _ _)) (.no (.nil _ _) (.nil _ _)))) (.yes adf (.no (.yes Xg (.nil _ _) (.nil _ _)) (.no (.nil _ _) (.nil _ _))) (.no (.no (.nil _ _) (.nil _ _)) (.nil _ _)))) (.no (.no (.no (.yes Xn (.nil _ _) (.nil _ _)) (.no (.nil _ _) (.nil _ _))) (.no (.no (.nil _ _) (.nil _ _)) (.no (.nil _ _) (.nil _ _)))) (.no (.yes acQ (.no (.nil _ _) (.nil _ _)) (.no (.nil _ _) (.nil _ _))) (.no (.no (.nil _ _) (.nil _ _)) (.nil _ _)))))))),SR (.cons agY (.cons agX (.cons agW (.cons agV (.cons agU (.cons agT (.cons agS (.cons agR (.cons agQ (.cons agP (.cons agO (.cons agN (.cons agM (.cons agL (.cons aaV (.cons aaU (.cons aaT (.cons aaS (.cons aaR (.cons aaQ (.nil))))))))))))))))))))),by kernel_rfl⟩
def homes:List (Nat×Nat):=[(71,11),(98,12),(109,0),(139,8),(149,1),(201,2),(217,13)]
open Go.Bm
set_option maxRecDepth 100000
def x5:aB:=comp (az Tryz.f5) (.n none .o (.n none .o (.n none .o (.n none .o (.n none .o (.n none .o (.n (some ⟨[],[],[],[],[],[]⟩) .o (.n none (.n none .o (.n none (.n (some ⟨[(13,false,(.int .i64))],[],[],[],[],[(2,R2),(3,R3),(4,R4),(5,R5),(6,R6),(7,R7),(8,R8),(9,R9),(10,H7),(11,C8),(14,ue),(15,uT),(16,qS),(17,CP),(18,AT)]⟩) (.n (some ⟨[],[],[],[],[],[]⟩) .o (.n none (.n none (.n none .o (.n none .o (.n none .o (.n none .o (.n none .o (.n none (.n none .o (.n none (.n (some ⟨[(16,false,(.int .i64))],[],[],[],[],[]⟩) (.n none .o (.n none (.n none (.n none .o (.n none .o (.n (some ⟨[(20,false,.bool)],[],[],[],[],[]⟩) .o .o))) .o) .o)) .o) .o)) (.n none .o (.n none (.n (some ⟨[(21,false,(.int .i64))],[],[],[],[],[]⟩) .o .o) .o)))))))) .o) .o)) .o) .o)) .o))))))))
def x11:aB:=comp (az Tryz.f11) (.n none .o (.n none .o (.n (some ⟨[],[],[],[],[],[]⟩) .o .o)))
def x12:aB:=comp (az Tryz.f12) (.n none .o (.n (some ⟨[],[],[],[],[],[]⟩) .o (.n none .o (.n none .o (.n none (.n none .o (.n none (.n (some ⟨[(29,false,(.int .i64))],[(8,(.cN (.pair (.int .u8) (.pair (.int .i64) (.int .i64)))))],[],[],[],[]⟩) .o .o) .o)) .o)))))
def x13:aB:=comp (az Tryz.f13) .o
def x14:aB:=comp (az Tryz.f14) .o
def x16:aB:=comp (az Tryz.f16) .o
def x19:aB:=comp (az Tryz.f19) .o
def x20:aB:=comp (az Tryz.f20) (.n none .o (.n none .o (.n none (.n none .o (.n none (.n (some ⟨[(4,false,(.int .i64))],[(3,(.cN (.pair (.int .u8) (.pair (.int .i64) (.int .i64)))))],[],[],[],[]⟩) (.n (some ⟨[],[],[],[],[],[]⟩) .o (.n none (.n none (.n none .o (.n none (.n none .o (.n none (.n (some ⟨[(6,false,(.int .i64))],[(5,(.pair (.int .u8) (.pair (.int .i64) (.int .i64))))],[],[],[],[]⟩) (.n (some ⟨[],[],[],[],[],[]⟩) .o .o) .o) .o)) .o)) .o) .o)) .o) .o)) .o)))
def x22:aB:=comp (az Tryz.f22) .o
def x23:aB:=comp (az Tryz.f23) (.n none .o (.n none .o (.n none .o (.n none (.n none .o (.n none (.n none .o (.n none .o (.n none .o (.n none .o (.n none .o (.n none .o (.n none .o (.n none .o (.n (some ⟨[(62,false,.bool)],[],[],[],[],[]⟩) .o (.n none .o (.n none .o (.n none (.n none .o (.n (some ⟨[],[],[],[((6,none),[(false,(.int .i64)),(false,(.int .i64)),(true,(.int .i64))])],[],[(11,C8),(14,ue),(17,CP),(18,AT)]⟩) .o .o)) (.n none .o (.n none .o (.n (some ⟨[(107,false,.bool)],[],[],[],[],[]⟩) .o (.n none .o (.n (some ⟨[(114,false,.bool)],[],[],[],[],[]⟩) .o .o))))))))))))))))) .o)) .o))))
def x24:aB:=comp (az Tryz.f24) (.n none .o (.n none (.n none .o (.n none (.n (some ⟨[(3,false,(.int .i64))],[],[],[],[],[]⟩) (.n none .o (.n none (.n none (.n none .o (.n none (.n (some ⟨[(4,false,(.int .i64))],[],[],[],[],[]⟩) .o .o) .o)) .o) .o)) .o) .o)) (.n none (.n none .o (.n none (.n (some ⟨[(6,false,(.int .i64))],[],[],[],[],[]⟩) .o .o) .o)) .o)))
def x25:aB:=comp (az Tryz.f25) .o
def x26:aB:=comp (az Tryz.f26) .o
def x27:aB:=comp (az Tryz.f27) (.n none .o (.n none .o (.n none (.n none .o (.n none (.n (some ⟨[(5,false,(.int .i64))],[],[],[],[],[]⟩) .o .o) .o)) .o)))
def x30:aB:=comp (az Tryz.f30) .o
def x31:aB:=comp (az Tryz.f31) .o
def x35:aB:=comp (az Tryz.f35) .o
def x36:aB:=comp (az Tryz.f36) (.n none .o (.n none .o (.n none (.n none .o (.n none (.n (some ⟨[(11,false,(.int .i64))],[],[],[],[],[]⟩) (.n none .o (.n none .o (.n none (.n none (.n none .o (.n none (.n none .o (.n none (.n (some ⟨[(17,false,(.int .i64))],[],[],[],[],[]⟩) .o .o) .o)) .o)) .o) .o))) .o) .o)) .o)))
def x37:aB:=comp (az Tryz.f37) (.n none .o (.n none .o (.n none .o (.n none (.n none .o (.n none (.n (some ⟨[(21,false,(.int .i64))],[],[],[],[],[(3,R3)]⟩) .o .o) .o)) .o))))
def x38:aB:=comp (az Tryz.f38) .o
def x39:aB:=comp (az Tryz.f39) .o
def x40:aB:=comp (az Tryz.f40) .o
def x41:aB:=comp (az Tryz.f41) .o
def x42:aB:=comp (az Tryz.f42) .o
def x43:aB:=comp (az Tryz.f43) .o
def x44:aB:=comp (az Tryz.f44) .o
def x45:aB:=comp (az Tryz.f45) (.n none .o (.n none .o (.n none (.n (some ⟨[(29,false,.bool)],[],[],[],[],[]⟩) .o .o) (.n none .o (.n (some ⟨[],[],[],[((2,none),[(false,(.int .i64)),(false,(.int .i64)),(true,(.int .i64))]),((6,none),[(false,(.int .i64)),(false,(.int .i64)),(true,(.int .i64))])],[],[(8,R8),(10,H7)]⟩) .o (.n (some ⟨[],[],[],[],[],[(3,R3),(5,R5),(7,R7)]⟩) (.n none .o (.n none .o (.n none (.n none .o (.n none (.n none .o (.n none (.n (some ⟨[(97,false,(.int .i64))],[],[],[],[],[(7,R7)]⟩) .o .o) .o)) .o)) .o))) .o))))))
def x46:aB:=comp (az Tryz.f46) .o
def x47:aB:=comp (az Tryz.f47) (.n none .o (.n none .o (.n (some ⟨[],[],[],[((2,none),[(false,(.int .i64)),(false,(.int .i64)),(true,(.int .i64))])],[],[]⟩) .o .o)))
def x48:aB:=comp (az Tryz.f48) .o
def x49:aB:=comp (az Tryz.f49) .o
def x50:aB:=comp (az Tryz.f50) .o
def x51:aB:=comp (az Tryz.f51) .o
def x52:aB:=comp (az Tryz.f52) .o
def x53:aB:=comp (az Tryz.f53) .o
def x54:aB:=comp (az Tryz.f54) .o
def x55:aB:=comp (az Tryz.f55) .o
def x56:aB:=comp (az Tryz.f56) .o
def x57:aB:=comp (az Tryz.f57) (.n none .o (.n none .o (.n none (.n none .o (.n none (.n (some ⟨[(4,false,(.int .i64))],[],[],[],[],[(12,wS),(14,ue),(15,uT)]⟩) .o .o) .o)) .o)))
def x58:aB:=comp (az Tryz.f58) (.n none .o (.n none .o (.n none .o (.n none .o (.n none (.n none .o (.n none (.n (some ⟨[(17,false,.bool)],[],[],[],[],[]⟩) .o .o) .o)) .o)))))
def x59:aB:=comp (az Tryz.f59) .o
def x60:aB:=comp (az Tryz.f60) (.n none .o (.n (some ⟨[],[],[],[],[],[]⟩) .o (.n none .o (.n none (.n none .o (.n none (.n (some ⟨[(6,false,(.int .i64))],[],[],[],[],[(14,ue),(15,uT),(16,qS)]⟩) .o .o) .o)) .o))))
def x61:aB:=comp (az Tryz.f61) (.n none .o (.n none .o (.n (some ⟨[],[],[],[],[],[]⟩) .o .o)))
def x62:aB:=comp (az Tryz.f62) (.n none .o (.n none .o (.n (some ⟨[],[],[],[((6,none),[(false,(.int .i64)),(false,(.int .i64)),(true,(.int .i64))])],[],[]⟩) .o (.n (some ⟨[],[],[],[((6,none),[(false,(.int .i64)),(false,(.int .i64)),(true,(.int .i64))])],[],[]⟩) .o (.n none .o (.n (some ⟨[(9,false,(.int .i64))],[],[],[],[],[(14,ue)]⟩) (.n (some ⟨[(70,false,.bool)],[],[],[],[],[]⟩) .o .o) .o))))))
def x63:aB:=comp (az Tryz.f63) .o
def x64:aB:=comp (az Tryz.f64) (.n none .o (.n none .o (.n none .o (.n none .o (.n none .o (.n none .o (.n none (.n none .o (.n none (.n (some ⟨[(10,false,.bool),(11,false,(.int .i64))],[],[],[((9,none),[(false,(.int .i64)),(false,(.int .i64)),(true,(.int .i64))])],[],[(17,CP),(18,AT)]⟩) (.n none .o (.n none (.n none (.n none .o (.n none .o (.n (some ⟨[],[],[],[],[],[]⟩) .o .o))) .o) .o)) .o) .o)) (.n none .o (.n none .o (.n none (.n none .o (.n none (.n (some ⟨[(19,false,(.int .i64))],[(18,(.pair (.int .i64) (.pair (.int .i64) (.pair (.int .i64) (.pair (.kA 18 1) .bool)))))],[],[],[],[]⟩) .o .o) .o)) .o))))))))))
def x65:aB:=comp (az Tryz.f65) (.n none .o (.n none .o (.n (some ⟨[],[],[],[((6,none),[(false,(.int .i64)),(false,(.int .i64)),(true,(.int .i64))])],[],[]⟩) .o .o)))
def x66:aB:=comp (az Tryz.f66) (.n none .o (.n none .o (.n none .o (.n (some ⟨[],[],[],[((6,none),[(false,(.int .i64)),(false,(.int .i64)),(true,(.int .i64))])],[],[]⟩) .o .o))))
def x67:aB:=comp (az Tryz.f67) .o
def x68:aB:=comp (az Tryz.f68) (.n none .o (.n none .o (.n none .o (.n (some ⟨[],[],[],[],[],[]⟩) .o (.n none .o (.n none .o (.n none (.n none .o (.n none (.n (some ⟨[(9,false,(.int .i64)),(10,false,(.int .i64))],[],[],[],[],[]⟩) (.n (some ⟨[],[],[],[],[],[]⟩) .o .o) .o) .o)) .o)))))))
def x69:aB:=comp (az Tryz.f69) (.n none .o (.n (some ⟨[],[],[],[],[],[]⟩) .o .o))
def x70:aB:=comp (az Tryz.f70) .o
def x71:aB:=comp (az Tryz.f71) .o
def x72:aB:=comp (az Tryz.f72) (.n none .o (.n none (.n none .o (.n none (.n (some ⟨[(5,false,(.int .i64))],[],[],[],[],[]⟩) .o .o) .o)) .o))
def x73:aB:=comp (az Tryz.f73) .o
def x74:aB:=comp (az Tryz.f74) .o
def x75:aB:=comp (az Tryz.f75) .o
def x76:aB:=comp (az Tryz.f76) (.n none .o (.n (some ⟨[],[],[],[],[],[]⟩) .o .o))
def x77:aB:=comp (az Tryz.f77) (.n none .o (.n none .o (.n (some ⟨[(6,false,(.int .i64))],[],[],[],[],[]⟩) .o .o)))
def x78:aB:=comp (az Tryz.f78) (.n none .o (.n none .o (.n none (.n none (.n (some ⟨[(9,false,.bool)],[],[],[],[],[]⟩) .o .o) .o) .o)))
def x79:aB:=comp (az Tryz.f79) .o
def x80:aB:=comp (az Tryz.f80) (.n none .o (.n none .o (.n (some ⟨[(8,false,(.int .i64))],[],[],[],[],[(3,R3)]⟩) .o .o)))
def x81:aB:=comp (az Tryz.f81) .o
def x82:aB:=comp (az Tryz.f82) .o
def x83:aB:=comp (az Tryz.f83) .o
def x84:aB:=comp (az Tryz.f84) .o
def x85:aB:=comp (az Tryz.f85) (.n none .o (.n none .o (.n none (.n none .o (.n none (.n none .o (.n none (.n none .o (.n (some ⟨[],[],[],[],[],[]⟩) .o .o)) .o)) .o)) .o)))
def x86:aB:=comp (az Tryz.f86) (.n none .o (.n none .o (.n (some ⟨[],[],[],[],[],[(3,R3)]⟩) .o .o)))
def x87:aB:=comp (az Tryz.f87) .o
def x88:aB:=comp (az Tryz.f88) .o
def x89:aB:=comp (az Tryz.f89) .o
def x90:aB:=comp (az Tryz.f90) (.n none .o (.n (some ⟨[],[],[],[],[],[]⟩) .o .o))
def x91:aB:=comp (az Tryz.f91) .o
def x92:aB:=comp (az Tryz.f92) .o
def x93:aB:=comp (az Tryz.f93) (.n none .o (.n (some ⟨[(5,false,(.ptr 8)),(6,false,(.int .i64))],[],[],[],[],[]⟩) .o .o))
def x94:aB:=comp (az Tryz.f94) .o
def x95:aB:=comp (az Tryz.f95) (.n none .o (.n none .o (.n none (.n none .o (.n none (.n (some ⟨[(8,false,(.ptr 8)),(9,false,(.int .i64))],[],[],[],[],[]⟩) .o .o) .o)) .o)))
def x96:aB:=comp (az Tryz.f96) .o
def x97:aB:=comp (az Tryz.f97) .o
def x98:aB:=comp (az Tryz.f98) .o
def x99:aB:=comp (az Tryz.f99) .o
def V1:aB:=comp (az Tryz.f100) .o
def V0:aB:=comp (az Tryz.f101) .o
def VZ:aB:=comp (az Tryz.f102) (.n none .o (.n none .o (.n none (.n none .o (.n none (.n (some ⟨[(6,false,(.int .i64))],[],[],[],[],[(16,qS)]⟩) .o .o) .o)) .o)))
def VY:aB:=comp (az Tryz.f103) (.n none .o (.n (some ⟨[],[],[],[],[],[]⟩) .o (.n none .o (.n none (.n none .o (.n none (.n (some ⟨[(7,false,(.int .i64))],[],[],[],[],[(16,qS)]⟩) .o .o) .o)) .o))))
def VX:aB:=comp (az Tryz.f104) .o
def VW:aB:=comp (az Tryz.f105) (.n none .o (.n none .o (.n (some ⟨[],[],[],[],[],[]⟩) .o (.n none (.n none .o (.n none (.n (some ⟨[(8,false,(.int .i64))],[],[],[],[],[]⟩) .o .o) .o)) .o))))
def VV:aB:=comp (az Tryz.f106) (.n none .o (.n none (.n none .o (.n none (.n (some ⟨[(5,false,(.int .i64))],[],[],[],[],[]⟩) .o .o) .o)) .o))
def VU:aB:=comp (az Tryz.f107) .o
def VS:aB:=comp (az Tryz.f108) .o
def VR:aB:=comp (az Tryz.f109) .o
def VQ:aB:=comp (az Tryz.f110) .o
def VO:aB:=comp (az Tryz.f111) (.n none .o (.n none .o (.n none .o (.n none .o (.n none .o (.n none .o (.n none (.n none (.n (some ⟨[(10,false,.bool),(11,false,(.int .i64)),(12,false,(.int .i64))],[(8,(.int .u64)),(9,(.int .i64))],[],[],[],[]⟩) (.n none .o (.n none (.n (some ⟨[(13,false,(.int .i64)),(16,false,.bool)],[(14,(.int .u64)),(15,(.int .i64))],[],[],[],[]⟩) .o .o) .o)) .o) .o) .o)))))))
def VN:aB:=comp (az Tryz.f112) .o
def VM:aB:=comp (az Tryz.f113) (.n none .o (.n (some ⟨[],[],[],[],[],[]⟩) .o .o))
def VL:aB:=comp (az Tryz.f114) (.n none .o (.n none .o (.n (some ⟨[],[],[],[],[],[]⟩) .o .o)))
def VJ:aB:=comp (az Tryz.f115) .o
def VI:aB:=comp (az Tryz.f116) (.n none .o (.n (some ⟨[],[],[],[],[],[]⟩) .o .o))
def VH:aB:=comp (az Tryz.f117) .o
def VG:aB:=comp (az Tryz.f118) (.n none .o (.n (some ⟨[(8,false,.bool)],[],[],[],[],[]⟩) .o .o))
def VF:aB:=comp (az Tryz.f119) .o
def VE:aB:=comp (az Tryz.f120) (.n none .o (.n (some ⟨[(10,false,.bool)],[],[],[],[],[]⟩) .o .o))
def VC:aB:=comp (az Tryz.f121) (.n none .o (.n (some ⟨[(19,false,.bool)],[],[],[],[],[]⟩) .o .o))
def VB:aB:=comp (az Tryz.f122) .o
def VA:aB:=comp (az Tryz.f123) (.n none .o (.n none (.n none .o (.n none (.n (some ⟨[(8,false,(.int .i64))],[],[],[],[],[]⟩) .o .o) .o)) .o))
def Vz:aB:=comp (az Tryz.f124) .o
def Vy:aB:=comp (az Tryz.f125) .o
def Vx:aB:=comp (az Tryz.f126) (.n none .o (.n (some ⟨[],[],[],[],[],[]⟩) .o (.n (some ⟨[(6,false,(.int .i64))],[],[],[],[],[]⟩) .o .o)))
def Vw:aB:=comp (az Tryz.f127) (.n none .o (.n (some ⟨[],[],[],[],[],[]⟩) .o (.n (some ⟨[(7,false,(.int .i64))],[],[],[],[],[]⟩) .o (.n (some ⟨[(7,false,(.int .i64))],[],[],[],[],[]⟩) .o (.n (some ⟨[],[],[],[],[],[]⟩) .o (.n none .o (.n none .o (.n none .o (.n none (.n none .o (.n none (.n (some ⟨[(107,false,(.int .i64))],[],[],[],[],[(2,R2),(4,R4)]⟩) (.n none .o (.n none .o (.n none (.n none (.n none .o (.n none .o (.n none (.n (some ⟨[(140,false,.bool)],[],[],[],[],[]⟩) .o .o) .o))) .o) .o))) .o) .o)) .o)))))))))
def Vv:aB:=comp (az Tryz.f128) .o
def Vu:aB:=comp (az Tryz.f129) .o
def Vt:aB:=comp (az Tryz.f130) .o
def Vr:aB:=comp (az Tryz.f131) (.n none .o (.n (some ⟨[],[],[],[((2,none),[(false,(.int .i64)),(false,(.int .i64)),(false,(.int .i64)),(false,(.int .i64))]),((4,none),[(false,(.int .i64)),(false,(.int .i64)),(false,(.int .i64)),(false,(.int .i64))])],[],[]⟩) (.n none (.n (some ⟨[(6,false,.bool)],[],[],[],[],[]⟩) .o .o) .o) .o))
def Vq:aB:=comp (az Tryz.f132) .o
def Vp:aB:=comp (az Tryz.f133) .o
def Vo:aB:=comp (az Tryz.f134) (.n none .o (.n none .o (.n none .o (.n none .o (.n none (.n none .o (.n none (.n (some ⟨[(10,false,.bool),(11,false,(.int .i64)),(12,false,(.int .i64))],[(8,(.int .u64)),(9,(.int .i64))],[],[],[],[]⟩) (.n none .o (.n none (.n none (.n (some ⟨[(13,false,(.int .i64)),(16,false,.bool)],[(14,(.int .u64)),(15,(.int .i64))],[],[],[],[]⟩) .o .o) .o) .o)) .o) .o)) .o)))))
def Vn:aB:=comp (az Tryz.f135) .o
def Vm:aB:=comp (az Tryz.f136) .o
def Vl:aB:=comp (az Tryz.f137) .o
def Vk:aB:=comp (az Tryz.f138) .o
def Vj:aB:=comp (az Tryz.f139) (.n none .o (.n none .o (.n none (.n none (.n (some ⟨[(16,false,.bool)],[],[],[],[],[]⟩) .o .o) .o) .o)))
def Vi:aB:=comp (az Tryz.f140) (.n none .o (.n none .o (.n none (.n none .o (.n none (.n (some ⟨[(2,false,(.int .i64)),(9,false,(.int .i64))],[],[],[],[],[]⟩) .o .o) .o)) .o)))
def Vh:aB:=comp (az Tryz.f141) (.n none .o (.n none (.n none .o (.n none (.n (some ⟨[(8,false,(.int .i64))],[],[],[],[],[]⟩) .o .o) .o)) .o))
def Vg:aB:=comp (az Tryz.f142) (.n none .o (.n none .o (.n none (.n none .o (.n none (.n (some ⟨[(4,false,(.int .i64))],[(3,(.pair (.int .i64) (.int .i64)))],[],[],[],[]⟩) (.n none .o (.n none (.n none (.n none .o (.n (some ⟨[],[(3,(.pair (.int .i64) (.int .i64)))],[],[],[],[]⟩) (.n (some ⟨[(35,false,.bool)],[],[],[],[],[]⟩) .o .o) .o)) .o) .o)) .o) .o)) .o)))
def Vf:aB:=comp (az Tryz.f143) (.n none .o (.n none (.n (some ⟨[(8,false,(.int .i64))],[],[],[],[],[(16,qS)]⟩) .o .o) .o))
def Ve:aB:=comp (az Tryz.f144) (.n none .o (.n none .o (.n (some ⟨[],[],[],[((4,none),[(false,(.int .i64)),(false,(.int .i64)),(false,(.int .i64)),(false,(.int .i64))])],[],[]⟩) .o .o)))
def Vd:aB:=comp (az Tryz.f145) .o
def Vc:aB:=comp (az Tryz.f146) .o
def Vb:aB:=comp (az Tryz.f147) (.n none .o (.n none .o (.n none (.n (some ⟨[(24,false,.bool)],[],[],[],[],[]⟩) .o .o) (.n none .o (.n (some ⟨[(12,false,.bool)],[],[],[],[],[]⟩) .o (.n (some ⟨[(13,false,.bool)],[],[],[],[],[]⟩) .o (.n (some ⟨[],[(10,(.int .u64))],[],[],[],[]⟩) (.n none .o (.n none (.n none .o (.n none .o (.n none .o (.n none .o (.n none .o (.n none (.n (some ⟨[(73,false,.bool)],[],[],[],[],[]⟩) .o .o) (.n none .o (.n none (.n (some ⟨[(93,false,.bool)],[],[],[],[],[]⟩) .o .o) .o)))))))) .o)) .o)))))))
def Va:aB:=comp (az Tryz.f148) .o
def U_:aB:=comp (az Tryz.f149) (.n none .o (.n (some ⟨[],[],[],[],[],[]⟩) .o (.n none .o (.n none (.n none .o (.n none (.n (some ⟨[(7,false,(.int .i64)),(8,false,(.int .i64))],[],[],[],[],[]⟩) .o .o) .o)) .o))))
def UZ:aB:=comp (az Tryz.f150) .o
def UY:aB:=comp (az Tryz.f151) .o
def UX:aB:=comp (az Tryz.f152) .o
def UW:aB:=comp (az Tryz.f153) (.n none .o (.n none (.n none .o (.n none (.n (some ⟨[(8,false,(.int .i64))],[],[],[],[],[]⟩) .o .o) .o)) .o))
def UU:aB:=comp (az Tryz.f154) .o
def UT:aB:=comp (az Tryz.f155) .o
def US:aB:=comp (az Tryz.f156) .o
def UR:aB:=comp (az Tryz.f157) .o
def UQ:aB:=comp (az Tryz.f158) (.n none .o (.n none (.n (some ⟨[(3,false,(.int .i64))],[],[],[((0,some 5),[(false,(.int .i64)),(false,(.int .i64)),(true,(.int .i64))])],[0],[(8,R8),(10,H7)]⟩) .o .o) .o))
def UP:aB:=comp (az Tryz.f159) (.n none .o (.n none .o (.n none .o (.n none .o (.n (some ⟨[],[],[],[((10,none),[(true,(.int .u64)),(true,(.int .i64)),(false,.bool),(false,(.int .i64))])],[],[]⟩) .o .o)))))
def UO:aB:=comp (az Tryz.f160) .o
def UN:aB:=comp (az Tryz.f161) (.n none .o (.n none (.n none .o (.n none (.n (some ⟨[(8,false,(.int .i64))],[],[],[],[],[]⟩) .o .o) .o)) .o))
def UM:aB:=comp (az Tryz.f162) .o
def UL:aB:=comp (az Tryz.f163) (.n none .o (.n (some ⟨[],[],[],[],[],[]⟩) .o (.n (some ⟨[(3,false,.bool)],[],[],[],[],[]⟩) .o (.n none (.n none .o (.n none (.n (some ⟨[(22,false,.bool)],[],[],[],[],[]⟩) .o .o) .o)) .o))))
def UK:aB:=comp (az Tryz.f164) (.n none .o (.n none (.n none .o (.n none (.n (some ⟨[(5,false,(.int .i64))],[],[],[],[],[]⟩) .o .o) .o)) .o))
def UJ:aB:=comp (az Tryz.f165) (.n none .o (.n none (.n none .o (.n none (.n (some ⟨[(8,false,(.int .i64))],[],[],[],[],[]⟩) .o .o) .o)) .o))
def UI:aB:=comp (az Tryz.f166) (.n none .o (.n none (.n none .o (.n none (.n (some ⟨[(4,false,.bool)],[],[],[],[],[]⟩) .o .o) .o)) .o))
def fnT:Tr (Func×aB):=(.node (.node (.node (.node (.node (.node (.node (.node .nil (some (Tryz.f127,Vw)) .nil) (some (Tryz.f63,x63)) .nil) (some (Tryz.f31,x31)) (.node (.node .nil (some (Tryz.f159,UP)) .nil) (some (Tryz.f95,x95)) .nil)) none (.node (.node (.node .nil (some (Tryz.f143,Vf)) .nil) (some (Tryz.f79,x79)) .nil) (some (Tryz.f47,x47)) (.node .nil (some (Tryz.f111,VO)) .nil))) none (.node (.node (.node (.node .nil (some (Tryz.f135,Vn)) .nil) (some (Tryz.f71,x71)) .nil) (some (Tryz.f39,x39)) (.node .nil (some (Tryz.f103,VY)) .nil)) (some (Tryz.f23,x23)) (.node (.node (.node .nil (some (Tryz.f151,UY)) .nil) (some (Tryz.f87,x87)) .nil) (some (Tryz.f55,x55)) (.node .nil (some (Tryz.f119,VF)) .nil)))) none (.node (.node (.node (.node (.node .nil (some (Tryz.f131,Vr)) .nil) (some (Tryz.f67,x67)) .nil) (some (Tryz.f35,x35)) (.node (.node .nil (some (Tryz.f163,UL)) .nil) (some (Tryz.f99,x99)) .nil)) (some (Tryz.f19,x19)) (.node (.node (.node .nil (some (Tryz.f147,Vb)) .nil) (some (Tryz.f83,x83)) .nil) (some (Tryz.f51,x51)) (.node .nil (some (Tryz.f115,VJ)) .nil))) (some (Tryz.f11,x11)) (.node (.node (.node (.node .nil (some (Tryz.f139,Vj)) .nil) (some (Tryz.f75,x75)) .nil) (some (Tryz.f43,x43)) (.node .nil (some (Tryz.f107,VU)) .nil)) (some (Tryz.f27,x27)) (.node (.node (.node .nil (some (Tryz.f155,UT)) .nil) (some (Tryz.f91,x91)) .nil) (some (Tryz.f59,x59)) (.node .nil (some (Tryz.f123,VA)) .nil))))) none (.node (.node (.node (.node (.node (.node .nil (some (Tryz.f129,Vu)) .nil) (some (Tryz.f65,x65)) .nil) none (.node (.node .nil (some (Tryz.f161,UN)) .nil) (some (Tryz.f97,x97)) .nil)) none (.node (.node (.node .nil (some (Tryz.f145,Vd)) .nil) (some (Tryz.f81,x81)) .nil) (some (Tryz.f49,x49)) (.node .nil (some (Tryz.f113,VM)) .nil))) none (.node (.node (.node (.node .nil (some (Tryz.f137,Vl)) .nil) (some (Tryz.f73,x73)) .nil) (some (Tryz.f41,x41)) (.node .nil (some (Tryz.f105,VW)) .nil)) (some (Tryz.f25,x25)) (.node (.node (.node .nil (some (Tryz.f153,UW)) .nil) (some (Tryz.f89,x89)) .nil) (some (Tryz.f57,x57)) (.node .nil (some (Tryz.f121,VC)) .nil)))) (some (Tryz.f5,x5)) (.node (.node (.node (.node (.node .nil (some (Tryz.f133,Vp)) .nil) (some (Tryz.f69,x69)) .nil) (some (Tryz.f37,x37)) (.node (.node .nil (some (Tryz.f165,UJ)) .nil) (some (Tryz.f101,V0)) .nil)) none (.node (.node (.node .nil (some (Tryz.f149,U_)) .nil) (some (Tryz.f85,x85)) .nil) (some (Tryz.f53,x53)) (.node .nil (some (Tryz.f117,VH)) .nil))) (some (Tryz.f13,x13)) (.node (.node (.node (.node .nil (some (Tryz.f141,Vh)) .nil) (some (Tryz.f77,x77)) .nil) (some (Tryz.f45,x45)) (.node .nil (some (Tryz.f109,VR)) .nil)) none (.node (.node (.node .nil (some (Tryz.f157,UR)) .nil) (some (Tryz.f93,x93)) .nil) (some (Tryz.f61,x61)) (.node .nil (some (Tryz.f125,Vy)) .nil)))))) none (.node (.node (.node (.node (.node (.node (.node .nil (some (Tryz.f128,Vv)) .nil) (some (Tryz.f64,x64)) .nil) none (.node (.node .nil (some (Tryz.f160,UO)) .nil) (some (Tryz.f96,x96)) .nil)) (some (Tryz.f16,x16)) (.node (.node (.node .nil (some (Tryz.f144,Ve)) .nil) (some (Tryz.f80,x80)) .nil) (some (Tryz.f48,x48)) (.node .nil (some (Tryz.f112,VN)) .nil))) none (.node (.node (.node (.node .nil (some (Tryz.f136,Vm)) .nil) (some (Tryz.f72,x72)) .nil) (some (Tryz.f40,x40)) (.node .nil (some (Tryz.f104,VX)) .nil)) (some (Tryz.f24,x24)) (.node (.node (.node .nil (some (Tryz.f152,UX)) .nil) (some (Tryz.f88,x88)) .nil) (some (Tryz.f56,x56)) (.node .nil (some (Tryz.f120,VE)) .nil)))) none (.node (.node (.node (.node (.node .nil (some (Tryz.f132,Vq)) .nil) (some (Tryz.f68,x68)) .nil) (some (Tryz.f36,x36)) (.node (.node .nil (some (Tryz.f164,UK)) .nil) (some (Tryz.f100,V1)) .nil)) (some (Tryz.f20,x20)) (.node (.node (.node .nil (some (Tryz.f148,Va)) .nil) (some (Tryz.f84,x84)) .nil) (some (Tryz.f52,x52)) (.node .nil (some (Tryz.f116,VI)) .nil))) (some (Tryz.f12,x12)) (.node (.node (.node (.node .nil (some (Tryz.f140,Vi)) .nil) (some (Tryz.f76,x76)) .nil) (some (Tryz.f44,x44)) (.node .nil (some (Tryz.f108,VS)) .nil)) none (.node (.node (.node .nil (some (Tryz.f156,US)) .nil) (some (Tryz.f92,x92)) .nil) (some (Tryz.f60,x60)) (.node .nil (some (Tryz.f124,Vz)) .nil))))) none (.node (.node (.node (.node (.node (.node .nil (some (Tryz.f130,Vt)) .nil) (some (Tryz.f66,x66)) .nil) none (.node (.node .nil (some (Tryz.f162,UM)) .nil) (some (Tryz.f98,x98)) .nil)) none (.node (.node (.node .nil (some (Tryz.f146,Vc)) .nil) (some (Tryz.f82,x82)) .nil) (some (Tryz.f50,x50)) (.node .nil (some (Tryz.f114,VL)) .nil))) none (.node (.node (.node (.node .nil (some (Tryz.f138,Vk)) .nil) (some (Tryz.f74,x74)) .nil) (some (Tryz.f42,x42)) (.node .nil (some (Tryz.f106,VV)) .nil)) (some (Tryz.f26,x26)) (.node (.node (.node .nil (some (Tryz.f154,UU)) .nil) (some (Tryz.f90,x90)) .nil) (some (Tryz.f58,x58)) (.node .nil (some (Tryz.f122,VB)) .nil)))) none (.node (.node (.node (.node (.node .nil (some (Tryz.f134,Vo)) .nil) (some (Tryz.f70,x70)) .nil) (some (Tryz.f38,x38)) (.node (.node .nil (some (Tryz.f166,UI)) .nil) (some (Tryz.f102,VZ)) .nil)) (some (Tryz.f22,x22)) (.node (.node (.node .nil (some (Tryz.f150,UZ)) .nil) (some (Tryz.f86,x86)) .nil) (some (Tryz.f54,x54)) (.node .nil (some (Tryz.f118,VG)) .nil))) (some (Tryz.f14,x14)) (.node (.node (.node (.node .nil (some (Tryz.f142,Vg)) .nil) (some (Tryz.f78,x78)) .nil) (some (Tryz.f46,x46)) (.node .nil (some (Tryz.f110,VQ)) .nil)) (some (Tryz.f30,x30)) (.node (.node (.node .nil (some (Tryz.f158,UQ)) .nil) (some (Tryz.f94,x94)) .nil) (some (Tryz.f62,x62)) (.node .nil (some (Tryz.f126,Vx)) .nil)))))))
def fns:FT:=fun f=>fnT.get f
theorem fk5:bq Tryz.prog 5 Tryz.f5 x5:=ah Tryz.func5 rfl rfl
theorem agI:bq Tryz.prog 11 Tryz.f11 x11:=ah Tryz.func11 rfl rfl
theorem agH:bq Tryz.prog 12 Tryz.f12 x12:=ah Tryz.func12 rfl rfl
theorem agG:bq Tryz.prog 13 Tryz.f13 x13:=ah Tryz.func13 rfl rfl
theorem agF:bq Tryz.prog 14 Tryz.f14 x14:=ah Tryz.func14 rfl rfl
theorem agE:bq Tryz.prog 16 Tryz.f16 x16:=ah Tryz.func16 rfl rfl
theorem agD:bq Tryz.prog 19 Tryz.f19 x19:=ah Tryz.func19 rfl rfl
theorem agC:bq Tryz.prog 20 Tryz.f20 x20:=ah Tryz.func20 rfl rfl
theorem agB:bq Tryz.prog 22 Tryz.f22 x22:=ah Tryz.func22 rfl rfl
theorem agA:bq Tryz.prog 23 Tryz.f23 x23:=ah Tryz.func23 rfl rfl
theorem agz:bq Tryz.prog 24 Tryz.f24 x24:=ah Tryz.func24 rfl rfl
theorem agy:bq Tryz.prog 25 Tryz.f25 x25:=ah Tryz.func25 rfl rfl
theorem agx:bq Tryz.prog 26 Tryz.f26 x26:=ah Tryz.func26 rfl rfl
theorem agw:bq Tryz.prog 27 Tryz.f27 x27:=ah Tryz.func27 rfl rfl
theorem agv:bq Tryz.prog 30 Tryz.f30 x30:=ah Tryz.func30 rfl rfl
theorem agu:bq Tryz.prog 31 Tryz.f31 x31:=ah Tryz.func31 rfl rfl
theorem agt:bq Tryz.prog 35 Tryz.f35 x35:=ah Tryz.func35 rfl rfl
theorem ags:bq Tryz.prog 36 Tryz.f36 x36:=ah Tryz.func36 rfl rfl
theorem agr:bq Tryz.prog 37 Tryz.f37 x37:=ah Tryz.func37 rfl rfl
theorem agq:bq Tryz.prog 38 Tryz.f38 x38:=ah Tryz.func38 rfl rfl
theorem agp:bq Tryz.prog 39 Tryz.f39 x39:=ah Tryz.func39 rfl rfl
theorem ago:bq Tryz.prog 40 Tryz.f40 x40:=ah Tryz.func40 rfl rfl
theorem agn:bq Tryz.prog 41 Tryz.f41 x41:=ah Tryz.func41 rfl rfl
theorem agm:bq Tryz.prog 42 Tryz.f42 x42:=ah Tryz.func42 rfl rfl
theorem agl:bq Tryz.prog 43 Tryz.f43 x43:=ah Tryz.func43 rfl rfl
theorem agk:bq Tryz.prog 44 Tryz.f44 x44:=ah Tryz.func44 rfl rfl
theorem agj:bq Tryz.prog 45 Tryz.f45 x45:=ah Tryz.func45 rfl rfl
theorem agi:bq Tryz.prog 46 Tryz.f46 x46:=ah Tryz.func46 rfl rfl
theorem agh:bq Tryz.prog 47 Tryz.f47 x47:=ah Tryz.func47 rfl rfl
theorem agf:bq Tryz.prog 48 Tryz.f48 x48:=ah Tryz.func48 rfl rfl
theorem age:bq Tryz.prog 49 Tryz.f49 x49:=ah Tryz.func49 rfl rfl
theorem agd:bq Tryz.prog 50 Tryz.f50 x50:=ah Tryz.func50 rfl rfl
theorem agc:bq Tryz.prog 51 Tryz.f51 x51:=ah Tryz.func51 rfl rfl
theorem agb:bq Tryz.prog 52 Tryz.f52 x52:=ah Tryz.func52 rfl rfl
theorem aga:bq Tryz.prog 53 Tryz.f53 x53:=ah Tryz.func53 rfl rfl
theorem af_:bq Tryz.prog 54 Tryz.f54 x54:=ah Tryz.func54 rfl rfl
theorem af9:bq Tryz.prog 55 Tryz.f55 x55:=ah Tryz.func55 rfl rfl
theorem af8:bq Tryz.prog 56 Tryz.f56 x56:=ah Tryz.func56 rfl rfl
theorem af7:bq Tryz.prog 57 Tryz.f57 x57:=ah Tryz.func57 rfl rfl
theorem af6:bq Tryz.prog 58 Tryz.f58 x58:=ah Tryz.func58 rfl rfl
theorem af5:bq Tryz.prog 59 Tryz.f59 x59:=ah Tryz.func59 rfl rfl
theorem af4:bq Tryz.prog 60 Tryz.f60 x60:=ah Tryz.func60 rfl rfl
theorem af3:bq Tryz.prog 61 Tryz.f61 x61:=ah Tryz.func61 rfl rfl
theorem af2:bq Tryz.prog 62 Tryz.f62 x62:=ah Tryz.func62 rfl rfl
theorem af1:bq Tryz.prog 63 Tryz.f63 x63:=ah Tryz.func63 rfl rfl
theorem af0:bq Tryz.prog 64 Tryz.f64 x64:=ah Tryz.func64 rfl rfl
theorem afZ:bq Tryz.prog 65 Tryz.f65 x65:=ah Tryz.func65 rfl rfl
theorem afY:bq Tryz.prog 66 Tryz.f66 x66:=ah Tryz.func66 rfl rfl
theorem afX:bq Tryz.prog 67 Tryz.f67 x67:=ah Tryz.func67 rfl rfl
theorem afW:bq Tryz.prog 68 Tryz.f68 x68:=ah Tryz.func68 rfl rfl
theorem afV:bq Tryz.prog 69 Tryz.f69 x69:=ah Tryz.func69 rfl rfl
theorem afU:bq Tryz.prog 70 Tryz.f70 x70:=ah Tryz.func70 rfl rfl
theorem afT:bq Tryz.prog 71 Tryz.f71 x71:=ah Tryz.func71 rfl rfl
theorem afS:bq Tryz.prog 72 Tryz.f72 x72:=ah Tryz.func72 rfl rfl
theorem afR:bq Tryz.prog 73 Tryz.f73 x73:=ah Tryz.func73 rfl rfl
theorem afQ:bq Tryz.prog 74 Tryz.f74 x74:=ah Tryz.func74 rfl rfl
theorem afP:bq Tryz.prog 75 Tryz.f75 x75:=ah Tryz.func75 rfl rfl
theorem afO:bq Tryz.prog 76 Tryz.f76 x76:=ah Tryz.func76 rfl rfl
theorem afN:bq Tryz.prog 77 Tryz.f77 x77:=ah Tryz.func77 rfl rfl
theorem afM:bq Tryz.prog 78 Tryz.f78 x78:=ah Tryz.func78 rfl rfl
theorem afL:bq Tryz.prog 79 Tryz.f79 x79:=ah Tryz.func79 rfl rfl
theorem afK:bq Tryz.prog 80 Tryz.f80 x80:=ah Tryz.func80 rfl rfl
theorem afJ:bq Tryz.prog 81 Tryz.f81 x81:=ah Tryz.func81 rfl rfl
theorem afI:bq Tryz.prog 82 Tryz.f82 x82:=ah Tryz.func82 rfl rfl
theorem afH:bq Tryz.prog 83 Tryz.f83 x83:=ah Tryz.func83 rfl rfl
theorem afG:bq Tryz.prog 84 Tryz.f84 x84:=ah Tryz.func84 rfl rfl
theorem afF:bq Tryz.prog 85 Tryz.f85 x85:=ah Tryz.func85 rfl rfl
theorem afE:bq Tryz.prog 86 Tryz.f86 x86:=ah Tryz.func86 rfl rfl
theorem afD:bq Tryz.prog 87 Tryz.f87 x87:=ah Tryz.func87 rfl rfl
theorem afC:bq Tryz.prog 88 Tryz.f88 x88:=ah Tryz.func88 rfl rfl
theorem afB:bq Tryz.prog 89 Tryz.f89 x89:=ah Tryz.func89 rfl rfl
theorem afA:bq Tryz.prog 90 Tryz.f90 x90:=ah Tryz.func90 rfl rfl
theorem afz:bq Tryz.prog 91 Tryz.f91 x91:=ah Tryz.func91 rfl rfl
theorem afy:bq Tryz.prog 92 Tryz.f92 x92:=ah Tryz.func92 rfl rfl
theorem afx:bq Tryz.prog 93 Tryz.f93 x93:=ah Tryz.func93 rfl rfl
theorem afw:bq Tryz.prog 94 Tryz.f94 x94:=ah Tryz.func94 rfl rfl
theorem afv:bq Tryz.prog 95 Tryz.f95 x95:=ah Tryz.func95 rfl rfl
theorem afu:bq Tryz.prog 96 Tryz.f96 x96:=ah Tryz.func96 rfl rfl
theorem aft:bq Tryz.prog 97 Tryz.f97 x97:=ah Tryz.func97 rfl rfl
theorem afs:bq Tryz.prog 98 Tryz.f98 x98:=ah Tryz.func98 rfl rfl
theorem afr:bq Tryz.prog 99 Tryz.f99 x99:=ah Tryz.func99 rfl rfl
theorem aaO:bq Tryz.prog 100 Tryz.f100 V1:=ah Tryz.func100 rfl rfl
theorem aaN:bq Tryz.prog 101 Tryz.f101 V0:=ah Tryz.func101 rfl rfl
theorem aaM:bq Tryz.prog 102 Tryz.f102 VZ:=ah Tryz.func102 rfl rfl
theorem aaL:bq Tryz.prog 103 Tryz.f103 VY:=ah Tryz.func103 rfl rfl
theorem aaK:bq Tryz.prog 104 Tryz.f104 VX:=ah Tryz.func104 rfl rfl
theorem aaJ:bq Tryz.prog 105 Tryz.f105 VW:=ah Tryz.func105 rfl rfl
theorem aaI:bq Tryz.prog 106 Tryz.f106 VV:=ah Tryz.func106 rfl rfl
theorem aaH:bq Tryz.prog 107 Tryz.f107 VU:=ah Tryz.func107 rfl rfl
theorem aaG:bq Tryz.prog 108 Tryz.f108 VS:=ah Tryz.func108 rfl rfl
theorem aaF:bq Tryz.prog 109 Tryz.f109 VR:=ah Tryz.func109 rfl rfl
theorem aaE:bq Tryz.prog 110 Tryz.f110 VQ:=ah Tryz.func110 rfl rfl
theorem aaD:bq Tryz.prog 111 Tryz.f111 VO:=ah Tryz.func111 rfl rfl
theorem aaC:bq Tryz.prog 112 Tryz.f112 VN:=ah Tryz.func112 rfl rfl
theorem aaB:bq Tryz.prog 113 Tryz.f113 VM:=ah Tryz.func113 rfl rfl
theorem aaA:bq Tryz.prog 114 Tryz.f114 VL:=ah Tryz.func114 rfl rfl
theorem aaz:bq Tryz.prog 115 Tryz.f115 VJ:=ah Tryz.func115 rfl rfl
theorem aay:bq Tryz.prog 116 Tryz.f116 VI:=ah Tryz.func116 rfl rfl
theorem aax:bq Tryz.prog 117 Tryz.f117 VH:=ah Tryz.func117 rfl rfl
theorem aaw:bq Tryz.prog 118 Tryz.f118 VG:=ah Tryz.func118 rfl rfl
theorem aav:bq Tryz.prog 119 Tryz.f119 VF:=ah Tryz.func119 rfl rfl
theorem aau:bq Tryz.prog 120 Tryz.f120 VE:=ah Tryz.func120 rfl rfl
theorem aat:bq Tryz.prog 121 Tryz.f121 VC:=ah Tryz.func121 rfl rfl
theorem aas:bq Tryz.prog 122 Tryz.f122 VB:=ah Tryz.func122 rfl rfl
theorem aar:bq Tryz.prog 123 Tryz.f123 VA:=ah Tryz.func123 rfl rfl
theorem aaq:bq Tryz.prog 124 Tryz.f124 Vz:=ah Tryz.func124 rfl rfl
theorem aap:bq Tryz.prog 125 Tryz.f125 Vy:=ah Tryz.func125 rfl rfl
theorem aao:bq Tryz.prog 126 Tryz.f126 Vx:=ah Tryz.func126 rfl rfl
theorem aan:bq Tryz.prog 127 Tryz.f127 Vw:=ah Tryz.func127 rfl rfl
theorem aam:bq Tryz.prog 128 Tryz.f128 Vv:=ah Tryz.func128 rfl rfl
theorem aal:bq Tryz.prog 129 Tryz.f129 Vu:=ah Tryz.func129 rfl rfl
theorem aak:bq Tryz.prog 130 Tryz.f130 Vt:=ah Tryz.func130 rfl rfl
theorem aaj:bq Tryz.prog 131 Tryz.f131 Vr:=ah Tryz.func131 rfl rfl
theorem aai:bq Tryz.prog 132 Tryz.f132 Vq:=ah Tryz.func132 rfl rfl
theorem aah:bq Tryz.prog 133 Tryz.f133 Vp:=ah Tryz.func133 rfl rfl
theorem aag:bq Tryz.prog 134 Tryz.f134 Vo:=ah Tryz.func134 rfl rfl
theorem aaf:bq Tryz.prog 135 Tryz.f135 Vn:=ah Tryz.func135 rfl rfl
theorem aae:bq Tryz.prog 136 Tryz.f136 Vm:=ah Tryz.func136 rfl rfl
theorem aad:bq Tryz.prog 137 Tryz.f137 Vl:=ah Tryz.func137 rfl rfl
theorem aac:bq Tryz.prog 138 Tryz.f138 Vk:=ah Tryz.func138 rfl rfl
theorem aab:bq Tryz.prog 139 Tryz.f139 Vj:=ah Tryz.func139 rfl rfl
theorem aaa:bq Tryz.prog 140 Tryz.f140 Vi:=ah Tryz.func140 rfl rfl
theorem Z_:bq Tryz.prog 141 Tryz.f141 Vh:=ah Tryz.func141 rfl rfl
theorem Z9:bq Tryz.prog 142 Tryz.f142 Vg:=ah Tryz.func142 rfl rfl
theorem Z8:bq Tryz.prog 143 Tryz.f143 Vf:=ah Tryz.func143 rfl rfl
theorem Z7:bq Tryz.prog 144 Tryz.f144 Ve:=ah Tryz.func144 rfl rfl
theorem Z6:bq Tryz.prog 145 Tryz.f145 Vd:=ah Tryz.func145 rfl rfl
theorem Z5:bq Tryz.prog 146 Tryz.f146 Vc:=ah Tryz.func146 rfl rfl
theorem Z4:bq Tryz.prog 147 Tryz.f147 Vb:=ah Tryz.func147 rfl rfl
theorem Z3:bq Tryz.prog 148 Tryz.f148 Va:=ah Tryz.func148 rfl rfl
theorem Z2:bq Tryz.prog 149 Tryz.f149 U_:=ah Tryz.func149 rfl rfl
theorem Z1:bq Tryz.prog 150 Tryz.f150 UZ:=ah Tryz.func150 rfl rfl
theorem Z0:bq Tryz.prog 151 Tryz.f151 UY:=ah Tryz.func151 rfl rfl
theorem ZZ:bq Tryz.prog 152 Tryz.f152 UX:=ah Tryz.func152 rfl rfl
theorem ZY:bq Tryz.prog 153 Tryz.f153 UW:=ah Tryz.func153 rfl rfl
theorem ZX:bq Tryz.prog 154 Tryz.f154 UU:=ah Tryz.func154 rfl rfl
theorem ZW:bq Tryz.prog 155 Tryz.f155 UT:=ah Tryz.func155 rfl rfl
theorem ZV:bq Tryz.prog 156 Tryz.f156 US:=ah Tryz.func156 rfl rfl
theorem ZU:bq Tryz.prog 157 Tryz.f157 UR:=ah Tryz.func157 rfl rfl
theorem ZT:bq Tryz.prog 158 Tryz.f158 UQ:=ah Tryz.func158 rfl rfl
theorem ZS:bq Tryz.prog 159 Tryz.f159 UP:=ah Tryz.func159 rfl rfl
theorem ZR:bq Tryz.prog 160 Tryz.f160 UO:=ah Tryz.func160 rfl rfl
theorem ZQ:bq Tryz.prog 161 Tryz.f161 UN:=ah Tryz.func161 rfl rfl
theorem ZP:bq Tryz.prog 162 Tryz.f162 UM:=ah Tryz.func162 rfl rfl
theorem ZO:bq Tryz.prog 163 Tryz.f163 UL:=ah Tryz.func163 rfl rfl
theorem ZN:bq Tryz.prog 164 Tryz.f164 UK:=ah Tryz.func164 rfl rfl
theorem ZM:bq Tryz.prog 165 Tryz.f165 UJ:=ah Tryz.func165 rfl rfl
theorem ZL:bq Tryz.prog 166 Tryz.f166 UI:=ah Tryz.func166 rfl rfl
theorem NQ:ED Tryz.prog fns:=SF (.no (.no (.no (.no (.no (.yes agu (.yes af1 (.yes aan (.nil _ _) (.nil _ _)) (.nil _ _)) (.yes afv (.yes ZS (.nil _ _) (.nil _ _)) (.nil _ _))) (.yes agh (.yes afL (.yes Z8 (.nil _ _) (.nil _ _)) (.nil _ _)) (.yes aaD (.nil _ _) (.nil _ _)))) (.yes agA (.yes agp (.yes afT (.yes aaf (.nil _ _) (.nil _ _)) (.nil _ _)) (.yes aaL (.nil _ _) (.nil _ _))) (.yes af9 (.yes afD (.yes Z0 (.nil _ _) (.nil _ _)) (.nil _ _)) (.yes aav (.nil _ _) (.nil _ _))))) (.yes agI (.yes agD (.yes agt (.yes afX (.yes aaj (.nil _ _) (.nil _ _)) (.nil _ _)) (.yes afr (.yes ZO (.nil _ _) (.nil _ _)) (.nil _ _))) (.yes agc (.yes afH (.yes Z4 (.nil _ _) (.nil _ _)) (.nil _ _)) (.yes aaz (.nil _ _) (.nil _ _)))) (.yes agw (.yes agl (.yes afP (.yes aab (.nil _ _) (.nil _ _)) (.nil _ _)) (.yes aaH (.nil _ _) (.nil _ _))) (.yes af5 (.yes afz (.yes ZW (.nil _ _) (.nil _ _)) (.nil _ _)) (.yes aar (.nil _ _) (.nil _ _)))))) (.yes fk5 (.no (.no (.no (.yes afZ (.yes aal (.nil _ _) (.nil _ _)) (.nil _ _)) (.yes aft (.yes ZQ (.nil _ _) (.nil _ _)) (.nil _ _))) (.yes age (.yes afJ (.yes Z6 (.nil _ _) (.nil _ _)) (.nil _ _)) (.yes aaB (.nil _ _) (.nil _ _)))) (.yes agy (.yes agn (.yes afR (.yes aad (.nil _ _) (.nil _ _)) (.nil _ _)) (.yes aaJ (.nil _ _) (.nil _ _))) (.yes af7 (.yes afB (.yes ZY (.nil _ _) (.nil _ _)) (.nil _ _)) (.yes aat (.nil _ _) (.nil _ _))))) (.yes agG (.no (.yes agr (.yes afV (.yes aah (.nil _ _) (.nil _ _)) (.nil _ _)) (.yes aaN (.yes ZM (.nil _ _) (.nil _ _)) (.nil _ _))) (.yes aga (.yes afF (.yes Z2 (.nil _ _) (.nil _ _)) (.nil _ _)) (.yes aax (.nil _ _) (.nil _ _)))) (.no (.yes agj (.yes afN (.yes Z_ (.nil _ _) (.nil _ _)) (.nil _ _)) (.yes aaF (.nil _ _) (.nil _ _))) (.yes af3 (.yes afx (.yes ZU (.nil _ _) (.nil _ _)) (.nil _ _)) (.yes aap (.nil _ _) (.nil _ _))))))) (.no (.no (.no (.yes agE (.no (.yes af0 (.yes aam (.nil _ _) (.nil _ _)) (.nil _ _)) (.yes afu (.yes ZR (.nil _ _) (.nil _ _)) (.nil _ _))) (.yes agf (.yes afK (.yes Z7 (.nil _ _) (.nil _ _)) (.nil _ _)) (.yes aaC (.nil _ _) (.nil _ _)))) (.yes agz (.yes ago (.yes afS (.yes aae (.nil _ _) (.nil _ _)) (.nil _ _)) (.yes aaK (.nil _ _) (.nil _ _))) (.yes af8 (.yes afC (.yes ZZ (.nil _ _) (.nil _ _)) (.nil _ _)) (.yes aau (.nil _ _) (.nil _ _))))) (.yes agH (.yes agC (.yes ags (.yes afW (.yes aai (.nil _ _) (.nil _ _)) (.nil _ _)) (.yes aaO (.yes ZN (.nil _ _) (.nil _ _)) (.nil _ _))) (.yes agb (.yes afG (.yes Z3 (.nil _ _) (.nil _ _)) (.nil _ _)) (.yes aay (.nil _ _) (.nil _ _)))) (.no (.yes agk (.yes afO (.yes aaa (.nil _ _) (.nil _ _)) (.nil _ _)) (.yes aaG (.nil _ _) (.nil _ _))) (.yes af4 (.yes afy (.yes ZV (.nil _ _) (.nil _ _)) (.nil _ _)) (.yes aaq (.nil _ _) (.nil _ _)))))) (.no (.no (.no (.no (.yes afY (.yes aak (.nil _ _) (.nil _ _)) (.nil _ _)) (.yes afs (.yes ZP (.nil _ _) (.nil _ _)) (.nil _ _))) (.yes agd (.yes afI (.yes Z5 (.nil _ _) (.nil _ _)) (.nil _ _)) (.yes aaA (.nil _ _) (.nil _ _)))) (.yes agx (.yes agm (.yes afQ (.yes aac (.nil _ _) (.nil _ _)) (.nil _ _)) (.yes aaI (.nil _ _) (.nil _ _))) (.yes af6 (.yes afA (.yes ZX (.nil _ _) (.nil _ _)) (.nil _ _)) (.yes aas (.nil _ _) (.nil _ _))))) (.yes agF (.yes agB (.yes agq (.yes afU (.yes aag (.nil _ _) (.nil _ _)) (.nil _ _)) (.yes aaM (.yes ZL (.nil _ _) (.nil _ _)) (.nil _ _))) (.yes af_ (.yes afE (.yes Z1 (.nil _ _) (.nil _ _)) (.nil _ _)) (.yes aaw (.nil _ _) (.nil _ _)))) (.yes agv (.yes agi (.yes afM (.yes Z9 (.nil _ _) (.nil _ _)) (.nil _ _)) (.yes aaE (.nil _ _) (.nil _ _))) (.yes af2 (.yes afw (.yes ZT (.nil _ _) (.nil _ _)) (.nil _ _)) (.yes aao (.nil _ _) (.nil _ _))))))))
end Go.Proofs.YtihiooaimdoapaaGreat
namespace Go.Bm
section
theorem sm {g:G} {a:A} {u:Value} (h:V g a u):∀(i:Nat) (p:A) (v:Value),[a][i]?=some p→[u][i]?=some v→V g p v:=fun i p v e1 e2=>by
 cases i with
 | zero=>cases e1;cases e2;exact h
 | succ i=>cases e1
abbrev LD (t:Ty) (r:Nat) (rs:List (Bool×Ty)):eO:=⟨[(false,.kA r t.size)],rs,[(r,.row t)],[]⟩
theorem S4 {P:Program} {cx:Cx} (hx:nM P cx) {f:FuncId} {t:Ty} {rs:List (Bool×Ty)} {r:Nat} {F:List t.T→Option (mE rs×Unit)} (h64:Nat.blt r 64=true) (h0t:0<t.size)
  (hn:∀c,Bc cx f (LD t r rs) [.v (.slice none 0 0)] c ()=F [])
  (h1:∀c,Bc cx f (LD t r rs) [.nn t []] c ()=F [])
  (h2:∀c j,Bc cx f (LD t r rs) [.tw (.c_ r j) t.size] c ()=bd (aD (α:=t.T) c.1 j) (fun l=>gd (bn 0 (len l)) (bd (aD (α:=t.T) c.1 j) F))) :
  cb P f (LD t r rs) (fun x c _=>opt x.1 (F []) (fun j=>bd (aD (α:=t.T) c.1 j) F)):=by
 have fnk:∀c y,F []=some y→EC P f:=fun c y h=>(lC hx f (LD t r rs) _ c () y.1 y.2 ((h1 c).trans h)).1
 have empty:∀c y d',F []=some (y,d')→∃n k,PC P f [.v (.slice none 0 0)] (hp (h0 [(r,.row t)] [] c ())) (hp ⟨.nil,n,fg [] d'++fg [(r,.row t)] c,k⟩) (xg rs y) ∧
   PC P f [.nn t []] (hp (h0 [(r,.row t)] [] c ())) (hp ⟨.nil,n,fg [] d'++fg [(r,.row t)] c,k⟩) (xg rs y):=fun c y d' h=>by
  obtain ⟨_,t1,n1,k1,p1⟩:=lC hx f (LD t r rs) _ c () y d' ((h1 c).trans h)
  obtain ⟨_,t0,n0,k0,p0⟩:=lC hx f (LD t r rs) _ c () y d' ((hn c).trans h)
  exact ⟨n1+n0,k1,p0.less (l4 (Nat.le_add_left _ _)).1 (l4 (Nat.le_add_left _ _)).2,p1.less (l4 (Nat.le_add_right _ _)).1 (l4 (Nat.le_add_right _ _)).2⟩
 have Pv:∀c j l y,aD (α:=t.T) c.1 j=some l→0<l.length→F l=some y→Bc cx f (LD t r rs) [.tw (.c_ r j) t.size] c ()=some y:=fun c j l y hl hlen h=>by
  rw [h2 c j,hl]
  have e:bn 0 (len l):=hlen
  exact (SD e).trans h
 refine ⟨fun x c d y h=>?_,fun x c d y d' h=>?_⟩
 ·obtain ⟨o,u⟩:=x
  cases o with
  | none=>exact fnk c y h
  | some j=>
   have h:bd (aD (α:=t.T) c.1 j) F=some y:=h
   obtain ⟨l,e1,e2⟩:=wP h
   cases l with
   | nil=>exact fnk c y e2
   | cons a l=>exact (lC hx f (LD t r rs) _ c () y.1 y.2 (Pv c j _ y e1 (Nat.succ_pos _) e2)).1
 ·obtain ⟨o,u⟩:=x
  cases o with
  | none=>
   have h:F []=some (y,d'):=h
   obtain ⟨n,k,p0,p1⟩:=empty c y d' h
   refine ⟨.nil,n,k,fun g w vs hI hl hv=>?_⟩
   match vs,hl with
   | [v],_=>
    have hv:V g (.os r t.size none) v:=hv 0 _ _ rfl rfl
    cases hv with
    | os _ _ _ _ q0 _=>
     have q0:=q0 rfl
     cases q0 with
     | e0 ad=>
      cases ad with
      | none=>exact p0 g w _ hI rfl (sm (.v _))
      | some ad=>exact p1 g w _ hI rfl (sm (.nn t [] ad 0 0 (.xc _ _ _)))
  | some j=>
   have h:bd (aD (α:=t.T) c.1 j) F=some (y,d'):=h
   obtain ⟨l,e1,e2⟩:=wP h
   cases l with
   | cons a l=>
    obtain ⟨_,t1,n1,k1,p1⟩:=lC hx f (LD t r rs) _ c () y d' (Pv c j _ _ e1 (Nat.succ_pos _) e2)
    refine ⟨t1,n1,k1,fun g w vs hI hl hv=>?_⟩
    match vs,hl with
    | [v],_=>
     have hv:V g (.os r t.size (some j)) v:=hv 0 _ _ rfl rfl
     cases hv with
     | os _ _ _ _ _ q1=>exact p1 g w _ hI rfl (sm (q1 j rfl))
   | nil=>
    obtain ⟨n,k,p0,p1⟩:=empty c y d' e2
    refine ⟨.nil,n,k,fun g w vs hI hl hv=>?_⟩
    match vs,hl with
    | [v],_=>
     have hv:V g (.os r t.size (some j)) v:=hv 0 _ _ rfl rfl
     have DY:v = .slice none 0 0→_:=fun hq=>p0 g w [v] hI rfl (sm (by rw [hq];exact .v _))
     have Kc:V g (.nn t []) v→_:=fun hq=>p1 g w [v] hI rfl (sm hq)
     cases hv with
     | os _ _ _ _ _ q1=>
      have q1:=q1 j rfl
      have uO:lg (h0 [(r,.row t)] [] c ()) (.c_ r j) (fun t l=>some (⟨t,l⟩:(t:Ty)×List t.T))=some ⟨t,[]⟩:=by
       have hf:cl (h0 [(r,.row t)] [] c ()).rg r=some ⟨r,.row t,c.1⟩:=by
        show (bif Nat.beq r r then some (⟨r,.row t,c.1⟩:Rg) else _)=_
        rw [Nat.beq_refl];rfl
       unfold lg
       simp only [hf,h64,cond_true]
       rw [e1];rfl
      obtain ⟨t',l',k1,_,fN⟩:=gK uO
      cases k1
      rcases q1.uh hI h0t fN with ⟨ad,_,rfl,_⟩ | ⟨b,s,cap,d,_,rfl,_,_,ae_⟩
      ·cases ad with
       | none=>exact DY rfl
       | some ad=>exact Kc (.nn t [] ad 0 0 (.xc _ _ _))
      ·exact Kc (.nn t [] _ _ _ (.sl _ false [] (some (b,d)) cap [] (fun e he=>by cases he) (Nat.zero_le _) (fun h=>by cases h) (fun h=>by cases h) (by omega) rfl (fun p j x _ h=>by simp at h) (fun j c x h=>by simp at h)))
end
end Go.Bm