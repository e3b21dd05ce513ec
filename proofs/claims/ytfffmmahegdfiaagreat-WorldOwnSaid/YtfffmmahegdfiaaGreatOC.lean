/- Texts of one proof, put together: see each part. -/
import Derived.LoopNIn
import Derived.Test.YtfffmmahegdfiaaGreatRows
import Derived.Shelf.Spec.SlicesGrow
import Derived.Shelf.RegionOpenPlain
import Derived.WalkKit
import Derived.Lib.Walk
import Derived.Lib.SliceRun
import Derived.KernelRfl
import Derived.Test.YtfffmmahegdfiaaGreatOB
set_option maxHeartbeats 2000000
noncomputable section
set_option linter.unusedVariables false
set_option linter.unusedSimpArgs false
namespace Go.Bm
section
open Go.RowKit
def vO {α:Type} (p:α→Bool):Option α→Bool
 | some x=>p x
 | none=>true
def sh {α:Type} (p:α→Bool) (t:Tr α):Bool:=
 Tr.rec (motive:=fun _=>Bool) true (fun _ v _ a b=>vO p v && a && b) t
theorem mI {α:Type} {p:α→Bool}:∀{t:Tr α} (_:sh p t=true) (i:Nat) (x:α),t.get i=some x→p x=true
 | .nil,_,i,x,e=>by rw [Tr.get_nil] at e;cases e
 | .node l v r,h,i,x,e=>by
  have h:(vO p v && sh p l && sh p r)=true:=h
  simp only [zC] at h
  cases i with
  | zero=>rw [Tr.kc] at e;subst e;exact h.1.1
  | succ i=>
   rw [Tr.hH] at e
   cases hb:Nat.beq (i%2) 0 with
   | true=>rw [hb] at e;exact mI h.1.2 _ x e
   | false=>rw [hb] at e;exact mI h.2 _ x e
def Ji (N:Nat):gF→Bool
 | .cells cs=>cs.all (tB N 6)
 | .one _ _=>true
 | .row _ _=>true
 | .cT (.map es)=>es.all fun e=>tB N 6 e.1 && tB N 6 e.2
 | .cT .y7=>true
 | .cT (.loop _ _)=>true
theorem B3 {N:Nat} {F:Tr A} (h:sh (tB N 6) F=true) (i:Nat):VP N (bl F.get i):=by
 unfold bl
 split
 ·rename_i p hp;exact gz 6 p (mI h i p hp)
 ·exact gz 1 _ rfl
theorem Gh {N:Nat} {x:gF} (h:Ji N x=true):E4 N x.low:=by
 cases x with
 | cells cs=>
  have h:cs.all (tB N 6)=true:=h
  rw [List.all_eq_true] at h
  exact fun c hc=>gz 6 c (h c hc)
 | one t x=>exact iX t x
 | row t l=>exact fun c hc=>by obtain ⟨y,_,hy⟩:=List.mem_flatMap.1 hc;exact iX t y c hy
 | cT x=>
  cases x with
  | map es=>
   have h:(es.all fun e=>tB N 6 e.1 && tB N 6 e.2)=true:=h
   rw [List.all_eq_true] at h
   exact fun e he=>by have:=h e he;rw [zC] at this;exact ⟨gz 6 _ this.1,gz 6 _ this.2⟩
  | y7=>trivial
  | loop=>trivial
def ckT (k:Bool×Ty):Bool×Ty:=(false,match k.1 with | true=>.aO k.2 | false=>k.2)
def JO (l:List (Bool×Ty)):List (Bool×Ty):=l.map ckT
def CB:List ((Nat×Option Nat)×List (Bool×Ty))→Type
 | []=>Unit
 | p::l=>ki (JO p.2)×CB l
def nz:List (Bool×Ty)→Nat
 | []=>0
 | (true,_)::l=>nz l+1
 | (false,_)::l=>nz l
def pH:List ((Nat×Option Nat)×List (Bool×Ty))→Nat
 | []=>0
 | p::l=>nz p.2+pH l
def LH.S (H:LH):Type:=ki (H.nk.map (·.2))×ki (H.grow.map fun p=>(false,Ty.aO p.2))×ki (H.boxes.map fun p=>(false,p.2))×CB H.wu×rE H.iZ
def LH.m (H:LH):Nat:=H.grow.length+pH H.wu
section
variable {β:Type}
def Dc:List Nat→Tr A→(Tr A→Option β)→Option β
 | [],F,k=>k F
 | i::l,F,k=>fq F i (some .cL) (fun F=>Dc l F k)
def U_:(l:List (Nat×Bool×Ty))→ki (l.map (·.2))→Tr A→(Tr A→Option β)→Option β
 | [],_,F,k=>k F
 | p::l,x,F,k=>Mr (cb p.2.1 p.2.2 x.1) (fun c=>fq F p.1 (some c) (fun F=>U_ l x.2 F k))
def Xo:List (Nat×Ty)→Nat→Tr A→(Tr A→Option β)→Option β
 | [],_,F,k=>k F
 | p::l,i,F,k=>fq F p.1 (some (.tw (.loc i) p.2.size)) (fun F=>Xo l (i+1) F k)
def Eb:List Nat→Tr gF→(Tr gF→Option β)→Option β
 | [],t,k=>k t
 | i::l,t,k=>fq t i none (fun t=>Eb l t k)
def Xr:(l:List ((Nat×Option Nat)×Ty))→List Nat→ki (l.map fun p=>(false,p.2))→Tr gF→(Tr gF→Option β)→Option β
 | [],_,_,t,k=>k t
 | p::l,b::bs,x,t,k=>fq t b (some (.one p.2 x.1)) (fun t=>Xr l bs x.2 t k)
 | _::_,[],_,_,_=>none
def Xp:(l:List (Nat×Ty))→Nat→ki (l.map fun p=>(false,Ty.aO p.2))→Tr gF→(Tr gF→Option β)→Option β
 | [],_,_,t,k=>k t
 | p::l,i,x,t,k=>fq t i (some (.row p.2 x.1)) (fun t=>Xp l (i+1) x.2 t k)
def LI:(ks:List (Bool×Ty))→ki (JO ks)→Nat→List A
 | [],_,_=>[]
 | (true,t)::l,x,i=>.tw (.loc i) t.size::LI l x.2 (i+1)
 | (false,t)::l,x,i=>cb false t x.1::LI l x.2 i
def Va:(ks:List (Bool×Ty))→ki (JO ks)→Nat→Tr gF→(Tr gF→Option β)→Option β
 | [],_,_,t,k=>k t
 | (true,u)::l,x,i,t,k=>fq t i (some (.row u x.1)) (fun t=>Va l x.2 (i+1) t k)
 | (false,_)::l,x,i,t,k=>Va l x.2 i t k
def Xq:(l:List ((Nat×Option Nat)×List (Bool×Ty)))→List Nat→Nat→CB l→Tr gF→(Tr gF→Option β)→Option β
 | [],_,_,_,t,k=>k t
 | p::l,b::bs,i,x,t,k=>fq t b (some (.cells (LI p.2 x.1 i))) (fun t=>Va p.2 x.1 i t (fun t=>Xq l bs (i+nz p.2) x.2 t k))
 | _::_,[],_,_,_,_=>none
def AL (H:LH) (lv bs cs dg:List Nat) (Fe:Tr A) (he:Go.Bm.H) (s:H.S) (k:Tr A→Go.Bm.H→Option β):Option β:=
 Dc lv Fe (fun F=>U_ H.nk s.1 F (fun F=>Xo H.grow he.aU F (fun F=>Eb (dg++(bs++cs)) he.t (fun t=>Xr H.boxes bs s.2.2.1 t (fun t=>Xq H.wu cs (he.aU+H.grow.length) s.2.2.2.1 t (fun t=>Xp H.grow he.aU s.2.1 t (fun t=>k F ⟨t,he.aU+H.m,kq H.iZ s.2.2.2.2 he.rg,he.lk⟩)))))))
def UL (n:Nat):(l:List (Nat×Bool×Ty))→Tr A→Option (ki (l.map (·.2)))
 | [],_=>some ()
 | p::l,F=>bif Nat.blt p.1 n then (match kX p.2.1 p.2.2 (bl F.get p.1),UL n l F with
  | some x,some y=>some (x,y)
  | _,_=>none) else none
def FG (t:Ty) (h:Tr gF):A→Option (List t.T×Option Nat)
 | .tw (.loc o) z=>match h.get o with
  | some (.row t' l)=>bif Nat.beq z t.size && Nat.blt o 16777216 then (match fP (.aO t') (.aO t) l with
   | some l=>some (l,some o)
   | none=>none) else none
  | _=>none
 | .e0=>some ([],none)
 | .v (.slice none 0 0)=>some ([],none)
 | _=>none
def Jc (n:Nat):(l:List (Nat×Ty))→Tr A→Tr gF→Option (ki (l.map fun p=>(false,Ty.aO p.2))×List (Option Nat))
 | [],_,_=>some ((),[])
 | p::l,F,t=>bif Nat.blt p.1 n then (match FG p.2 t (bl F.get p.1),Jc n l F t with
  | some x,some y=>some ((x.1,y.1),x.2::y.2)
  | _,_=>none) else none
def UM:(l:List ((Nat×Option Nat)×Ty))→List Nat→Tr gF→Option (ki (l.map fun p=>(false,p.2)))
 | [],_,_=>some ()
 | p::l,b::bs,t=>match t.get b with
  | some (.one t' x)=>match fP t' p.2 x,UM l bs t with
   | some x,some y=>some (x,y)
   | _,_=>none
  | _=>none
 | _::_,[],_=>none
def Ki:(ks:List (Bool×Ty))→List A→Tr gF→Option (ki (JO ks)×List (Option Nat))
 | [],[],_=>some ((),[])
 | (true,u)::l,c::cs,t=>match FG u t c,Ki l cs t with
  | some x,some y=>some ((x.1,y.1),x.2::y.2)
  | _,_=>none
 | (false,u)::l,c::cs,t=>match kX false u c,Ki l cs t with
  | some x,some y=>some ((x,y.1),y.2)
  | _,_=>none
 | _,_,_=>none
def Cz:(l:List ((Nat×Option Nat)×List (Bool×Ty)))→List Nat→Tr gF→Option (CB l×List (Option Nat))
 | [],_,_=>some ((),[])
 | p::l,b::bs,t=>match t.get b with
  | some (.cells cs)=>match Ki p.2 cs t,Cz l bs t with
   | some x,some y=>some ((x.1,y.1),x.2++y.2)
   | _,_=>none
  | _=>none
 | _::_,[],_=>none
def Cn (t:Tr gF) (q:Nat):Bool:=match t.get q with
 | some (.cT (.loop .ready none))=>true
 | _=>false
def LG (N:Nat) (bs dg:List Nat) (iZ:List (Nat×RK)) (ws:List Nat):Bool:=
 ws.all fun q=>bif Nat.beq (q%2) 0 then Nat.ble N (q / 2) || bs.any (Nat.beq (q / 2)) || dg.any (Nat.beq (q / 2)) else iZ.any fun p=>Nat.beq q (im p.1)
def Vv:List Nat→List Nat→Bool
 | [],[]=>true
 | a::l,b::k=>Nat.beq a b && Vv l k
 | _,_=>false
theorem D5:∀{l k:List Nat},Vv l k=true→l=k
 | [],[],_=>rfl
 | a::l,b::k,h=>by
  have h:(Nat.beq a b && Vv l k)=true:=h
  rw [zC] at h
  rw [beq_eq h.1,D5 h.2]
def CU (q:Nat):Option Nat→Bool
 | some o=>Nat.beq q o
 | none=>false
def Az (N:Nat) (dg:List Nat):List (Option Nat)→Bool
 | []=>true
 | none::l=>Az N dg l
 | some o::l=>(Nat.ble N o || dg.any (Nat.beq o)) && !(l.any (CU o)) && Az N dg l
def Bu (H:LH) (n N:Nat) (bs cs qs dg Ms:List Nat) (F:Tr A) (h:Go.Bm.H) (ds:List Nat) (T:Fp):Option H.S:=
 bif LG N (bs++cs++qs) dg H.iZ T.ws && Vv ds Ms && qs.all (Cn h.t) then (match UL n H.nk F,Jc n H.grow F h.t,UM H.boxes bs h.t,Cz H.wu cs h.t,xy H.iZ h.rg with
 | some v,some g,some b,some e,some c=>bif Az N dg (g.2++e.2) then some (v,g.1,b,e.1,c) else none
 | _,_,_,_,_=>none) else none
def JQ:A→Option Nat
 | .tp (.loc b) []=>some b
 | .ptr b 0=>some b
 | _=>none
def VC (F:Tr A) (p:Nat×Option Nat):Option Nat:=match p.2 with
 | none=>JQ (bl F.get p.1)
 | some j=>match bl F.get p.1 with
  | .rB _ _ F' _ _ _ _=>JQ (bl F'.get j)
  | _=>none
def Ll:List (Nat×Option Nat)→Tr A→Option (List Nat)
 | [],_=>some []
 | p::l,F=>match VC F p,Ll l F with
  | some b,some bs=>some (b::bs)
  | _,_=>none
def TG:List Nat→Tr A→Option (List Nat)
 | [],_=>some []
 | p::l,F=>match bl F.get p,TG l F with
  | .rB q _ _ _ _ _ _,some bs=>some (q::bs)
  | _,_=>none
def Lj:List (Nat×Ty)→Tr A→List Nat
 | [],_=>[]
 | p::l,F=>match bl F.get p.1 with
  | .tw (.loc o) _=>o::Lj l F
  | _=>Lj l F
def Li:List A→List Nat
 | []=>[]
 | .tw (.loc o) _::l=>o::Li l
 | _::l=>Li l
def Lk (t:Tr gF):List Nat→List Nat
 | []=>[]
 | b::l=>match t.get b with
  | some (.cells cs)=>Li cs++Lk t l
  | _=>Lk t l
structure Fq where
 bs:List Nat
 cs:List Nat
 qs:List Nat
 dg:List Nat
def Hh (H:LH) (F:Tr A) (h:Go.Bm.H):Option Fq:=match Ll (H.boxes.map (·.1)) F,Ll (H.wu.map (·.1)) F,TG H.loops F with
 | some bs,some cs,some qs=>some ⟨bs,cs,qs,Lj H.grow F++Lk h.t cs⟩
 | _,_,_=>none
def yZ (H:LH) (E:Fq) (ds:List Nat) (F:Tr A) (h:Go.Bm.H):Bool:=
 sh (tB h.aU 6) F && sh (Ji h.aU) h.t && Nat.ble (h.aU+H.m) 16777216 && (E.bs++E.cs).all (fun b=>Nat.blt b h.aU) && E.dg.all (fun b=>Nat.blt b h.aU) && ds.all (fun b=>Nat.blt b h.aU) && (E.bs++E.cs).all (fun b=>!(E.dg.any (Nat.beq b))) && E.qs.all (fun q=>Cn h.t q && !((E.dg++(E.bs++E.cs)).any (Nat.beq q))) && H.iZ.all fun p=>Option.isSome (bA h.rg p.1)
def jT (H:LH) (N:Nat) (E:Fq):Fp:=⟨true,[],true,((E.bs++E.cs).map dy++E.dg.map dy)++((List.range H.m).map (fun k=>dy (N+k))++H.iZ.map fun p=>im p.1)⟩
variable {r:β}
theorem nX {F F':Tr A} {d:Nat} {p:A} (e:F'.get=fun m=>if m=d then some p else F.get m) (i:Nat):bl F'.get i=if i=d then p else bl F.get i:=by
 unfold bl
 rw [e]
 by_cases h:i=d
 ·simp [h]
 ·simp [h]
theorem sD:∀(l:List Nat) (F:Tr A) (k:Tr A→Option β),Dc l F k=some r→∃F',k F'=some r∧∀ba:Nat→A→Prop,(∀i∈l,ba i .cL)→(∀i,i∉l→ba i (bl F.get i))→∀i,ba i (bl F'.get i)
 | [],F,k,h=>⟨F,h,fun ba _ h2 i=>h2 i (by simp)⟩
 | d::l,F,k,h=>by
  obtain ⟨_,F1,k1,k2⟩:=bz h
  obtain ⟨F',q1,q2⟩:=sD l F1 k k1
  refine ⟨F',q1,fun ba h1 h2=>q2 ba (fun i hi=>h1 i (.tail _ hi)) (fun i hi=>?_)⟩
  rw [nX k2]
  by_cases hd:i=d
  ·rw [if_pos hd];exact h1 i (by rw [hd];exact .head _)
  ·rw [if_neg hd];exact h2 i (by simp [hd,hi])
def EA (ba:Nat→A→Prop):(l:List (Nat×Bool×Ty))→ki (l.map (·.2))→Prop
 | [],_=>True
 | p::l,x=>ba p.1 (cb p.2.1 p.2.2 x.1)∧EA ba l x.2
def Ez (ba:Nat→A→Prop):List (Nat×Ty)→Nat→Prop
 | [],_=>True
 | p::l,i=>ba p.1 (.tw (.loc i) p.2.size)∧Ez ba l (i+1)
def ED (ba:Nat→Option Ob→Prop):(l:List ((Nat×Option Nat)×Ty))→List Nat→ki (l.map fun p=>(false,p.2))→Prop
 | [],_,_=>True
 | p::l,b::bs,x=>ba b (some (.cells (aE p.2 x.1)))∧ED ba l bs x.2
 | _::_,[],_=>True
def EB (ba:Nat→Option Ob→Prop):(l:List (Nat×Ty))→Nat→ki (l.map fun p=>(false,Ty.aO p.2))→Prop
 | [],_,_=>True
 | p::l,i,x=>ba i (some (.cells (List.flatMap (α:=p.2.T) (aE p.2) x.1)))∧EB ba l (i+1) x.2
def Bk (ba:Nat→Option Ob→Prop):(ks:List (Bool×Ty))→ki (JO ks)→Nat→Prop
 | [],_,_=>True
 | (true,u)::l,x,i=>ba i (some (.cells (List.flatMap (α:=u.T) (aE u) x.1)))∧Bk ba l x.2 (i+1)
 | (false,_)::l,x,i=>Bk ba l x.2 i
def EC (ba:Nat→Option Ob→Prop):(l:List ((Nat×Option Nat)×List (Bool×Ty)))→List Nat→Nat→CB l→Prop
 | [],_,_,_=>True
 | p::l,b::bs,i,x=>ba b (some (.cells (LI p.2 x.1 i)))∧Bk ba p.2 x.1 i∧EC ba l bs (i+nz p.2) x.2
 | _::_,[],_,_=>True
theorem yI:∀(l:List (Nat×Bool×Ty)) (x:ki (l.map (·.2))) (F:Tr A) (k:Tr A→Option β),U_ l x F k=some r→∃F',k F'=some r∧∀ba:Nat→A→Prop,EA ba l x→(∀i,ba i (bl F.get i))→∀i,ba i (bl F'.get i)
 | [],_,F,k,h=>⟨F,h,fun ba _ h2=>h2⟩
 | p::l,x,F,k,h=>by
  unfold U_ at h
  rw [xF] at h
  obtain ⟨_,F1,k1,k2⟩:=bz h
  obtain ⟨F',q1,q2⟩:=yI l x.2 F1 k k1
  refine ⟨F',q1,fun ba h1 h2=>q2 ba h1.2 (fun i=>?_)⟩
  rw [nX k2]
  by_cases hd:i=p.1
  ·rw [if_pos hd,hd];exact h1.1
  ·rw [if_neg hd];exact h2 i
theorem yH:∀(l:List (Nat×Ty)) (j:Nat) (F:Tr A) (k:Tr A→Option β),Xo l j F k=some r→∃F',k F'=some r∧∀ba:Nat→A→Prop,Ez ba l j→(∀i,ba i (bl F.get i))→∀i,ba i (bl F'.get i)
 | [],_,F,k,h=>⟨F,h,fun ba _ h2=>h2⟩
 | p::l,j,F,k,h=>by
  obtain ⟨_,F1,k1,k2⟩:=bz h
  obtain ⟨F',q1,q2⟩:=yH l (j+1) F1 k k1
  refine ⟨F',q1,fun ba h1 h2=>q2 ba h1.2 (fun i=>?_)⟩
  rw [nX k2]
  by_cases hd:i=p.1
  ·rw [if_pos hd,hd];exact h1.1
  ·rw [if_neg hd];exact h2 i
theorem ya {t t':Tr gF} {d:Nat} {x:Option gF} (e:t'.get=fun m=>if m=d then x else t.get m) (i:Nat):fM t' i=if i=d then x.map gF.low else fM t i:=by
 unfold fM
 rw [e]
 by_cases h:i=d
 ·simp only [if_pos h];cases x<;>rfl
 ·simp only [if_neg h]
theorem sM:∀(l:List Nat) (t:Tr gF) (k:Tr gF→Option β),Eb l t k=some r→∃t',k t'=some r∧∀ba:Nat→Option Ob→Prop,(∀i∈l,ba i none)→(∀i,i∉l→ba i (fM t i))→∀i,ba i (fM t' i)
 | [],t,k,h=>⟨t,h,fun ba _ h2 i=>h2 i (by simp)⟩
 | d::l,t,k,h=>by
  obtain ⟨_,t1,k1,k2⟩:=bz h
  obtain ⟨t',q1,q2⟩:=sM l t1 k k1
  refine ⟨t',q1,fun ba h1 h2=>q2 ba (fun i hi=>h1 i (.tail _ hi)) (fun i hi=>?_)⟩
  rw [ya k2]
  by_cases hd:i=d
  ·rw [if_pos hd];exact h1 i (by rw [hd];exact .head _)
  ·rw [if_neg hd];exact h2 i (by simp [hd,hi])
theorem FQ {t t1:Tr gF} {d:Nat} {x:gF} {ba:Nat→Option Ob→Prop} (e:t1.get=fun m=>if m=d then some x else t.get m) (h1:ba d (some x.low)) (h2:∀i,ba i (fM t i)) (i:Nat):ba i (fM t1 i):=by
 rw [ya e]
 by_cases hd:i=d
 ·rw [if_pos hd,hd];exact h1
 ·rw [if_neg hd];exact h2 i
theorem yL:∀(l:List ((Nat×Option Nat)×Ty)) (bs:List Nat) (x:ki (l.map fun p=>(false,p.2))) (t:Tr gF) (k:Tr gF→Option β),Xr l bs x t k=some r→∃t',k t'=some r∧∀ba:Nat→Option Ob→Prop,ED ba l bs x→(∀i,ba i (fM t i))→∀i,ba i (fM t' i)
 | [],_,_,t,k,h=>⟨t,h,fun ba _ h2=>h2⟩
 | p::l,b::bs,x,t,k,h=>by
  obtain ⟨_,t1,k1,k2⟩:=bz h
  obtain ⟨t',q1,q2⟩:=yL l bs x.2 t1 k k1
  exact ⟨t',q1,fun ba h1 h2=>q2 ba h1.2 (FQ k2 h1.1 h2)⟩
 | _::_,[],_,_,_,h=>by cases h
theorem yJ:∀(l:List (Nat×Ty)) (j:Nat) (x:ki (l.map fun p=>(false,Ty.aO p.2))) (t:Tr gF) (k:Tr gF→Option β),Xp l j x t k=some r→∃t',k t'=some r∧∀ba:Nat→Option Ob→Prop,EB ba l j x→(∀i,ba i (fM t i))→∀i,ba i (fM t' i)
 | [],_,_,t,k,h=>⟨t,h,fun ba _ h2=>h2⟩
 | p::l,j,x,t,k,h=>by
  obtain ⟨_,t1,k1,k2⟩:=bz h
  obtain ⟨t',q1,q2⟩:=yJ l (j+1) x.2 t1 k k1
  exact ⟨t',q1,fun ba h1 h2=>q2 ba h1.2 (FQ k2 h1.1 h2)⟩
theorem tP:∀(ks:List (Bool×Ty)) (x:ki (JO ks)) (j:Nat) (t:Tr gF) (k:Tr gF→Option β),Va ks x j t k=some r→∃t',k t'=some r∧∀ba:Nat→Option Ob→Prop,Bk ba ks x j→(∀i,ba i (fM t i))→∀i,ba i (fM t' i)
 | [],_,_,t,k,h=>⟨t,h,fun ba _ h2=>h2⟩
 | (true,u)::l,x,j,t,k,h=>by
  obtain ⟨_,t1,k1,k2⟩:=bz h
  obtain ⟨t',q1,q2⟩:=tP l x.2 (j+1) t1 k k1
  exact ⟨t',q1,fun ba h1 h2=>q2 ba h1.2 (FQ k2 h1.1 h2)⟩
 | (false,_)::l,x,j,t,k,h=>tP l x.2 j t k h
theorem yK:∀(l:List ((Nat×Option Nat)×List (Bool×Ty))) (bs:List Nat) (j:Nat) (x:CB l) (t:Tr gF) (k:Tr gF→Option β),Xq l bs j x t k=some r→∃t',k t'=some r∧∀ba:Nat→Option Ob→Prop,EC ba l bs j x→(∀i,ba i (fM t i))→∀i,ba i (fM t' i)
 | [],_,_,_,t,k,h=>⟨t,h,fun ba _ h2=>h2⟩
 | p::l,b::bs,j,x,t,k,h=>by
  obtain ⟨_,t1,k1,k2⟩:=bz h
  obtain ⟨t2,k3,k4⟩:=tP p.2 x.1 j t1 _ k1
  obtain ⟨t',q1,q2⟩:=yK l bs _ x.2 t2 k k3
  exact ⟨t',q1,fun ba h1 h2=>q2 ba h1.2.2 (k4 ba h1.2.1 (FQ k2 h1.1 h2))⟩
 | _::_,[],_,_,_,_,h=>by cases h
structure oN (H:LH) (lv:List Nat) (E:Fq) (Fe:Tr A) (he:Go.Bm.H) (s:H.S) (Fc:Tr A) (hc:Go.Bm.H):Prop where
 F:∀ba:Nat→A→Prop,(∀i∈lv,ba i .cL)→(∀i,i∉lv→ba i (bl Fe.get i))→EA ba H.nk s.1→Ez ba H.grow he.aU→∀i,ba i (bl Fc.get i)
 t:∀ba:Nat→Option Ob→Prop,(∀i∈E.dg++(E.bs++E.cs),ba i none)→(∀i,i∉E.dg++(E.bs++E.cs)→ba i (fM he.t i))→ED ba H.boxes E.bs s.2.2.1→EC ba H.wu E.cs (he.aU+H.grow.length) s.2.2.2.1→EB ba H.grow he.aU s.2.1→∀i,ba i (fM hc.t i)
 aU:hc.aU=he.aU+H.m
 rg:hc.rg=kq H.iZ s.2.2.2.2 he.rg
theorem vG {H:LH} {lv:List Nat} {E:Fq} {Fe:Tr A} {he:Go.Bm.H} {s:H.S} {k:Tr A→Go.Bm.H→Option β} (h:AL H lv E.bs E.cs E.dg Fe he s k=some r):∃Fc hc,k Fc hc=some r∧oN H lv E Fe he s Fc hc:=by
 obtain ⟨F1,k1,f1⟩:=sD _ _ _ h
 obtain ⟨F2,k2,f2⟩:=yI _ _ _ _ k1
 obtain ⟨F3,k3,f3⟩:=yH _ _ _ _ k2
 obtain ⟨t1,k4,e1⟩:=sM _ _ _ k3
 obtain ⟨t2,k5,e2⟩:=yL _ _ _ _ _ k4
 obtain ⟨t3,k6,e3⟩:=yK _ _ _ _ _ _ k5
 obtain ⟨t4,k7,e4⟩:=yJ _ _ _ _ _ k6
 exact ⟨F3,_,k7,fun ba a b c d=>f3 ba d (f2 ba c (f1 ba a b)),fun ba a b c d e=>e4 ba e (e3 ba d (e2 ba c (e1 ba a b))),rfl,rfl⟩
end
end
section
open Go.RowKit
theorem any_beq {l:List Nat} {i:Nat}:l.any (Nat.beq i)=true↔i∈l:=by
 rw [List.any_eq_true]
 exact ⟨fun ⟨x,h1,h2⟩=>by rw [beq_eq h2];exact h1,fun h=>⟨i,h,Nat.beq_refl i⟩⟩
theorem wq {N:Nat} {bs dg:List Nat} {iZ:List (Nat×RK)} {T:Fp} (h:LG N bs dg iZ T.ws=true) {i:Nat} (hl:i<cM) (h1:i<N) (h2:i∉dg++bs):wt T i=false:=by
 cases hx:wt T i with
 | false=>rfl
 | true=>
  unfold wt at hx
  rw [zC] at hx
  obtain ⟨q,q1,q2⟩:=List.any_eq_true.1 hx.2
  obtain rfl:=beq_eq q2
  have:=List.all_eq_true.1 h _ q1
  rw [mK hl] at this
  unfold dy at this
  rw [show Nat.beq (2*i%2) 0=true by rw [show 2*i%2=0 by omega];rfl,show 2*i / 2=i by omega] at this
  simp only [cond_true,Bool.or_eq_true] at this
  rcases this with (this | this) | this
  ·have:=Nat.le_of_ble_eq_true this;omega
  ·exact absurd (zS _ (any_beq.1 this)) h2
  ·exact absurd (zQ _ (any_beq.1 this)) h2
theorem wo {N:Nat} {bs dg:List Nat} {iZ:List (Nat×RK)} {T:Fp} (h:LG N bs dg iZ T.ws=true) {i:Nat} (hl:¬i<cM) (h1:dn iZ (l6 i)=false):wt T i=false:=by
 cases hx:wt T i with
 | false=>rfl
 | true=>
  unfold wt at hx
  rw [zC] at hx
  obtain ⟨q,q1,q2⟩:=List.any_eq_true.1 hx.2
  obtain rfl:=beq_eq q2
  have:=List.all_eq_true.1 h _ q1
  rw [o5 hl] at this
  unfold im at this
  rw [show Nat.beq ((2*l6 i+1)%2) 0=false by rw [show (2*l6 i+1)%2=1 by omega];rfl] at this
  simp only [cond_false] at this
  obtain ⟨p,p1,p2⟩:=List.any_eq_true.1 this
  have e:p.1=l6 i:=by have:=beq_eq p2;unfold im at this;omega
  rw [show dn iZ (l6 i)=true from List.any_eq_true.2 ⟨p,p1,by rw [e];exact Nat.beq_refl _⟩] at h1
  cases h1
theorem Cw {n:Nat} {F:Tr A} {ba:Nat→A→Prop} (hg:∀i a t x,i<n→kX a t (bl F.get i)=some x→ba i (cb a t x)):∀(l:List (Nat×Bool×Ty)) (x:ki (l.map (·.2))),UL n l F=some x→EA ba l x
 | [],_,_=>trivial
 | p::l,x,h=>by
  unfold UL at h
  obtain ⟨hn,h⟩:=aj h
  split at h
  ·rename_i y z h1 h2
   cases h
   exact ⟨hg _ _ _ _ (bf hn) h1,Cw hg l z h2⟩
  ·cases h
def EH (t:Ty) (tt:Tr gF) (l:List t.T):Option Nat→Prop
 | some o=>o<cM∧fM tt o=some (.cells (l.flatMap (aE t)))
 | none=>l=[]
def wD (z:Nat) (a:A):Option Nat→Prop
 | some o=>a = .tw (.loc o) z
 | none=>∀g v,V g a v→∃ad,v = .slice ad 0 0
theorem ta {t:Ty} {tt:Tr gF} {a:A} {l:List t.T} {nm:Option Nat} (h:FG t tt a=some (l,nm)):EH t tt l nm∧wD t.size a nm:=by
 unfold FG at h
 split at h
 ·rename_i o z
  split at h
  ·rename_i t' l' h1
   obtain ⟨h2,h⟩:=aj h
   rw [zC] at h2
   split at h
   ·rename_i l1 Mm
    obtain ⟨e,e2⟩:=cz Mm
    cases e
    cases e2
    simp only [zI,zU] at h
    obtain ⟨rfl,rfl⟩:=h
    refine ⟨⟨bf h2.2,?_⟩,by rw [beq_eq h2.1];rfl⟩
    unfold fM
    rw [h1];rfl
   ·cases h
  ·cases h
 ·simp only [zI,zU] at h
  obtain ⟨rfl,rfl⟩:=h
  exact ⟨rfl,fun g v hv=>by cases hv;exact ⟨_,rfl⟩⟩
 ·simp only [zI,zU] at h
  obtain ⟨rfl,rfl⟩:=h
  exact ⟨rfl,fun g v hv=>by cases hv;exact ⟨_,rfl⟩⟩
 ·cases h
theorem Cy {n:Nat} {F:Tr A} {tt:Tr gF}:∀(l:List (Nat×Ty)) (x:ki (l.map fun p=>(false,Ty.aO p.2))) (names:List (Option Nat)),Jc n l F tt=some (x,names)→names.length=l.length ∧
  ∀(ba:Nat→A→Prop) (oA:Nat→Option Ob→Prop) (j:Nat),
   (∀(k:Nat) (nm:Option Nat) (i z:Nat),names[k]?=some nm→i<n→wD z (bl F.get i) nm→ba i (.tw (.loc (j+k)) z)) →
   (∀(k:Nat) (nm:Option Nat) (t:Ty) (l:List t.T),names[k]?=some nm→EH t tt l nm→oA (j+k) (some (.cells (l.flatMap (aE t)))))→Ez ba l j∧EB oA l j x
 | [],x,names,h=>by
  simp only [Jc,zI,zU] at h
  obtain ⟨_,rfl⟩:=h
  exact ⟨rfl,fun _ _ _ _ _=>⟨trivial,trivial⟩⟩
 | p::l,x,names,h=>by
  unfold Jc at h
  obtain ⟨hn,h⟩:=aj h
  split at h
  ·rename_i y z h1 h2
   simp only [zI,zU] at h
   obtain ⟨rfl,rfl⟩:=h
   obtain ⟨q1,q2⟩:=Cy l z.1 z.2 h2
   obtain ⟨r1,r2⟩:=ta (l:=y.1) (nm:=y.2) h1
   refine ⟨by simp [q1],fun ba oA j k1 k2=>?_⟩
   obtain ⟨u1,u2⟩:=q2 ba oA (j+1) (fun k nm i z e=>by have:=k1 (k+1) nm i z (by simpa using e);rwa [show j+(k+1)=j+1+k by omega] at this) (fun k nm t l e=>by have:=k2 (k+1) nm t l (by simpa using e);rwa [show j+(k+1)=j+1+k by omega] at this)
   exact ⟨⟨k1 0 y.2 p.1 p.2.size rfl (bf hn) r2,u1⟩,⟨k2 0 y.2 p.2 y.1 rfl r1,u2⟩⟩
  ·cases h
theorem Ci {n:Nat} {F:Tr A} {tt:Tr gF}:∀{l:List (Nat×Ty)} {x:ki (l.map fun p=>(false,Ty.aO p.2))} {names:List (Option Nat)},Jc n l F tt=some (x,names)→∀(k o:Nat),names[k]?=some (some o)→o<cM
 | [],x,names,h,k,o,e=>by
  simp only [Jc,zI,zU] at h
  obtain ⟨_,rfl⟩:=h
  simp at e
 | p::l,x,names,h,k,o,e=>by
  unfold Jc at h
  obtain ⟨hn,h⟩:=aj h
  split at h
  ·rename_i y z h1 h2
   simp only [zI,zU] at h
   obtain ⟨rfl,rfl⟩:=h
   cases k with
   | zero=>
    have e:y.2=some o:=by simpa using e
    have:=(ta (l:=y.1) (nm:=y.2) h1).1
    rw [e] at this
    exact this.1
   | succ k=>exact Ci (x:=z.1) (names:=z.2) h2 k o (by simpa using e)
  ·cases h
theorem CA {tt:Tr gF} {ba:Nat→Option Ob→Prop}:∀(l:List ((Nat×Option Nat)×Ty)) (bs:List Nat) (x:ki (l.map fun p=>(false,p.2))),(∀b t (y:t.T),b∈bs→fM tt b=some (.cells (aE t y))→ba b (some (.cells (aE t y))))→UM l bs tt=some x→ED ba l bs x
 | [],_,_,_,_=>trivial
 | p::l,b::bs,x,hg,h=>by
  unfold UM at h
  split at h
  ·rename_i t' y h1
   split at h
   ·rename_i y' z h2 h3
    cases h
    obtain ⟨e,e2⟩:=cz h2
    obtain ⟨p1,p2⟩:=p
    simp only at e
    subst e
    cases e2
    exact ⟨hg b t' y (.head _) (by unfold fM;rw [h1];rfl),CA l bs z (fun b t y hb=>hg b t y (.tail _ hb)) h3⟩
   ·cases h
  ·cases h
 | _::_,[],_,_,h=>by cases h
theorem Vs.BT {g:G} {c:A} {cs:List A} {vs:List Value} (h:Vs g (c::cs) vs):∃v us,vs=v::us∧V g c v∧v.oneCell'=true∧Vs g cs us:=by
 match vs,h with
 | [],h=>exact absurd h.1 (by simp)
 | v::us,h=>
  have h0:=h.2 0 c v rfl rfl
  exact ⟨v,us,rfl,h0.1,h0.2,by simpa using h.1,fun j c x e1 e2=>h.2 (j+1) c x (by simpa using e1) (by simpa using e2)⟩
theorem w8 {tt:Tr gF}:∀(ks:List (Bool×Ty)) (cs:List A) (x:ki (JO ks)) (names:List (Option Nat)),Ki ks cs tt=some (x,names)→names.length=nz ks∧(∀(k o:Nat),names[k]?=some (some o)→o<cM)∧∀j,(LI ks x j).length=cs.length ∧
  (∀(oA:Nat→Option Ob→Prop),(∀(k:Nat) (nm:Option Nat) (t:Ty) (l:List t.T),names[k]?=some nm→EH t tt l nm→oA (j+k) (some (.cells (l.flatMap (aE t)))))→Bk oA ks x j) ∧
  ∀(N:Nat) (g g':G),xX N g g'→(∀(k:Nat) (nm:Option Nat) (z:Nat) (c:A),names[k]?=some nm→wD z c nm→∀v,V g c v→V g' (.tw (.loc (j+k)) z) v)→∀vs,Vs g cs vs→Vs g' (LI ks x j) vs
 | [],[],x,names,h=>by
  simp only [Ki,zI,zU] at h
  obtain ⟨_,rfl⟩:=h
  exact ⟨rfl,fun k o e=>by simp at e,fun j=>⟨rfl,fun _ _=>trivial,fun N g g' _ _ vs hv=>⟨hv.1,fun j c x e=>by simp [LI] at e⟩⟩⟩
 | (true,u)::l,c::cs,x,names,h=>by
  unfold Ki at h
  split at h
  ·rename_i y z h1 h2
   simp only [zI,zU] at h
   obtain ⟨rfl,rfl⟩:=h
   obtain ⟨q1,Qn,q2⟩:=w8 l cs z.1 z.2 h2
   obtain ⟨r1,r2⟩:=ta (l:=y.1) (nm:=y.2) h1
   refine ⟨by simp [q1,nz],fun k o e=>?_,fun j=>?_⟩
   ·cases k with
    | zero=>
     have e:y.2=some o:=by simpa using e
     rw [e] at r1
     exact r1.1
    | succ k=>exact Qn k o (by simpa using e)
   ·obtain ⟨u1,u2,u3⟩:=q2 (j+1)
    refine ⟨congrArg Nat.succ u1,fun oA k2=>⟨k2 0 y.2 u y.1 rfl r1,u2 oA (fun k nm t l e=>by have:=k2 (k+1) nm t l (by simpa using e);rwa [show j+(k+1)=j+1+k by omega] at this)⟩,fun N g g' hs hk vs hv=>?_⟩
    obtain ⟨v,us,rfl,v1,v2,v3⟩:=hv.BT
    exact .cons (hk 0 y.2 u.size c rfl r2 v v1) v2 (u3 N g g' hs (fun k nm z c e=>by have:=hk (k+1) nm z c (by simpa using e);rwa [show j+(k+1)=j+1+k by omega] at this) us v3)
  ·cases h
 | (false,u)::l,c::cs,x,names,h=>by
  unfold Ki at h
  split at h
  ·rename_i y z h1 h2
   simp only [zI,zU] at h
   obtain ⟨rfl,rfl⟩:=h
   obtain ⟨q1,Qn,q2⟩:=w8 l cs z.1 z.2 h2
   refine ⟨by simp [q1,nz],Qn,fun j=>?_⟩
   obtain ⟨u1,u2,u3⟩:=q2 j
   refine ⟨congrArg Nat.succ u1,u2,fun N g g' hs hk vs hv=>?_⟩
   obtain ⟨v,us,rfl,v1,v2,v3⟩:=hv.BT
   exact .cons (oc false u y g g' v hs (j6 h1 v1)) v2 (u3 N g g' hs hk us v3)
  ·cases h
 | [],_::_,_,_,h=>by cases h
 | (true,_)::_,[],_,_,h=>by cases h
 | (false,_)::_,[],_,_,h=>by cases h
theorem yl {tt:Tr gF}:∀(l:List ((Nat×Option Nat)×List (Bool×Ty))) (bs:List Nat) (x:CB l) (names:List (Option Nat)),Cz l bs tt=some (x,names)→names.length=pH l∧(∀(k o:Nat),names[k]?=some (some o)→o<cM) ∧
  ∀(N:Nat) (g g':G) (j:Nat) (ba:Nat→Option Ob→Prop),xX N g g' →
   (∀(k:Nat) (nm:Option Nat) (z:Nat) (c:A),names[k]?=some nm→wD z c nm→∀v,V g c v→V g' (.tw (.loc (j+k)) z) v) →
   (∀(k:Nat) (nm:Option Nat) (t:Ty) (l:List t.T),names[k]?=some nm→EH t tt l nm→ba (j+k) (some (.cells (l.flatMap (aE t))))) →
   (∀b cs ig,b∈bs→fM tt b=some (.cells cs)→ig.length=cs.length→(∀vs,Vs g cs vs→Vs g' ig vs)→ba b (some (.cells ig)))→EC ba l bs j x
 | [],_,x,names,h=>by
  simp only [Cz,zI,zU] at h
  obtain ⟨_,rfl⟩:=h
  exact ⟨rfl,fun k o e=>by simp at e,fun _ _ _ _ _ _ _ _ _=>trivial⟩
 | p::l,b::bs,x,names,h=>by
  unfold Cz at h
  split at h
  ·rename_i cs JB
   split at h
   ·rename_i y z h1 h2
    simp only [zI,zU] at h
    obtain ⟨rfl,rfl⟩:=h
    obtain ⟨q1,Qn,q2⟩:=w8 p.2 cs y.1 y.2 h1
    obtain ⟨r1,r1',r2⟩:=yl l bs z.1 z.2 h2
    have ap:∀(k:Nat) (nm:Option Nat),y.2[k]?=some nm→(y.2++z.2)[k]?=some nm:=fun k nm e=>by rw [zK (zB.1 e).1];exact e
    have aq:∀(k:Nat) (nm:Option Nat),z.2[k]?=some nm→(y.2++z.2)[nz p.2+k]?=some nm:=fun k nm e=>by rw [zJ (by omega),q1,Nat.add_sub_cancel_left];exact e
    refine ⟨by simp [q1,r1,pH],fun k o e=>?_,fun N g g' j ba hs hk hr hb=>?_⟩
    ·by_cases hk:k<y.2.length
     ·rw [zK hk] at e;exact Qn k o e
     ·rw [zJ (by omega)] at e;exact r1' _ o e
    ·obtain ⟨u1,u2,u3⟩:=q2 j
     refine ⟨hb b cs _ (.head _) (by unfold fM;rw [JB];rfl) u1 (u3 N g g' hs (fun k nm zz c e=>hk k nm zz c (ap k nm e))),u2 ba (fun k nm t l e=>hr k nm t l (ap k nm e)),?_⟩
     exact r2 N g g' (j+nz p.2) ba hs (fun k nm zz c e=>by have:=hk (nz p.2+k) nm zz c (aq k nm e);rwa [←Nat.add_assoc] at this) (fun k nm t l e=>by have:=hr (nz p.2+k) nm t l (aq k nm e);rwa [←Nat.add_assoc] at this) (fun b cs ig hm=>hb b cs ig (.tail _ hm))
   ·cases h
  ·cases h
 | _::_,[],_,_,h=>by cases h
theorem tC {N:Nat} {dg:List Nat}:∀{names:List (Option Nat)},Az N dg names=true→(∀(k o:Nat),names[k]?=some (some o)→N≤o∨o∈dg)∧∀(k k' o:Nat),names[k]?=some (some o)→names[k']?=some (some o)→k=k'
 | [],_=>⟨fun k o h=>by simp at h,fun k k' o h=>by simp at h⟩
 | none::l,h=>by
  obtain ⟨h1,h2⟩:=tC (show Az N dg l=true from h)
  refine ⟨fun k o e=>?_,fun k k' o e e'=>?_⟩
  ·cases k with
   | zero=>cases e
   | succ k=>exact h1 k o (by simpa using e)
  ·cases k with
   | zero=>cases e
   | succ k=>
    cases k' with
    | zero=>cases e'
    | succ k'=>rw [h2 k k' o (by simpa using e) (by simpa using e')]
 | some q::l,h=>by
  have h:((Nat.ble N q || dg.any (Nat.beq q)) && !(l.any (CU q)) && Az N dg l)=true:=h
  simp only [zC,Bool.or_eq_true,Bool.not_eq_true'] at h
  obtain ⟨⟨ha,hb⟩,hc⟩:=h
  obtain ⟨h1,h2⟩:=tC hc
  have far:∀k,l[k]?=some (some q)→False:=fun k e=>by
   have:l.any (CU q)=true:=List.any_eq_true.2 ⟨some q,zG e,Nat.beq_refl q⟩
   rw [hb] at this;cases this
  refine ⟨fun k o e=>?_,fun k k' o e e'=>?_⟩
  ·cases k with
   | zero=>
    simp only [List.getElem?_cons_zero,zI] at e
    subst e
    exact ha.imp Nat.le_of_ble_eq_true any_beq.1
   | succ k=>exact h1 k o (by simpa using e)
  ·cases k with
   | zero=>
    simp only [List.getElem?_cons_zero,zI] at e
    subst e
    cases k' with
    | zero=>rfl
    | succ k'=>exact (far k' (by simpa using e')).elim
   | succ k=>
    cases k' with
    | zero=>
     simp only [List.getElem?_cons_zero,zI] at e'
     subst e'
     exact (far k (by simpa using e)).elim
    | succ k'=>rw [h2 k k' o (by simpa using e) (by simpa using e')]
structure rz (H:LH) (E:Fq) (ds:List Nat) (F:Tr A) (h:Go.Bm.H):Prop where
 slot:∀i,VP h.aU (bl F.get i)
 mem:∀i x,fM h.t i=some x→E4 h.aU x
 top:h.aU+H.m≤cM
 bsl:∀b∈E.bs++E.cs,b<h.aU
 del:∀b∈E.dg,b<h.aU
 dsl:∀b∈ds,b<h.aU
 apart:∀b∈E.bs++E.cs,b∉E.dg
 loop:∀q∈E.qs,Cn h.t q=true∧q∉E.dg++(E.bs++E.cs)
 iZ:∀r,dn H.iZ r=true→∃x,bA h.rg r=some x
theorem wc {H:LH} {E:Fq} {ds:List Nat} {F:Tr A} {h:Go.Bm.H} (k:yZ H E ds F h=true):rz H E ds F h:=by
 unfold yZ at k
 rw [zC,zC,zC,zC,zC,zC,zC,zC] at k
 obtain ⟨⟨⟨⟨⟨⟨⟨⟨k1,k2⟩,k3⟩,k4⟩,k5⟩,k6⟩,k7⟩,k9⟩,k8⟩:=k
 rw [List.all_eq_true] at k4 k5 k6 k7 k8 k9
 refine ⟨B3 k1,fun i x e=>?_,Nat.le_of_ble_eq_true k3,fun b hb=>bf (k4 b hb),fun b hb=>bf (k5 b hb),fun b hb=>bf (k6 b hb),fun b hb hd=>?_,fun q hq=>?_,fun r hr=>?_⟩
 ·unfold fM at e
  split at e
  ·rename_i m hm
   cases e
   exact Gh (mI k2 i m hm)
  ·cases e
 ·have:=k7 b hb
  rw [any_beq.2 hd] at this;cases this
 ·have:=k9 q hq
  rw [zC] at this
  refine ⟨this.1,fun hm=>?_⟩
  have h2:=this.2
  rw [any_beq.2 hm] at h2;cases h2
 ·obtain ⟨p,p1,p2⟩:=List.any_eq_true.1 hr
  have:=k8 p p1
  rw [beq_eq p2] at this
  exact Option.isSome_iff_exists.1 this
theorem yj {t:Tr gF} {q:Nat} (h:Cn t q=true):fM t q=some (.cT (.loop .ready none)):=by
 unfold Cn at h
 split at h
 ·rename_i hq;unfold fM;rw [hq];rfl
 ·cases h
section
variable {H:LH} {lv Ms:List Nat} {E:Fq} {Fe:Tr A} {he:Go.Bm.H} {s:H.S} {Fc:Tr A} {hc:Go.Bm.H}
theorem uw {ba:Nat→Option Ob→Prop}:∀(l:List ((Nat×Option Nat)×Ty)) (bs:List Nat) (x:ki (l.map fun p=>(false,p.2))),(∀b∈bs,∀ob,ba b ob)→ED ba l bs x
 | [],_,_,_=>trivial
 | _::_,[],_,_=>trivial
 | p::l,b::bs,x,h=>⟨h b (.head _) _,uw l bs x.2 (fun b hb=>h b (.tail _ hb))⟩
theorem uu {ba:Nat→Option Ob→Prop} {m:Nat}:∀(l:List (Nat×Ty)) (j:Nat) (x:ki (l.map fun p=>(false,Ty.aO p.2))),j+l.length≤m→(∀i,j≤i→i<m→∀ob,ba i ob)→EB ba l j x
 | [],_,_,_,_=>trivial
 | p::l,j,x,hm,h=>by
  have hm:j+(l.length+1)≤m:=hm
  exact ⟨h j (Nat.le_refl _) (by omega) _,uu l (j+1) x.2 (by omega) (fun i h1 h2=>h i (by omega) h2)⟩
theorem ur {ba:Nat→Option Ob→Prop} {m:Nat}:∀(ks:List (Bool×Ty)) (x:ki (JO ks)) (j:Nat),j+nz ks≤m→(∀i,j≤i→i<m→∀ob,ba i ob)→Bk ba ks x j
 | [],_,_,_,_=>trivial
 | (true,_)::l,x,j,hm,h=>by
  have hm:j+(nz l+1)≤m:=hm
  exact ⟨h j (Nat.le_refl _) (by omega) _,ur l x.2 (j+1) (by omega) (fun i h1 h2=>h i (by omega) h2)⟩
 | (false,_)::l,x,j,hm,h=>ur l x.2 j hm h
theorem uv {ba:Nat→Option Ob→Prop} {m:Nat}:∀(l:List ((Nat×Option Nat)×List (Bool×Ty))) (bs:List Nat) (j:Nat) (x:CB l),j+pH l≤m→(∀b∈bs,∀ob,ba b ob)→(∀i,j≤i→i<m→∀ob,ba i ob)→EC ba l bs j x
 | [],_,_,_,_,_,_=>trivial
 | _::_,[],_,_,_,_,_=>trivial
 | p::l,b::bs,j,x,hm,hb,h=>by
  have hm:j+(nz p.2+pH l)≤m:=hm
  exact ⟨hb b (.head _) _,ur p.2 x.1 j (by omega) h,uv l bs _ x.2 (by omega) (fun b DJ=>hb b (.tail _ DJ)) (fun i h1 h2=>h i (by omega) h2)⟩
theorem qP (EO:rz H E Ms Fe he) (J:oN H lv E Fe he s Fc hc):(∀i,i<he.aU→i∉E.dg++(E.bs++E.cs)→(hp hc).ob i=(hp he).ob i) ∧
  (∀i,¬i<cM→dn H.iZ (l6 i)=false→(hp hc).ob i=(hp he).ob i∧((hp hc).fr i↔(hp he).fr i)) ∧
  ∀i,wt (jT H he.aU E) i=false→(hp hc).ob i=(hp he).ob i∧((hp hc).fr i↔(hp he).fr i):=by
 have Uz:=EO.top
 have hm:H.m=H.grow.length+pH H.wu:=rfl
 have Jz:∀i,i∉E.dg++(E.bs++E.cs)→(∀k,k<H.m→i≠he.aU+k)→fM hc.t i=fM he.t i:=fun i h1 h2=>by
  have Ur:∀b∈E.bs++E.cs,∀ob,b∉E.dg++(E.bs++E.cs)→(∀k,k<H.m→b≠he.aU+k)→ob=fM he.t b:=fun b hb ob hn=>absurd (zS _ hb) hn
  have Ch:∀i,he.aU≤i→i<he.aU+H.m→∀ob,i∉E.dg++(E.bs++E.cs)→(∀k,k<H.m→i≠he.aU+k)→ob=fM he.t i:=fun i q1 q2 ob _ hn=>absurd (show i=he.aU+(i-he.aU) by omega) (hn (i-he.aU) (by omega))
  exact J.t (fun i ob=>i∉E.dg++(E.bs++E.cs)→(∀k,k<H.m→i≠he.aU+k)→ob=fM he.t i) (fun i hi hn=>absurd hi hn) (fun i _ _ _=>rfl)
   (uw _ _ _ (fun b hb=>Ur b (zQ _ hb))) (uv (m:=he.aU+H.m) _ _ _ _ (by omega) (fun b hb=>Ur b (zS _ hb)) (fun i q1 q2=>Ch i (by omega) q2)) (uu (m:=he.aU+H.m) _ _ _ (by omega) Ch) i h1 h2
 have eK:∀i,¬i<cM→dn H.iZ (l6 i)=false→(hp hc).ob i=(hp he).ob i∧((hp hc).fr i↔(hp he).fr i):=fun i hl hk=>by
  rw [(fp hl).1,(fp hl).2,(fp hl).1,(fp hl).2]
  unfold dU f_
  rw [J.rg,lC _ _ _ EO.iZ,hk,if_neg (by simp)]
  exact ⟨rfl,Iff.rfl⟩
 refine ⟨fun i h1 h2=>?_,eK,fun i hw=>?_⟩
 ·have hl:i<cM:=by omega
  show (if i<cM then fM hc.t i else _)=(if i<cM then fM he.t i else _)
  rw [if_pos hl,if_pos hl]
  exact Jz i h2 (fun k _=>by omega)
 ·have hw:(((E.bs++E.cs).map dy++E.dg.map dy)++((List.range H.m).map (fun k=>dy (he.aU+k))++H.iZ.map fun p=>im p.1)).any (Nat.beq (res i))=false:=hw
  rw [List.any_append,List.any_append,List.any_append] at hw
  simp only [Bool.or_eq_false_iff] at hw
  obtain ⟨⟨w1,w2⟩,w3,w4⟩:=hw
  by_cases hl:i<cM
  ·have nin:∀l:List Nat,(l.map dy).any (Nat.beq (res i))=false→i∉l:=fun l h hm=>by
    rw [any_beq.2 (by rw [mK hl];exact List.mem_map.2 ⟨i,hm,rfl⟩)] at h;cases h
   have n3:∀k,k<H.m→i≠he.aU+k:=fun k hk e=>by
    rw [any_beq.2 (by rw [mK hl,e];exact List.mem_map.2 ⟨k,List.mem_range.2 hk,rfl⟩)] at w3;cases w3
   refine ⟨?_,?_⟩
   ·show (if i<cM then fM hc.t i else _)=(if i<cM then fM he.t i else _)
    rw [if_pos hl,if_pos hl]
    exact Jz i (fun h=>(zX.1 h).elim (nin _ w2) (nin _ w1)) n3
   ·show (if i<cM then hc.aU≤i else _)↔(if i<cM then he.aU≤i else _)
    rw [if_pos hl,if_pos hl,J.aU]
    refine ⟨fun h=>by omega,fun h=>?_⟩
    rcases Nat.lt_or_ge i (he.aU+H.m) with h1 | h1
    ·exact absurd (show i=he.aU+(i-he.aU) by omega) (n3 (i-he.aU) (by omega))
    ·exact h1
  ·refine eK i hl ?_
   rw [o5 hl,uq] at w4
   exact w4
theorem Jb {n:Nat} {F':Tr A} {h':Go.Bm.H} {jg:List Nat} {T:Fp} (EO:rz H E Ms Fe he) (oy:∀i,he.aU≤i→i<cM→fM he.t i=none) (RF:∀i,i∉lv→bl F'.get i=bl Fe.get i)
  (Rw:∀i,i<he.aU→i∉E.dg++(E.bs++E.cs++E.qs)→(hp h').ob i=(hp he).ob i) (XH:∀i,¬i<cM→dn H.iZ (l6 i)=false→(hp h').ob i=(hp he).ob i∧((hp h').fr i↔(hp he).fr i))
  (GO:Bu H n he.aU E.bs E.cs E.qs E.dg Ms F' h' jg T=some s) (J:oN H lv E Fe he s Fc hc) {S0:Hp} {g0:G} {w0 w:World} {a:Act} (hf:∀o,he.aU≤o→o<cM→S0.fr o∧g0.bu o=none)
  (hR:R S0 g0 w0 (fN n F' jg (hp h')) a w):R S0 g0 w0 (fN n Fc Ms (hp hc)) a w:=by
 have Uz:=EO.top
 have hm:H.m=H.grow.length+pH H.wu:=rfl
 unfold Bu at GO
 obtain ⟨BG,GN⟩:=aj GO
 clear GO
 rw [zC,zC] at BG
 obtain ⟨⟨_,Vp⟩,hqs⟩:=BG
 rw [List.all_eq_true] at hqs
 obtain rfl:=D5 Vp
 split at GN
 ·rename_i v gg b ee c hv hg hb hee Fh
  obtain ⟨Mk,XM⟩:=aj GN
  clear GN
  cases XM
  obtain ⟨gr,nG⟩:=gg
  obtain ⟨er,nC⟩:=ee
  obtain ⟨n1,n2⟩:=tC Mk
  obtain ⟨p1,p2⟩:=Cy _ _ _ hg
  obtain ⟨c1,c2,c3⟩:=yl _ _ _ _ hee
  obtain ⟨g,hI,hE,hD,hs,hV⟩:=hR
  have hV:∀i,i<n→V g (bl F'.get i) (a.tmps.getD i undef):=hV
  have KS:(nG++nC).length=H.m:=by rw [zY,p1,c1];exact hm.symm
  have Jj:∀(k o:Nat),(nG++nC)[k]?=some (some o)→o<cM:=fun k o e=>by
   by_cases hk:k<nG.length
   ·rw [zK hk] at e;exact Ci hg k o e
   ·rw [zJ (by omega)] at e;exact c2 _ o e
  have Yq:∀(k:Nat) (nm:Option Nat),nG[k]?=some nm→(nG++nC)[k]?=some nm:=fun k nm e=>by rw [zK (zB.1 e).1];exact e
  have cap:∀(k:Nat) (nm:Option Nat),nC[k]?=some nm→(nG++nC)[H.grow.length+k]?=some nm:=fun k nm e=>by rw [zJ (by omega),p1,Nat.add_sub_cancel_left];exact e
  have RB:∀(k o:Nat),(nG++nC)[k]?=some (some o)→he.aU≤o∨o∈E.dg:=n1
  have RA:∀(k k' o:Nat),(nG++nC)[k]?=some (some o)→(nG++nC)[k']?=some (some o)→k=k':=n2
  generalize tT:nG++nC=names at KS Jj Yq cap RB RA
  have XU:he.aU+names.length≤cM:=by rw [KS];exact Uz
  have kI:=DO he.aU names g
  have Qi:∀(k:Nat) (nm:Option Nat) (z:Nat) (cc:A),names[k]?=some nm→wD z cc nm→∀v,V g cc v→V (gj he.aU names g) (.tw (.loc (he.aU+k)) z) v:=fun k nm z cc e E9 v XA=>by
   cases nm with
   | some o=>
    have E9:cc = .tw (.loc o) z:=E9
    rw [E9] at XA
    have bO:(gj he.aU names g).bu (he.aU+k)=g.bu o:=vQ e XU
    cases XA with
    | sd _ _ ad h1=>exact .sd (.loc (he.aU+k)) z ad (bO.trans h1)
    | tw _ _ m b cap t h1 hn hx hp d hd=>exact .tw (.loc (he.aU+k)) z m b cap t (bO.trans h1) hn hx hp d hd
   | none=>
    obtain ⟨ad,h1⟩:=E9 g _ XA
    rw [h1]
    exact .sd (.loc (he.aU+k)) z ad (vQ e XU)
  have Qj:∀(k:Nat) (nm:Option Nat) (t:Ty) (l:List t.T),names[k]?=some nm→EH t h'.t l nm→∀x,some (Ob.cells (l.flatMap (aE t)))=some x→(he.aU+k<he.aU→(((hp h').ob (he.aU+k)=some x∧E4 he.aU x)∨∃cs ig,(hp h').ob (he.aU+k)=some (.cells cs)∧x = .cells ig∧ig.length=cs.length∧∀vs,Vs g cs vs→Vs (gj he.aU names g) ig vs)) ∧
    (he.aU≤he.aU+k→he.aU+k<cM→∃k' nm,he.aU+k=he.aU+k'∧names[k']?=some nm∧(∀o,nm=some o→(hp h').ob o=some x∧E4 he.aU x)∧(nm=none→x = .cells [])):=fun k nm t l e Dr x hx=>by
   cases hx
   refine ⟨fun eY=>by omega,fun _ eY=>⟨k,nm,rfl,e,fun o ho=>?_,fun ho=>?_⟩⟩
   ·subst ho
    have Dr:o<cM∧fM h'.t o=some (.cells (l.flatMap (aE t))):=Dr
    refine ⟨?_,fun c hc=>by obtain ⟨y,_,hy⟩:=List.mem_flatMap.1 hc;exact iX t y c hy⟩
    show (if o<cM then _ else _)=_
    rw [if_pos Dr.1];exact Dr.2
   ·subst ho
    have Dr:l=[]:=Dr
    subst Dr;rfl
  have fc:∀i,i<cM→(hp h').ob i=fM h'.t i:=fun i hi=>if_pos hi
  have jY:=p2 (fun i c=>i<n→V (gj he.aU names g) c (a.tmps.getD i undef)) (fun i ob=>∀x,ob=some x→(i<he.aU→(((hp h').ob i=some x∧E4 he.aU x)∨∃cs ig,(hp h').ob i=some (.cells cs)∧x = .cells ig∧ig.length=cs.length∧∀vs,Vs g cs vs→Vs (gj he.aU names g) ig vs))∧(he.aU≤i→i<cM→∃k nm,i=he.aU+k∧names[k]?=some nm∧(∀o,nm=some o→(hp h').ob o=some x∧E4 he.aU x)∧(nm=none→x = .cells []))) he.aU
   (fun k nm i z e hi E9 _=>Qi k nm z _ (Yq k nm e) E9 _ (hV i hi)) (fun k nm t l e Dr=>Qj k nm t l (Yq k nm e) Dr)
  have hF:=J.F (fun i c=>i<n→V (gj he.aU names g) c (a.tmps.getD i undef)) (fun i _ _=>.cL _)
   (fun i hi hn=>by
    have:=hV i hn
    rw [RF i hi] at this
    exact EO.slot i g _ _ kI this)
   (Cw (fun i ag t x hi hx _=>oc ag t x g _ _ kI (j6 hx (hV i hi))) _ _ hv) jY.1
  have hT:=J.t _ (fun i _ x hx=>by cases hx)
   (fun i hi x hx=>by
    refine ⟨fun eY=>.inl ?_,fun h1 h2=>by rw [oy i h1 h2] at hx;cases hx⟩
    have he1:(hp h').ob i=fM he.t i:=by
     by_cases hq:i∈E.qs
     ·rw [fc i (by omega),yj (hqs i hq),yj (EO.loop i hq).1]
     ·rw [Rw i eY (fun h=>by
       rcases zX.1 h with h | h
       ·exact hi (zQ _ h)
       ·rcases zX.1 h with h | h
        ·exact hi (zS _ h)
        ·exact hq h)]
      exact if_pos (by omega)
    exact ⟨he1.trans hx,EO.mem i x hx⟩)
   (CA (tt:=h'.t) _ _ _ (fun b t y Yh Yg x hx=>by
    cases hx
    have eY:=EO.bsl b (zQ _ Yh)
    exact ⟨fun _=>.inl ⟨by rw [fc b (by omega)];exact Yg,iX t y⟩,fun h=>by omega⟩) hb)
   (c3 he.aU g (gj he.aU names g) (he.aU+H.grow.length) _ kI (fun k nm z cc e E9 v hv=>by have:=Qi (H.grow.length+k) nm z cc (cap k nm e) E9 v hv;rwa [←Nat.add_assoc] at this) (fun k nm t l e Dr=>by have:=Qj (H.grow.length+k) nm t l (cap k nm e) Dr;rwa [←Nat.add_assoc] at this)
    (fun b cs ig Yh Yg hl hcv x hx=>by
     cases hx
     have eY:=EO.bsl b (zS _ Yh)
     exact ⟨fun _=>.inr ⟨cs,ig,by rw [fc b (by omega)];exact Yg,rfl,hl,hcv⟩,fun h=>by omega⟩)) jY.2
  have hDl:∀i,i∈E.dg→fM hc.t i=none:=fun i hi=>by
   have Ch:∀i,he.aU≤i→i<he.aU+H.m→∀ob:Option Ob,i∈E.dg→ob=none:=fun i q1 _ ob hn=>by have:=EO.del _ hn;omega
   have Ur:∀b∈E.bs++E.cs,∀ob:Option Ob,b∈E.dg→ob=none:=fun b hb ob hn=>absurd hn (EO.apart b hb)
   exact J.t (fun i ob=>i∈E.dg→ob=none) (fun _ _ _=>rfl) (fun i hn hd=>absurd (zQ _ hd) hn) (uw _ _ _ (fun b hb=>Ur b (zQ _ hb))) (uv (m:=he.aU+H.m) _ _ _ _ (by omega) (fun b hb=>Ur b (zS _ hb)) (fun i q1 q2=>Ch i (by omega) q2)) (uu (m:=he.aU+H.m) _ _ _ (by omega) Ch) i hi
  have RM:=la _ _ _ Fh
  have hRg:∀i,¬i<cM→(hp hc).ob i=(hp h').ob i∧((hp hc).fr i↔(hp h').fr i):=fun i hl=>by
   cases hk:dn H.iZ (l6 i) with
   | true=>
    obtain ⟨q1,_⟩:=RM _ hk
    rw [(fp hl).1,(fp hl).2,(fp hl).1,(fp hl).2]
    unfold dU f_
    rw [J.rg,lC _ _ _ EO.iZ,hk,if_pos rfl,q1]
    exact ⟨rfl,Iff.rfl⟩
   | false=>
    have e1:=(qP EO J).2.1 i hl hk
    have e2:=XH i hl hk
    exact ⟨e1.1.trans e2.1.symm,e1.2.trans e2.2.symm⟩
  have K0:∀i,i<cM→(hp hc).ob i=fM hc.t i:=fun i hi=>if_pos hi
  have yN:∀{i},¬stay he.aU i→he.aU≤i∧i<cM:=fun {i} h=>by unfold stay at h;omega
  have hrj:=Kb (S':=hp hc) XU (fun i x hi e=>?_) (fun i x hi e=>?_) RA (fun k o e hi=>?_) (fun i e=>⟨fun hi=>?_,fun hi=>?_⟩) hf hI hE
  ·refine ⟨_,hrj.1,hrj.2,⟨hD.1,fun i d e e1 e2=>?_⟩,hs,fun i hi=>hF i hi⟩
   have Ya:=EO.dsl d (zG e1)
   refine ⟨fun hd=>?_,fun hd=>absurd hd (by have:cM=16777216:=rfl;omega)⟩
   obtain ⟨b',s',q1,q2⟩:=(hD.2 i d e e1 e2).1 hd
   exact ⟨b',s',(kI.bu d (.inl Ya)).trans q1,q2⟩
  ·rcases hi with hi | hi
   ·rw [K0 i (by omega)] at e
    exact (hT i x e).1 hi
   ·refine .inl ⟨(hRg i hi).1.symm.trans e,?_⟩
    rw [(fp hi).1] at e
    unfold dU at e
    split at e
    ·exact Cm e
    ·cases e
  ·obtain ⟨h1,h2⟩:=yN hi
   rw [K0 i h2] at e
   exact (hT i x e).2 h1 h2
  ·have hol:=Jj k o e
   rcases RB k o e with h1 | h1
   ·rcases hi with hi | hi
    ·omega
    ·exact absurd hol hi
   ·rw [K0 o hol];exact hDl o h1
  ·obtain ⟨h1,h2⟩:=yN hi
   have e:(if i<cM then hc.aU≤i else _):=e
   rw [if_pos h2,J.aU] at e
   rw [KS];exact e
  ·rcases hi with hi | hi
   ·have e:(if i<cM then hc.aU≤i else _):=e
    rw [if_pos (show i<cM by omega),J.aU] at e
    omega
   ·exact (hRg i hi).2.1 e
 ·cases GN
end
end
section
open Go.RowKit
theorem Inv.B9 {g:G} {S:Hp} {w:World} (h:Inv g S w) {q b:Nat} {s:Nat×Nat} {st zt:LoopState} {pe Kj:Option Code} {rr:Loop} (ho:S.ob q=some (.cT (.loop st pe))) (hg:g.bu q=some (some b,s)) (hr:w.heap[b]?=some (.loop rr)) :
  Inv g (S.set q (.cT (.loop zt Kj))) (w.putObj b (.loop { rr with state:=zt,pending:=Kj }))∧Ext S g w (S.set q (.cT (.loop zt Kj))) g (w.putObj b (.loop { rr with state:=zt,pending:=Kj })):=by
 have hb:b<w.heap.size:=(Array.getElem?_eq_some_iff.1 hr).1
 refine h.BO ho hg (by simp) (fun k hk=>World.putObj_heap_other hk) rfl rfl rfl ⟨_,World.putObj_heap_same hb,_,rfl,rfl,rfl⟩ (fun l e=>⟨_,World.putObj_heap_same hb,?_⟩)
 obtain ⟨r,k1,k2⟩:=h.lp b l e
 rw [hr] at k1
 cases k1
 exact k2
theorem Inv.Q9 {g:G} {S:Hp} {w:World} (h:Inv g S w) {q:Nat} (hf:S.fr q) (rr:Loop) :
  ∃g',Inv g' (S.new q (.cT (.loop rr.state rr.pending))) (w.alloc (.loop rr))∧Ext S g w (S.new q (.cT (.loop rr.state rr.pending))) g' (w.alloc (.loop rr))∧g'.bu q=some (some w.heap.size,(0,0))∧g'.lp w.heap.size=some (tH rr):=by
 obtain ⟨i1,x1⟩:=h.alloc (s:=(0,0)) hf (x:=.cT (.loop rr.state rr.pending)) (ob:=.loop rr) ⟨_,heap_alloc_new w _,rr,rfl,rfl,rfl⟩
 have Jv:(jI g q (some w.heap.size,(0,0))).lp w.heap.size=none:=by
  cases hl:(jI g q (some w.heap.size,(0,0))).lp w.heap.size with
  | none=>rfl
  | some l=>
   obtain ⟨r,k1,_⟩:=h.lp _ l hl
   have:=(Array.getElem?_eq_some_iff.1 k1).1
   omega
 have bO:=ct (g:=g) (o:=q) (p:=(some w.heap.size,(0,0)))
 generalize jI g q (some w.heap.size,(0,0))=g1 at i1 x1 Jv bO
 have hle:Le g1 ⟨g1.bu,g1.mem,fun k=>if k=w.heap.size then some (tH rr) else g1.lp k⟩:=⟨fun _ _ e=>e,fun _ _ _ e=>e,fun b l e=>by
  show (if b=w.heap.size then _ else g1.lp b)=some l
  split
  ·rename_i hb;rw [hb,Jv] at e;cases e
  ·exact e⟩
 refine ⟨⟨g1.bu,g1.mem,fun k=>if k=w.heap.size then some (tH rr) else g1.lp k⟩,⟨fun o cs e=>(i1.cells o cs e).imp id fun ⟨b,t,k1,cur,ty,k2,k3,k4⟩=>⟨b,t,k1,cur,ty,k2,k3,k4.mono hle⟩,fun o x e=>?_,i1.fresh,i1.lt,i1.inj,i1.mem,i1.lG,fun b l e=>?_⟩,⟨x1.le.trans hle,x1.os,x1.tape,x1.output,x1.size,x1.frame,fun k ⟨o,s,x,e1,e2⟩=>x1.own k ⟨o,s,x,e1,e2⟩,x1.JG,x1.fr,x1.tF,fun b l e=>?_⟩,bO,if_pos rfl⟩
 ·obtain ⟨b,s,ob,k1,k2,k3⟩:=i1.cT o x e
  exact ⟨b,s,ob,k1,k2,k3.mono hle⟩
 ·have e:(if b=w.heap.size then some (tH rr) else g1.lp b)=some l:=e
  split at e
  ·rename_i hb;cases e;exact ⟨rr,by rw [hb];exact heap_alloc_new w _,rfl⟩
  ·exact i1.lp b l e
 ·have e:(if b=w.heap.size then some (tH rr) else g1.lp b)=some l:=e
  split at e
  ·rename_i hb;exact .inr (by omega)
  ·exact x1.lpo b l e
section
variable {β:Type}
theorem yd {h:H} {q:Nat} {x:gF} {t':Tr gF} (hq:q<16777216) (ht:t'.get=fun m=>if m=q then some x else h.t.get m):nK h { h with t:=t' } (.wr [dy q])∧∀S,Agree (.wr [dy q]) (hp h) S→ja (.wr [dy q]) (hp { h with t:=t' }) S=S.set q x.low:=by
 have e:=pf (h:=h) (x:=x) hq ht
 have hT:∀u∈[Up.set q x.low],aK (.wr [dy q]) u.id=true:=fun u hu=>by rcases zF.1 hu with rfl;exact aF (o:=q) hq (.head _)
 have out:∀i,aK (.wr [dy q]) i=false→(hp { h with t:=t' }).ob i=(hp h).ob i∧((hp { h with t:=t' }).fr i↔(hp h).fr i):=fun i hi=>by
  rw [e];exact dH _ _ i (fun u hu hh=>by rw [hh,hT u hu] at hi;cases hi)
 exact ⟨⟨out,fun i hi=>out i (sc hi)⟩,fun S hA=>by rw [e,ir hT hA];rfl⟩
theorem y8 {h:H} {q:Nat} {t':Tr gF} (hq:q<16777216) (ht:t'.get=fun m=>if m=q then none else h.t.get m):nK h { h with t:=t' } (.wr [dy q])∧∀S,Agree (.wr [dy q]) (hp h) S→ja (.wr [dy q]) (hp { h with t:=t' }) S=S.del q:=by
 have e:hp { h with t:=t' }=app [.del q] (hp h):=Hp.ext' (fun i=>by
  show (if i<cM then fM t' i else _)=if i=q then none else (if i<cM then fM h.t i else _)
  unfold fM
  rw [ht]
  by_cases hi:i=q
  ·subst hi;rw [if_pos (show i<cM from hq),if_pos rfl];simp
  ·simp only [if_neg hi]) (fun i=>Iff.rfl)
 have hT:∀u∈[Up.del q],aK (.wr [dy q]) u.id=true:=fun u hu=>by rcases zF.1 hu with rfl;exact aF (o:=q) hq (.head _)
 have out:∀i,aK (.wr [dy q]) i=false→(hp { h with t:=t' }).ob i=(hp h).ob i∧((hp { h with t:=t' }).fr i↔(hp h).fr i):=fun i hi=>by
  rw [e];exact dH _ _ i (fun u hu hh=>by rw [hh,hT u hu] at hi;cases hi)
 exact ⟨⟨out,fun i hi=>out i (sc hi)⟩,fun S hA=>by rw [e,ir hT hA];rfl⟩
theorem yv {h:H} {x:gF} {t':Tr gF} (hq:h.aU<16777216) (ht:t'.get=fun m=>if m=h.aU then some x else h.t.get m):nK h { h with t:=t',aU:=h.aU+1 } (.wr [dy h.aU])∧∀S,Agree (.wr [dy h.aU]) (hp h) S→ja (.wr [dy h.aU]) (hp { h with t:=t',aU:=h.aU+1 }) S=S.new h.aU x.low:=by
 have e:=Dv (h:=h) (x:=x) hq ht
 have hT:∀u∈[Up.new h.aU x.low],aK (.wr [dy h.aU]) u.id=true:=fun u hu=>by rcases zF.1 hu with rfl;exact aF (o:=h.aU) hq (.head _)
 have out:∀i,aK (.wr [dy h.aU]) i=false→(hp { h with t:=t',aU:=h.aU+1 }).ob i=(hp h).ob i∧((hp { h with t:=t',aU:=h.aU+1 }).fr i↔(hp h).fr i):=fun i hi=>by
  rw [e];exact dH _ _ i (fun u hu hh=>by rw [hh,hT u hu] at hi;cases hi)
 exact ⟨⟨out,fun i hi=>out i (sc hi)⟩,fun S hA=>by rw [e,ir hT hA];rfl⟩
theorem Ky {h:H} {q:Nat} {x:gF} (hq:q<16777216) (hx:h.t.get q=some x):(hp h).ob q=some x.low:=by
 show (if q<cM then _ else _)=_
 rw [if_pos (show q<cM from hq)];unfold fM;rw [hx]
theorem zi {h:H} {q:Nat} {S:Hp} {x:gF} {l:List Nat} {w:Bool} {s:List Nat} (hq:q<16777216) (hx:h.t.get q=some x) (hA:Agree ⟨false,l,w,s⟩ (hp h) S) (hm:dy q∈l):S.ob q=some x.low:=(hA q (aF hq hm)).1.trans (Ky hq hx)
def De:Option Code→Option Exit
 | none=>some .normal
 | some .ret=>some .ret
 | some (.exit id)=>some (.exit id)
 | _=>none
def KH:LoopState→Bool
 | .busy=>true
 | _=>false
def Qk:Exit→Option (Option Code)
 | .normal=>some none
 | .ret=>some (some .ret)
 | .exit id=>some (some (.exit id))
 | _=>none
def Cj:Option Code→LoopState
 | none=>.ready
 | some _=>.done
theorem Dd {pe:Option Code} {e:Exit} (h:De pe=some e):(pe=none∧e = .normal)∨(pe=some .ret∧e = .ret)∨∃id,pe=some (.exit id)∧e = .exit id:=by
 unfold De at h
 split at h
 ·cases h;exact .inl ⟨rfl,rfl⟩
 ·cases h;exact .inr (.inl ⟨rfl,rfl⟩)
 ·cases h;exact .inr (.inr ⟨_,rfl,rfl⟩)
 ·cases h
def wX:Tr A→List Tmp→List A→(Tr A→Option β)→Option β
 | F,[],[],k=>k F
 | F,t::ts,a::aa,k=>fq F t (some a) (fun F=>wX F ts aa k)
 | _,_,_,_=>none
theorem sm {r:β}:∀(ps:List Tmp) (aa:List A) (F:Tr A) (k:Tr A→Option β),wX F ps aa k=some r→∃F1,k F1=some r∧aa.length=ps.length∧∀(g:G) (n:Nat) (vs:List Value) (tmps:Array Value),aa.length=vs.length→(∀(i:Nat) (p:A) (v:Value),aa[i]?=some p→vs[i]?=some v→V g p v)→tmps.size=n→(∀i,i<n→V g (bl F.get i) (tmps.getD i undef)) →
  ((ps.zip vs).foldl (fun tmps x=>tmps.setIfInBounds x.1 x.2) tmps).size=n∧∀i,i<n→V g (bl F1.get i) (((ps.zip vs).foldl (fun tmps x=>tmps.setIfInBounds x.1 x.2) tmps).getD i undef)
 | [],[],F,k,h=>⟨F,h,rfl,fun g n vs tmps hl hv hs hF=>⟨by simpa using hs,by simpa using hF⟩⟩
 | t::ts,a::aa,F,k,h=>by
  obtain ⟨_,F',k1,k2⟩:=bz h
  obtain ⟨F1,q1,q2,q3⟩:=sm ts aa F' k k1
  refine ⟨F1,q1,by simp [q2],fun g n vs tmps hl hv hs hF=>?_⟩
  cases vs with
  | nil=>simp at hl
  | cons v vs=>
   refine q3 g n vs (tmps.setIfInBounds t v) (by simpa using hl) (fun i p v k1 k2=>hv (i+1) p v (by simpa using k1) (by simpa using k2)) (by simpa using hs) (fun i hi=>?_)
   rw [nX k2]
   by_cases X3:i=t
   ·subst X3
    rw [if_pos rfl,show (tmps.setIfInBounds i v).getD i undef=v by simp [Array.getD,show i<tmps.size by omega]]
    exact hv 0 a v rfl rfl
   ·rw [if_neg X3,show (tmps.setIfInBounds t v).getD i undef=tmps.getD i undef by
     simp only [Array.getD_eq_getD_getElem?]
     rw [Array.getElem?_setIfInBounds_ne (fun h=>X3 h.symm)]]
    exact hF i hi
 | [],_::_,_,_,h=>by cases h
 | _::_,[],_,_,h=>by cases h
theorem Rf {g:G} {fi ca:List A} {x:A} {fv cv:List Value} {v:Value} (hf:fi.length=fv.length) (h1:∀(i:Nat) (c:A) (x:Value),fi[i]?=some c→fv[i]?=some x→V g c x) (hx:V g x v) (h2:∀(i:Nat) (c:A) (x:Value),ca[i]?=some c→cv[i]?=some x→V g c x) :
  ∀(i:Nat) (p:A) (u:Value),(fi++x::ca)[i]?=some p→(fv++v::cv)[i]?=some u→V g p u:=by
 intro i p u k1 k2
 rcases Nat.lt_trichotomy i fi.length with c1 | c1 | c1
 ·rw [zK c1] at k1
  rw [zK (by omega)] at k2
  exact h1 i p u k1 k2
 ·rw [zJ (by omega)] at k1 k2
  rw [c1,Nat.sub_self] at k1
  rw [c1,hf,Nat.sub_self] at k2
  simp at k1 k2;subst k1 k2;exact hx
 ·rw [zJ (by omega)] at k1 k2
  rw [←hf] at k2
  obtain ⟨d,hd⟩:∃d,i-fi.length=d+1:=⟨i-fi.length-1,by omega⟩
  rw [hd] at k1 k2
  exact h2 d p u (by simpa using k1) (by simpa using k2)
end
end
section
open Go.RowKit
section
variable {P:Program} {E:Env} {cx:Cx} {n:Nat} {β:Type} {r:β}
abbrev KC (β:Type):=Exit→Tr A→H→List Nat→Fp→Option β
def J7 (K1:Tr A→H→List Nat→Fp→Option β) (K:KC β):KC β:=fun e F h ds U=>match e with
 | .normal=>K1 F h ds U
 | e=>K e F h ds U
def aaE (id:Nat) (K:KC β):KC β:=fun e F h ds U=>match e with
 | .exit i=>bif Nat.beq i id then K .normal F h ds U else K (.exit i) F h ds U
 | e=>K e F h ds U
def LC (n:Nat) (F:Tr A) (c:Operand) (k:Tr A→Bool→Option β):Option β:=match c with
 | .tmp d=>match yr n F (.tmp d) with
  | .v (.bool b)=>br b (fq F d (some (.v (.bool true))) (fun F'=>k F' true)) (fq F d (some (.v (.bool false))) (fun F'=>k F' false))
  | _=>none
 | .const (.bool b)=>k F b
 | _=>none
theorem Hn {F:Tr A} {c:Operand} {k:Tr A→Bool→Option β} (h:LC n F c k=some r):∃F' b,k F' b=some r∧(∀ds S,fN n F' ds S=fN n F ds S)∧yr n F c = .v (.bool b):=by
 unfold LC at h
 split at h
 ·rename_i d
  split at h
  ·rename_i b hb
   have same:∀(F':Tr A) (c:Bool),b=c→F'.get=(fun m=>if m=d then some (.v (.bool c)) else F.get m)→∀ds S,fN n F' ds S=fN n F ds S:=fun F' c hc e ds S=>by
    have:bl F'.get=bl F.get:=by
     funext i
     by_cases hi:i=d
     ·subst hi
      rw [yq hb (by intro h;cases h),hc]
      unfold bl
      rw [e];simp
     ·unfold bl
      rw [e];simp [hi]
    unfold fN
    rw [this]
   rcases pn h with ⟨rfl,h1⟩ | ⟨rfl,h1⟩
   ·obtain ⟨_,F',k1,k2⟩:=bz h1
    exact ⟨F',true,k1,same F' true rfl k2,hb⟩
   ·obtain ⟨_,F',k1,k2⟩:=bz h1
    exact ⟨F',false,k1,same F' false rfl k2,hb⟩
  ·cases h
 ·rename_i b
  exact ⟨F,b,h,fun ds S=>rfl,rfl⟩
 ·cases h
def mD:aB→List Nat
 | .region _ ops _=>pW ops
 | .seq x y=>mD x++mD y
 | .cut H x y=>(mD x++(H.nk.map (·.1)++H.grow.map (·.1)))++mD y
 | .cond _ x y=>mD x++mD y
 | .block _ x=>mD x
 | .loop H x=>mD x++(H.nk.map (·.1)++H.grow.map (·.1))
 | _=>[]
def xe {σ:Type} (pj:Tr A→H→List Nat→Fp→Option σ) (k:σ→Option β) (K:KC β):KC β:=fun e F h ds T=>match e with
 | .normal=>(match pj F h ds T with
  | some s=>k s
  | none=>none)
 | e=>K e F h ds T
def Bi (U:Fp) (K:KC β):KC β:=fun e F h ds T=>K e F h ds (U.cat T)
abbrev MB (β:Type):=Nat→List Oper→Tr A→H→Fp→(Tr A→H→Fp→Option β)→Option β
def x_ (J:LH):Option Nat:=match J.loops with
 | [k]=>bif Nat.ble 1000000 k then some (k-1000000) else none
 | _=>none
def Mt:List Oper→Option (Nat×Nat×Nat)
 | [o1,o2]=>match o1.op,o1.dst,o1.guard,o2.op,o2.guard,o2.dst with
  | .move (.tmp s),some a,none,.defer c,none,none=>match c.callee,c.args.toList with
   | .value (.func f),[.tmp b]=>bif Nat.beq a b then some (s,a,f) else none
   | _,_=>none
  | _,_,_,_,_,_=>none
 | _=>none
def Vw {β:Type} (n:Nat) (x:Nat×Nat×Nat) (F:Tr A) (h:H) (ds:List Nat) (U:Fp) (K:Tr A→H→List Nat→Fp→Option β):Option β:=match bl F.get x.1 with
 | .ptr q off=>bif Nat.beq off 0 && Nat.blt q 16777216 && Nat.blt x.1 n && Nat.blt x.2.1 n then fq F x.2.1 (some (.ptr q 0)) (fun F1=>K F1 h ((q+16777216*(x.2.2+1))::ds) U) else none
 | _=>none
def rY (E:Env) (cx:Cx) (inr:Bool) (n:Nat) (dr:MB β):aB→Tr A→H→List Nat→Fp→KC β→Option β
 | .skip,F,h,ds,U,K=>K .normal F h ds U
 | .ret,F,h,ds,U,K=>K .ret F h ds U
 | .exit id,F,h,ds,U,K=>K (.exit id) F h ds U
 | .bad _,_,_,_,_,_=>none
 | .region id ops d,F,h,ds,U,K=>bif d then dr id ops F h U (fun F h U=>K .normal F h ds U) else match Mt ops with
  | some x=>bif inr then none else Vw n x F h ds U (fun F h ds U=>K .normal F h ds U)
  | none=>u9 E cx n ops ops F h U (fun F h U=>K .normal F h ds U)
 | .seq x y,F,h,ds,U,K=>rY E cx inr n dr x F h ds U (J7 (fun F h ds U=>rY E cx inr n dr y F h ds U K) K)
 | .cut J x y,F,h,ds,U,K=>match Hh J F h with
  | some e=>bif yZ J e ds F h then
    jn (fun k=>rY E cx inr n dr x F h ds .no (xe (Bu J n h.aU e.bs e.cs e.qs e.dg ds) k (Bi U K)))
     (fun s=>AL J (mD x++(J.nk.map (·.1)++J.grow.map (·.1))) e.bs e.cs e.dg F h s (fun Fc hc=>rY E cx inr n dr y Fc hc ds .no (Bi (U.cat (jT J h.aU e)) K)))
   else none
  | none=>none
 | .cond c x y,F,h,ds,U,K=>LC n F c (fun F b=>bif b then rY E cx inr n dr x F h ds U K else rY E cx inr n dr y F h ds U K)
 | .block id x,F,h,ds,U,K=>rY E cx inr n dr x F h ds U (aaE id K)
 | .loop J x,F,h,ds,U,K=>match x_ J with
  | some m=>Nat.rec (motive:=fun _=>Tr A→H→List Nat→Fp→Option β) (fun _ _ _ _=>none) (fun _ ih F h ds U=>rY E cx inr n dr x F h ds U (J7 ih K)) m F h ds U
  | none=>match Hh J F h with
  | some e=>bif yZ J e ds F h then (match Bu J n h.aU e.bs e.cs e.qs e.dg ds F h ds .no with
   | some s0=>loop (fun k s=>AL J (mD x++(J.nk.map (·.1)++J.grow.map (·.1))) e.bs e.cs e.dg F h s (fun Fc hc=>rY E cx inr n dr x Fc hc ds .no (xe (Bu J n h.aU e.bs e.cs e.qs e.dg ds) k (Bi (U.cat (jT J h.aU e)) K)))) s0
   | none=>none) else none
  | none=>none
 | .range g ps J aa bd,F,h,ds,U,K=>bif inr then none else match yr n F g with
  | .fn f fi ca=>bif Nat.blt h.aU 16777214 then fq h.t h.aU (some (.cT .y7)) (fun t1=>fq t1 (h.aU+1) (some (.cT (.loop .ready none))) (fun t2=>cx.call β f (fi ++ .rB (h.aU+1) n F ps J aa bd::ca) { h with t:=t2,aU:=h.aU+1+1 } (fun _ h3 T3=>match h3.t.get (h.aU+1) with
   | some (.cT (.loop st pe))=>bif KH st then none else fq h3.t (h.aU+1) none (fun t4=>match De pe with
    | some e=>K e F { h3 with t:=t4 } (h.aU::ds) (U.cat (((Fp.wr [dy h.aU]).cat (.wr [dy (h.aU+1)])).cat (T3.cat (.wr [dy (h.aU+1)]))))
    | none=>none)
   | _=>none))) else none
  | _=>none
def HJ (P:Program) (inr:Bool) (n:Nat) (c:Code) (F:Tr A) (h:H) (ds:List Nat) (e:Exit) (F':Tr A) (h':H) (jg:List Nat) (T:Fp):Prop:=
 nK h h' T∧∀ro,(inr=false→ro=none)→∀S0 g0 w0,EN F h F' h' n T (fun Q st=>pw P ro S0 g0 w0 c Q st) e ds jg
def Bq (P:Program) (n:Nat) (dr:MB β):Prop:=
 ∀id ops F h U K (r:β),dr id ops F h U K=some r→∃F' h' T,K F' h' (U.cat T)=some r∧Kp (pW ops) F F'∧∀inr ds,HJ P inr n (.region id ops.toArray true) F h ds .normal F' h' ds T
theorem all_eq {S S2:Hp} {l m:List Nat} {w:Bool} (h:Agree ⟨true,l,w,m⟩ S S2):S2=S:=Hp.ext' (fun i=>(h i rfl).1) (fun i=>(h i rfl).2)
theorem yn {S S2:Hp} {l m:List Nat} {w:Bool}:ja ⟨true,l,w,m⟩ S S2=S:=Hp.ext' (fun i=>by
 show (if aK ⟨true,l,w,m⟩ i=true then S.ob i else S2.ob i)=S.ob i
 rw [if_pos (show aK ⟨true,l,w,m⟩ i=true from rfl)]) (fun i=>by
 show (if aK ⟨true,l,w,m⟩ i=true then S.fr i else S2.fr i)↔S.fr i
 rw [if_pos (show aK ⟨true,l,w,m⟩ i=true from rfl)])
theorem Dh (J:LH) (N:Nat) (e:Fq) (T:Fp):∃l m w,(jT J N e).cat T=⟨true,l,w,m⟩:=⟨_,_,_,rfl⟩
theorem R.entry {n:Nat} {F:Tr A} {h:H} {ds:List Nat} {S0:Hp} {g0:G} {w0 w:World} {a:Act} (hR:R S0 g0 w0 (fN n F ds (hp h)) a w):(∀i,h.aU≤i→i<cM→fM h.t i=none)∧∀o,h.aU≤o→o<cM→S0.fr o∧g0.bu o=none:=by
 obtain ⟨g,hI,hE,_⟩:=hR
 have hI:Inv g (hp h) w:=hI
 have hE:Ext S0 g0 w0 (hp h) g w:=hE
 have fr:∀o,h.aU≤o→o<cM→(hp h).fr o:=fun o h1 h2=>by show (if o<cM then _ else _);rw [if_pos h2];exact h1
 refine ⟨fun i h1 h2=>?_,fun o h1 h2=>⟨hE.fr o (fr o h1 h2),?_⟩⟩
 ·cases hx:fM h.t i with
  | none=>rfl
  | some x=>
   have fc:(hp h).ob i=some x:=by show (if i<cM then _ else _)=_;rw [if_pos h2];exact hx
   have bO:=hI.fresh i (fr i h1 h2)
   cases x with
   | cells cs=>
    rcases hI.cells i cs fc with ⟨k,_⟩ | ⟨b,t,k,_⟩
    ·rw [bO] at k;cases k
    ·rw [bO] at k;cases k
   | cT x=>
    obtain ⟨b,s,ob,k,_⟩:=hI.cT i x fc
    rw [bO] at k;cases k
 ·have bO:=hI.fresh o (fr o h1 h2)
  cases hx:g0.bu o with
  | none=>rfl
  | some p=>rw [hE.le.bu o p hx] at bO;cases bO
section
variable {J:LH} {lv ds:List Nat} {En:Fq} {F:Tr A} {h:H}
theorem xm {s:J.S} {Fc:Tr A} {hc:H} (k:oN J lv En F h s Fc hc) (hv:∀i,i∈J.nk.map (·.1)++J.grow.map (·.1)→i∈lv):Kp lv F Fc:=by
 have aV:∀(l:List (Nat×Bool×Ty)) (x:ki (l.map (·.2))),(∀i∈l.map (·.1),i∈lv)→EA (fun i c=>i∉lv→c=bl F.get i) l x:=fun l=>by
  induction l with
  | nil=>exact fun _ _=>trivial
  | cons p l ih=>exact fun x hh=>⟨fun hn=>absurd (hh p.1 (.head _)) hn,ih x.2 (fun i hi=>hh i (.tail _ hi))⟩
 have aW:∀(l:List (Nat×Ty)) (j:Nat),(∀i∈l.map (·.1),i∈lv)→Ez (fun i c=>i∉lv→c=bl F.get i) l j:=fun l=>by
  induction l with
  | nil=>exact fun _ _=>trivial
  | cons p l ih=>exact fun j hh=>⟨fun hn=>absurd (hh p.1 (.head _)) hn,ih (j+1) (fun i hi=>hh i (.tail _ hi))⟩
 exact k.F (fun i c=>i∉lv→c=bl F.get i) (fun i h1 h2=>absurd h1 h2) (fun i _ _=>rfl) (aV _ _ (fun i hi=>hv i (zQ _ hi))) (aW _ _ (fun i hi=>hv i (zS _ hi)))
theorem Rc {n:Nat} {s s':J.S} {Fc MA F1:Tr A} {hc Fh h1:H} {mA:List Nat} {T1:Fp} (E:rz J En ds F h) (k:oN J lv En F h s Fc hc) (k':oN J lv En F h s' MA Fh) (hv:∀i,i∈J.nk.map (·.1)++J.grow.map (·.1)→i∈lv)
  (XW:Kp lv Fc F1) (nQ:nK hc h1 T1) (GO:Bu J n h.aU En.bs En.cs En.qs En.dg ds F1 h1 mA T1=some s') {S0:Hp} {g0:G} {w0 w:World} {a:Act} (oy:∀i,h.aU≤i→i<cM→fM h.t i=none) (hf:∀o,h.aU≤o→o<cM→S0.fr o∧g0.bu o=none)
  (hR:R S0 g0 w0 (fN n F1 mA (hp h1)) a w):R S0 g0 w0 (fN n MA ds (hp Fh)) a w:=by
 obtain ⟨j1,j2,_⟩:=qP E k
 have hw:=GO
 unfold Bu at hw
 obtain ⟨BG,_⟩:=aj hw
 rw [zC,zC] at BG
 have XB:=E.top
 exact Jb E oy (fun i hi=>(XW i hi).trans (xm k hv i hi)) (fun i hi hn=>(nQ.rd i (wq BG.1.1 (by omega) hi hn)).1.trans (j1 i hi (fun h=>hn (by
   rcases zX.1 h with h | h
   ·exact zQ _ h
   ·exact zS _ (zQ _ h)))))
  (fun i hl hk=>by
   have e1:=nQ.rd i (wo BG.1.1 hl hk)
   have e2:=j2 i hl hk
   exact ⟨e1.1.trans e2.1,e1.2.trans e2.2⟩) GO k' hf hR
theorem JF {n:Nat} {s':J.S} {MA F1:Tr A} {Fh h1:H} {mA:List Nat} {T1:Fp} (E:rz J En ds F h) (k':oN J lv En F h s' MA Fh)
  (XW:Kp lv F F1) (nQ:nK h h1 T1) (GO:Bu J n h.aU En.bs En.cs En.qs En.dg ds F1 h1 mA T1=some s') {S0:Hp} {g0:G} {w0 w:World} {a:Act} (oy:∀i,h.aU≤i→i<cM→fM h.t i=none) (hf:∀o,h.aU≤o→o<cM→S0.fr o∧g0.bu o=none)
  (hR:R S0 g0 w0 (fN n F1 mA (hp h1)) a w):R S0 g0 w0 (fN n MA ds (hp Fh)) a w:=by
 have hw:=GO
 unfold Bu at hw
 obtain ⟨BG,_⟩:=aj hw
 rw [zC,zC] at BG
 have XB:=E.top
 exact Jb E oy (fun i hi=>XW i hi) (fun i hi hn=>(nQ.rd i (wq BG.1.1 (by omega) hi hn)).1) (fun i hl hk=>nQ.rd i (wo BG.1.1 hl hk)) GO k' hf hR
theorem Dk {s:J.S} {Fc:Tr A} {hc:H} (E:rz J En ds F h) (k:oN J lv En F h s Fc hc):nK h hc (jT J h.aU En):=⟨fun i hi=>(by cases hi),(qP E k).2.2⟩
theorem vC {σ:Type} {pj:Tr A→H→List Nat→Fp→Option σ} {k:σ→Option β} {K:KC β} {e:Exit} {T:Fp} (hr:xe pj k K e F h ds T=some r):(e = .normal∧∃s,pj F h ds T=some s∧k s=some r)∨(e≠.normal∧K e F h ds T=some r):=by
 unfold xe at hr
 split at hr
 ·split at hr
  ·rename_i s hs;exact .inl ⟨rfl,s,hs,hr⟩
  ·cases hr
 ·rename_i jN;exact .inr ⟨jN,hr⟩
theorem yx {inr:Bool} {n:Nat} {x:aB} {dr:MB β} {E:Env} {cx:Cx} {K:KC β} {U:Fp} (hx:∀(F:Tr A) (h:H) (ds:List Nat) (U:Fp) (K:KC β),rY E cx inr n dr x F h ds U K=some r→∃e F' h' jg T,K e F' h' jg (U.cat T)=some r∧Kp (mD x) F F'∧HJ P inr n x.code F h ds e F' h' jg T)
  (EO:rz J En ds F h) (hv:∀i,i∈J.nk.map (·.1)++J.grow.map (·.1)→i∈lv) (ha:∀i,i∈mD x→i∈lv):∀(m:Nat) (s:J.S),iter (fun k s=>AL J lv En.bs En.cs En.dg F h s (fun Fc hc=>rY E cx inr n dr x Fc hc ds .no (xe (Bu J n h.aU En.bs En.cs En.qs En.dg ds) k (Bi (U.cat (jT J h.aU En)) K)))) m s=some r →
  ∃Fc hc,oN J lv En F h s Fc hc∧∃e F' h' jg T,K e F' h' jg (U.cat ((jT J h.aU En).cat T))=some r∧Kp lv F F'∧nK h h' ((jT J h.aU En).cat T) ∧
   ∀ro,(inr=false→ro=none)→∀S0 g0 w0,(∀i,h.aU≤i→i<cM→fM h.t i=none)→(∀o,h.aU≤o→o<cM→S0.fr o∧g0.bu o=none)→∀Q:Exit→St→Prop,Q e (fN n F' jg (hp h'))→∀a w,R S0 g0 w0 (fN n Fc ds (hp hc)) a w→Code.roundsIn (FR ro) 0 P x.code (lift S0 g0 w0 Q) m a w
 | 0,s,hr=>by cases hr
 | m+1,s,hr=>by
  obtain ⟨Fc,hc,k1,k2⟩:=vG (show AL J lv En.bs En.cs En.dg F h s (fun Fc hc=>rY E cx inr n dr x Fc hc ds .no (xe (Bu J n h.aU En.bs En.cs En.qs En.dg ds) (iter (fun k s=>AL J lv En.bs En.cs En.dg F h s (fun Fc hc=>rY E cx inr n dr x Fc hc ds .no (xe (Bu J n h.aU En.bs En.cs En.qs En.dg ds) k (Bi (U.cat (jT J h.aU En)) K)))) m) (Bi (U.cat (jT J h.aU En)) K)))=some r from hr)
  obtain ⟨e1,F1,h1,mA,T1,k3,k4,k5,k6⟩:=hx Fc hc ds .no _ k1
  rw [Fp.o8] at k3
  refine ⟨Fc,hc,k2,?_⟩
  rcases vC k3 with ⟨rfl,s',q1,q2⟩ | ⟨jN,q1⟩
  ·obtain ⟨MA,Fh,u1,e,F',h',jg,T,u2,u3,u4,u5⟩:=yx hx EO hv ha m s' q2
   refine ⟨e,F',h',jg,T,u2,u3,u4,fun ro kZ S0 g0 w0 oy hf Q hq a w hR=>?_⟩
   rw [roundsIn_succ]
   refine wpIn_mono (k6 ro kZ S0 g0 w0 (hp hc) Agree.self (fun e st=>e = .normal∧st=fN n F1 mA (hp h1)) ⟨rfl,by rw [p_ k5]⟩ a w hR) ?_
   rintro e2 a2 w2 ⟨st,K4,rfl,rfl⟩
   exact u5 ro kZ S0 g0 w0 oy hf Q hq a2 w2 (Rc EO k2 u1 hv (k4.mono ha) k5 q1 oy hf K4)
  ·refine ⟨e1,F1,h1,mA,T1,by rw [←Fp.jS];exact q1,(xm k2 hv).trans k4 (fun i hi=>hi) ha,(Dk EO k2).trans k5,fun ro kZ S0 g0 w0 oy hf Q hq a w hR=>?_⟩
   rw [roundsIn_succ]
   refine wpIn_mono (k6 ro kZ S0 g0 w0 (hp hc) Agree.self (fun e st=>e=e1∧st=fN n F1 mA (hp h1)) ⟨rfl,by rw [p_ k5]⟩ a w hR) ?_
   rintro e2 a2 w2 ⟨st,K4,rfl,rfl⟩
   have hl:lift S0 g0 w0 Q e2 a2 w2:=⟨_,K4,hq⟩
   cases e2 with
   | normal=>exact absurd rfl jN
   | _=>exact hl
end
theorem BS {inr:Bool} {n:Nat} {x:aB} {dr:MB β} {E:Env} {cx:Cx} {K:KC β} {r:β} (hx:∀(F:Tr A) (h:H) (ds:List Nat) (U:Fp) (K:KC β),rY E cx inr n dr x F h ds U K=some r→∃e F' h' jg T,K e F' h' jg (U.cat T)=some r∧Kp (mD x) F F'∧HJ P inr n x.code F h ds e F' h' jg T) :
  ∀(m:Nat) (F:Tr A) (h:H) (ds:List Nat) (U:Fp),Nat.rec (motive:=fun _=>Tr A→H→List Nat→Fp→Option β) (fun _ _ _ _=>none) (fun _ ih F h ds U=>rY E cx inr n dr x F h ds U (J7 ih K)) m F h ds U=some r →
  ∃e F' h' jg T,K e F' h' jg (U.cat T)=some r∧Kp (mD x) F F'∧nK h h' T∧∀ro,(inr=false→ro=none)→∀S0 g0 w0 S2,Agree T (hp h) S2→∀Q:Exit→St→Prop,Q e (fN n F' jg (ja T (hp h') S2))→∀a w,R S0 g0 w0 (fN n F ds S2) a w→Code.roundsIn (FR ro) 0 P x.code (lift S0 g0 w0 Q) m a w
 | 0,F,h,ds,U,hr=>by cases hr
 | m+1,F,h,ds,U,hr=>by
  obtain ⟨e1,F1,h1,mA,T1,k1,kp,k2,k3⟩:=hx F h ds U _ hr
  by_cases jN:e1 = .normal
  ·subst jN
   obtain ⟨e,F2,h2,y6,T2,q1,qp,q2,q3⟩:=BS hx m F1 h1 mA _ k1
   refine ⟨e,F2,h2,y6,T1.cat T2,by rw [←Fp.jS];exact q1,kp.trans qp (fun i hi=>hi) (fun i hi=>hi),k2.trans q2,fun ro kZ S0 g0 w0 S2 hA Q hq a w hR=>?_⟩
   rw [roundsIn_succ]
   refine wpIn_mono (k3 ro kZ S0 g0 w0 S2 hA.left (fun e st=>e = .normal∧st=fN n F1 mA (ja T1 (hp h1) S2)) ⟨rfl,rfl⟩ a w hR) ?_
   rintro e2 a2 w2 ⟨st,K4,rfl,rfl⟩
   exact q3 ro kZ S0 g0 w0 _ (Agree.right k2 hA) Q (by rw [g4 q2];exact hq) a2 w2 K4
  ·have k4:K e1 F1 h1 mA (U.cat T1)=some r:=by
    cases e1 with
    | normal=>exact absurd rfl jN
    | _=>exact k1
   refine ⟨e1,F1,h1,mA,T1,k4,kp,k2,fun ro kZ S0 g0 w0 S2 hA Q hq a w hR=>?_⟩
   rw [roundsIn_succ]
   refine wpIn_mono (k3 ro kZ S0 g0 w0 S2 hA (fun e st=>e=e1∧st=fN n F1 mA (ja T1 (hp h1) S2)) ⟨rfl,rfl⟩ a w hR) ?_
   rintro e2 a2 w2 ⟨st,K4,rfl,rfl⟩
   have hl:lift S0 g0 w0 Q e2 a2 w2:=⟨_,K4,hq⟩
   cases e2 with
   | normal=>exact absurd rfl jN
   | _=>exact hl
theorem Lo {l:List Oper} {x:Nat×Nat×Nat} (h:Mt l=some x):∃o1 o2 c,l=[o1,o2]∧o1.op = .move (.tmp x.1)∧o1.dst=some x.2.1∧o1.guard=none∧o2.op = .defer c∧o2.guard=none∧o2.dst=none∧c.callee = .value (.func x.2.2)∧c.args.toList=[.tmp x.2.1]:=by
 unfold Mt at h
 split at h
 ·rename_i o1 o2
  split at h
  ·rename_i s a c e1 e2 e3 e4 e5 e6
   split at h
   ·rename_i f b e7 e8
    obtain ⟨e9,h⟩:=aj h
    have e9:=beq_eq e9
    cases h
    exact ⟨o1,o2,c,rfl,e1,e2,e3,e4,e5,e6,e7,by rw [e8,e9]⟩
   ·cases h
  ·cases h
 ·cases h
theorem Lq {P:Program} {n:Nat} (id:Nat) {ops:List Oper} {x:Nat×Nat×Nat} {F:Tr A} {h:H} {ds:List Nat} {U:Fp} {K:Tr A→H→List Nat→Fp→Option β} {r:β} (hd:Mt ops=some x) (hr:Vw n x F h ds U K=some r) :
  ∃F' jg,K F' h jg U=some r∧Kp (pW ops) F F'∧∀S0 g0 w0 Q S2,Q .normal (fN n F' jg S2)→pw P none S0 g0 w0 (.region id ops.toArray false) Q (fN n F ds S2):=by
 obtain ⟨s,a,f⟩:=x
 obtain ⟨o1,o2,c,rfl,e1,e2,e3,e4,e5,e6,e7,e8⟩:=Lo hd
 simp only at e1 e2 e7 e8
 unfold Vw at hr
 simp only at hr
 split at hr
 ·rename_i q off hs
  obtain ⟨hq,KO⟩:=aj hr
  clear hr
  simp only [zC] at hq
  have h0:=beq_eq hq.1.1.1
  have hq0:=bf hq.1.1.2
  have E9:=bf hq.1.2
  have han:=bf hq.2
  subst h0
  obtain ⟨_,F1,hr,Dp⟩:=bz KO
  have sE:∀S2:Hp,(fN n F ds S2).put (some a) (.ptr q 0)=fN n F1 ds S2:=fun S2=>by
   simp only [St.put,fN]
   congr 1
   funext i
   simp only [bl,Dp]
   by_cases hi:i=a
   ·rw [if_pos hi,if_pos hi]
   ·rw [if_neg hi,if_neg hi]
  refine ⟨F1,_,hr,?_,fun S0 g0 w0 Q S2 hQ=>sq (ve (pv:=.ptr q 0) (S':=S2) 0 e3 ?_ ?_)⟩
  ·intro i hi
   have hi:i≠a:=fun hh=>hi (by subst hh;simp [pW,e2,e6])
   simp only [bl,Dp,if_neg hi]
  ·have e:(fN n F ds S2).uH 0 (.tmp s) = .ptr q 0:=(show (if s<n then bl F.get s else A.cL)=_ from (if_pos E9).trans hs)
   have:=vm (P:=P) (S:=S2) (ρ:=(fN n F ds S2).uH 0) e1
   rw [e] at this
   exact this.Jg (by rw [e1];intro c e;cases e)
  ·intro act w hR
   rw [e2,sE] at hR
   have hR:R S0 g0 w0 (fN n F1 ds S2) act w:=hR
   obtain ⟨g,h0,h1,h2,h3,h4⟩:=hR
   refine wpListIn_plain e5 (fun K hK=>⟨fun _ _=>trivial,?_⟩)
   have hv:=h4 a (show a<n from han)
   have hv:V g (bl F1.get a) (act.tmps.getD a undef):=hv
   rw [show bl F1.get a = .ptr q 0 by simp only [bl,Dp,if_pos]] at hv
   have eX:(Oper.semAt (FR none).round act.eval o2).run P w = .ok (.defer (xK (q+16777216*(f+1)) (act.tmps.getD a undef))) w:=by
    show (execOp act.eval o2).run P w=_
    have ed:(q+16777216*(f+1)) / 16777216-1=f:=by omega
    obtain ⟨cal,args,tys⟩:=c
    simp only at e7 e8
    subst e7
    have ea:args = #[.tmp a]:=by apply Array.ext';simpa using e8
    subst ea
    simp [execOp,e4,resolve,xK,ed,Act.eval,Deferred.ofValue]
   rw [eX]
   refine hK _ _ ?_
   rw [e6]
   refine ⟨fN n F1 ((q+16777216*(f+1))::ds) S2,⟨g,h0,h1,⟨?_,fun i d e k1 k2=>?_⟩,h3,h4⟩,hQ⟩
   ·have:=h2.1;simp only [fN,Act.put,zR] at this ⊢;omega
   ·cases i with
    | zero=>
     simp [fN,Act.put] at k1 k2
     subst k1 k2
     refine ⟨fun hd=>absurd hd (by omega),fun _=>⟨_,?_,rfl⟩⟩
     rw [show (q+16777216*(f+1))%16777216=q by omega]
     simpa using hv
    | succ i=>exact h2.2 i d e (by simpa [fN] using k1) (by simpa [Act.put] using k2)
 ·cases hr
theorem iR {inr:Bool} {dr:MB β} (hE:b0 P E) (hx:lq P cx) (rV:Bq P n dr):∀(c:aB) (F:Tr A) (h:H) (ds:List Nat) (U:Fp) (K:KC β),rY E cx inr n dr c F h ds U K=some r →
  ∃e F' h' jg T,K e F' h' jg (U.cat T)=some r∧Kp (mD c) F F'∧HJ P inr n c.code F h ds e F' h' jg T
 | .skip,F,h,ds,U,K,hr=>⟨.normal,F,h,ds,.no,by rw [Fp.rk];exact hr,.refl _ F,.refl h,fun ro kZ S0 g0 w0 S2 hA Q hq=>by rw [qI] at hq;exact FN hq⟩
 | .ret,F,h,ds,U,K,hr=>⟨.ret,F,h,ds,.no,by rw [Fp.rk];exact hr,.refl _ F,.refl h,fun ro kZ S0 g0 w0 S2 hA Q hq=>by rw [qI] at hq;exact Kh hq⟩
 | .exit id,F,h,ds,U,K,hr=>⟨.exit id,F,h,ds,.no,by rw [Fp.rk];exact hr,.refl _ F,.refl h,fun ro kZ S0 g0 w0 S2 hA Q hq=>by rw [qI] at hq;exact FO hq⟩
 | .bad _,F,h,ds,U,K,hr=>by cases hr
 | .region id ops d,F,h,ds,U,K,hr=>by
  cases d with
  | true=>
   obtain ⟨F',h',T,k1,kp,k2⟩:=rV id ops F h U _ r hr
   exact ⟨.normal,F',h',ds,T,k1,kp,k2 inr ds⟩
  | false=>
   have hr:(match Mt ops with
    | some x=>bif inr then none else Vw n x F h ds U (fun F h ds U=>K .normal F h ds U)
    | none=>u9 E cx n ops ops F h U (fun F h U=>K .normal F h ds U))=some r:=hr
   cases Yb:Mt ops with
   | some x=>
    rw [Yb] at hr
    cases inr with
    | true=>cases hr
    | false=>
     obtain ⟨F',jg,k1,kp,k3⟩:=Lq (P:=P) id Yb hr
     exact ⟨.normal,F',h,jg,.no,by rw [Fp.rk];exact k1,kp,.refl h,fun ro kZ S0 g0 w0 S2 hA Q hq=>by
      rw [qI] at hq
      obtain rfl:=kZ rfl
      exact k3 S0 g0 w0 Q S2 hq⟩
   | none=>
   rw [Yb] at hr
   obtain ⟨F',h',T,k1,kp,k2,k3⟩:=tb hE hx ops F h U _ hr
   exact ⟨.normal,F',h',ds,T,k1,kp,k2,fun ro kZ S0 g0 w0 S2 hA Q hq=>sq (k3 ro S0 g0 w0 ds S2 hA Q hq)⟩
 | .seq x y,F,h,ds,U,K,hr=>by
  obtain ⟨e,F1,h1,mA,T1,k1,kp,k2,k3⟩:=iR hE hx rV x F h ds U _ hr
  cases e with
  | normal=>
   obtain ⟨e,F2,h2,y6,T2,q1,qp,q2,q3⟩:=iR hE hx rV y F1 h1 mA _ K k1
   refine ⟨e,F2,h2,y6,T1.cat T2,by rw [←Fp.jS];exact q1,kp.trans qp (fun i hi=>zQ _ hi) (fun i hi=>zS _ hi),k2.trans q2,fun ro kZ S0 g0 w0 S2 hA Q hq=>?_⟩
   refine td (k3 ro kZ S0 g0 w0 S2 hA.left _ ?_)
   refine q3 ro kZ S0 g0 w0 _ (Agree.right k2 hA) Q ?_
   rw [g4 q2];exact hq
  | _=>exact ⟨_,F1,h1,mA,T1,k1,kp.mono (fun i hi=>zQ _ hi),k2,fun ro kZ S0 g0 w0 S2 hA Q hq=>td (k3 ro kZ S0 g0 w0 S2 hA _ hq)⟩
 | .cut J x y,F,h,ds,U,K,hr=>by
  have hr:(match Hh J F h with | some e=>_ | none=>none)=some r:=hr
  split at hr
  ·rename_i En RS
   obtain ⟨ho,hr⟩:=aj hr
   have EO:=wc ho
   have hv:∀i,i∈J.nk.map (·.1)++J.grow.map (·.1)→i∈mD x++(J.nk.map (·.1)++J.grow.map (·.1)):=fun i hi=>zS _ hi
   obtain ⟨e1,F1,h1,mA,T1,k1,kp,k2,k3⟩:=iR hE hx rV x F h ds .no _ (show rY E cx inr n dr x F h ds .no _=some r from (gK _ _).symm.trans hr)
   rw [Fp.o8] at k1
   rcases vC k1 with ⟨rfl,s,q1,q2⟩ | ⟨jN,q1⟩
   ·obtain ⟨Fc,hc,u1,u2⟩:=vG q2
    obtain ⟨e,F2,h2,y6,T2,u3,u4,u5,u6⟩:=iR hE hx rV y Fc hc ds .no _ u1
    rw [Fp.o8] at u3
    have u3:K e F2 h2 y6 ((U.cat (jT J h.aU En)).cat T2)=some r:=u3
    refine ⟨e,F2,h2,y6,(jT J h.aU En).cat T2,by rw [←Fp.jS];exact u3,(xm u2 hv).trans u4 (fun i hi=>zQ _ hi) (fun i hi=>zS _ hi),(Dk EO u2).trans u5,fun ro kZ S0 g0 w0 S2 hA Q hq=>?_⟩
    obtain ⟨l,m,w,ej⟩:=Dh J h.aU En T2
    rw [ej] at hA hq
    rw [yn] at hq
    rw [all_eq hA]
    intro a w hR
    obtain ⟨oy,hf⟩:=hR.entry
    refine td (k3 ro kZ S0 g0 w0 (hp h) Agree.self _ ?_) a w hR
    rw [p_ k2]
    intro a1 w1 Yj
    refine u6 ro kZ S0 g0 w0 (hp hc) Agree.self Q ?_ a1 w1 (JF EO u2 (kp.mono (fun i hi=>zQ _ hi)) k2 q1 oy hf Yj)
    rw [p_ u5];exact hq
   ·refine ⟨e1,F1,h1,mA,T1,q1,kp.mono (fun i hi=>zQ _ (zQ _ hi)),k2,fun ro kZ S0 g0 w0 S2 hA Q hq=>td (k3 ro kZ S0 g0 w0 S2 hA _ ?_)⟩
    cases e1 with
    | normal=>exact absurd rfl jN
    | _=>exact hq
  ·cases hr
 | .cond c x y,F,h,ds,U,K,hr=>by
  obtain ⟨F1,b,k1,k2,k3⟩:=Hn hr
  cases b with
  | true=>
   obtain ⟨e,F2,h2,y6,T2,q1,qp,q2,q3⟩:=iR hE hx rV x F1 h ds U K k1
   refine ⟨e,F2,h2,y6,T2,q1,(Kp.of (l:=[]) k2).trans qp (fun i hi=>by cases hi) (fun i hi=>zQ _ hi),q2,fun ro kZ S0 g0 w0 S2 hA Q hq=>?_⟩
   refine yk (b:=true) (by rw [←o7];exact k3) (fun _=>?_) (fun h=>by cases h)
   rw [←k2]
   exact q3 ro kZ S0 g0 w0 S2 hA Q hq
  | false=>
   obtain ⟨e,F2,h2,y6,T2,q1,qp,q2,q3⟩:=iR hE hx rV y F1 h ds U K k1
   refine ⟨e,F2,h2,y6,T2,q1,(Kp.of (l:=[]) k2).trans qp (fun i hi=>by cases hi) (fun i hi=>zS _ hi),q2,fun ro kZ S0 g0 w0 S2 hA Q hq=>?_⟩
   refine yk (b:=false) (by rw [←o7];exact k3) (fun h=>by cases h) (fun _=>?_)
   rw [←k2]
   exact q3 ro kZ S0 g0 w0 S2 hA Q hq
 | .block id x,F,h,ds,U,K,hr=>by
  obtain ⟨e,F1,h1,mA,T1,k1,kp,k2,k3⟩:=iR hE hx rV x F h ds U _ hr
  cases e with
  | exit i=>
   have kk:(bif Nat.beq i id then K .normal F1 h1 mA (U.cat T1) else K (.exit i) F1 h1 mA (U.cat T1))=some r:=k1
   cases hb:Nat.beq i id with
   | true=>
    rw [hb] at kk
    obtain rfl:=beq_eq hb
    refine ⟨.normal,F1,h1,mA,T1,kk,kp,k2,fun ro kZ S0 g0 w0 S2 hA Q hq=>qE (k3 ro kZ S0 g0 w0 S2 hA _ ?_)⟩
    show (if i=i then Q .normal _ else _)
    rw [if_pos rfl];exact hq
   | false=>
    rw [hb] at kk
    refine ⟨.exit i,F1,h1,mA,T1,kk,kp,k2,fun ro kZ S0 g0 w0 S2 hA Q hq=>qE (k3 ro kZ S0 g0 w0 S2 hA _ ?_)⟩
    show (if i=id then _ else Q (.exit i) _)
    rw [if_neg (fun e=>by rw [e,Nat.beq_refl] at hb;cases hb)];exact hq
  | _=>exact ⟨_,F1,h1,mA,T1,k1,kp,k2,fun ro kZ S0 g0 w0 S2 hA Q hq=>qE (k3 ro kZ S0 g0 w0 S2 hA _ hq)⟩
 | .loop J x,F,h,ds,U,K,hr=>by
  have hr:(match x_ J with | some m=>_ | none=>(match Hh J F h with | some e=>_ | none=>none))=some r:=hr
  split at hr
  ·rename_i m _
   obtain ⟨e,F',h',jg,T,u2,u3,u4,u5⟩:=BS (P:=P) (fun F h ds U K hr=>iR hE hx rV x F h ds U K hr) m F h ds U hr
   exact ⟨e,F',h',jg,T,u2,u3.mono (fun i hi=>zQ _ hi),u4,fun ro kZ S0 g0 w0 S2 hA Q hq a w hR=>wpIn_loop_rounds m (u5 ro kZ S0 g0 w0 S2 hA Q hq a w hR)⟩
  split at hr
  ·rename_i En RS
   obtain ⟨ho,hr⟩:=aj hr
   split at hr
   ·rename_i s0 hs0
    have EO:=wc ho
    have hv:∀i,i∈J.nk.map (·.1)++J.grow.map (·.1)→i∈mD x++(J.nk.map (·.1)++J.grow.map (·.1)):=fun i hi=>zS _ hi
    obtain ⟨Fc,hc,u1,e,F',h',jg,T,u2,u3,u4,u5⟩:=yx (P:=P) (fun F h ds U K hr=>iR hE hx rV x F h ds U K hr) EO hv (fun i hi=>zQ _ hi) lu s0 ((qb _ _).symm.trans hr)
    refine ⟨e,F',h',jg,_,u2,u3,u4,fun ro kZ S0 g0 w0 S2 hA Q hq=>?_⟩
    obtain ⟨l,m,w,ej⟩:=Dh J h.aU En T
    rw [ej] at hA hq
    rw [yn] at hq
    rw [all_eq hA]
    intro a w hR
    obtain ⟨oy,hf⟩:=hR.entry
    exact wpIn_loop_rounds lu (u5 ro kZ S0 g0 w0 oy hf Q hq a w (JF (T1:=.no) EO u1 (.refl _ F) (.refl h) hs0 oy hf hR))
   ·cases hr
  ·cases hr
 | .range g ps J aa bd,F,h,ds,U,K,hr=>by
  have hr:(bif inr then none else _)=some r:=hr
  obtain ⟨X4,hr⟩:=jk hr
  split at hr
  ·rename_i f fi ca hf
   obtain ⟨hn,hr⟩:=aj hr
   have hn:=bf hn
   obtain ⟨_,t1,hr,Ru⟩:=bz hr
   obtain ⟨_,t2,hr,XC⟩:=bz hr
   obtain ⟨pv,h3,T3,hr,k2⟩:=hx.call β f _ _ _ r hr
   split at hr
   ·rename_i st pe h3q
    obtain ⟨hb,hr⟩:=jk hr
    obtain ⟨_,t4,hr,ht4⟩:=bz hr
    split at hr
    ·rename_i e hj
     obtain ⟨f1,v1⟩:=yv (h:=h) (x:=.cT .y7) (by omega) Ru
     obtain ⟨f2,v2⟩:=yv (h:={ h with t:=t1,aU:=h.aU+1 }) (x:=.cT (.loop .ready none)) (show h.aU+1<16777216 by omega) XC
     have f3:nK { h with t:=t2,aU:=h.aU+1+1 } h3 T3:=⟨k2.out,k2.rd⟩
     obtain ⟨f4,v4⟩:=y8 (h:=h3) (q:=h.aU+1) (by omega) ht4
     have f12:=f1.trans f2
     have f34:=f3.trans f4
     refine ⟨e,F,{ h3 with t:=t4 },h.aU::ds,_,hr,.refl _ F,f12.trans f34,fun ro kZ S0 g0 w0 S2 hA Q hq=>?_⟩
     obtain rfl:=kZ X4
     have DL:=hA.left
     have xv:=Agree.right f12 hA
     rw [←g4 f34,←g4 f4] at hq
     rw [←g4 f2] at xv hq
     have A1:=DL.left
     have A2:=Agree.right f1 DL
     have A3:=xv.left
     have A4:=Agree.right f3 xv
     have GV:S2.fr h.aU:=(A1 h.aU (aF (o:=h.aU) (by omega) (.head _))).2.2 (by show (if h.aU<cM then h.aU≤h.aU else _);rw [if_pos (show h.aU<cM by unfold cM;omega)];exact Nat.le_refl _)
     have RL:(ja (.wr [dy h.aU]) (hp { h with t:=t1,aU:=h.aU+1 }) S2).fr (h.aU+1):=(A2 (h.aU+1) (aF (o:=h.aU+1) (by omega) (.head _))).2.2 (by show (if h.aU+1<cM then h.aU+1≤h.aU+1 else _);rw [if_pos (show h.aU+1<cM by unfold cM;omega)];exact Nat.le_refl _)
     have vK:=zi (x:=.cT (.loop st pe)) (by omega) h3q A4 (.head _)
     rw [v2 _ A2] at A3 A4 vK hq
     rw [v4 _ A4] at hq
     rw [v1 _ A1] at RL A3 A4 vK hq
     rintro a w ⟨gg,hI,hxx,hd,hs,hv⟩
     have hI:Inv gg S2 w:=hI
     have hs:a.tmps.size=n:=hs
     refine wpIn_rangeFunc (fun fn _=>?_)
     obtain ⟨i1,x1⟩:=hI.alloc (s:=(0,0)) GV (x:=.cT .y7) (ob:=.deferred (some [])) ⟨_,heap_alloc_new w _,rfl⟩
     have q1:=ct (g:=gg) (o:=h.aU) (p:=(some w.heap.size,(0,0)))
     generalize jI gg h.aU (some w.heap.size,(0,0))=g1 at i1 x1 q1
     obtain ⟨rr,Dq⟩:∃rr:Loop,rr={ state:=.ready,pending:=none,fn,tmps:=a.tmps,params:=ps.toArray,assign:=aa.code,body:=bd.code,defers:=w.heap.size }:=⟨_,rfl⟩
     obtain ⟨g2,i2,x2,q2,l2⟩:=i1.Q9 RL rr
     have oS:(w.alloc (.deferred (some []))).heap.size=w.heap.size+1:=Array.size_push _
     rw [oS] at q2 l2
     have hu:=wB (st:=fN n F ds S2) hs hv 0 g
     rw [←o7,hf] at hu
     generalize hev:a.eval g=u at hu
     cases hu with
     | fn _ _ _ fv cv KY Mq h1 h2=>
     obtain ⟨w1,Jq⟩:∃w1,w1=(w.alloc (.deferred (some []))).alloc (.loop rr):=⟨_,rfl⟩
     rw [←Jq] at i2 x2
     rw [show rr.state = .ready by rw [Dq],show rr.pending=none by rw [Dq]] at i2 x2
     refine ⟨w.heap.size+1,[{ target:=.collected w.heap.size,args:=#[] }],w1,{ target:=.fn (.func f) cv,args:=fv ++ #[.func (.yield (w.heap.size+1)) #[] #[]] },w1,f,(fv.toList ++ .func (.yield (w.heap.size+1)) #[] #[]::cv.toList).toArray,w1,?_,?_,fun f' _=>trivial,?_,fun h=>by simp [FR,Fence.wide] at h,rm ?_⟩
     ·rw [Jq,Dq];exact run_enterLoop_outer fn a.tmps ps.toArray aa.code bd.code
     ·simp only [resolve,hev,Deferred.ofValue,Sem.run_pure]
      congr 3
      simp [Act.eval]
     ·have h2:=k2.fn.run ((fv.toList ++ .func (.yield (w.heap.size+1)) #[] #[]::cv.toList).toArray) w1
      simp only [invoke]
      rw [show fv ++ #[.func (.yield (w.heap.size+1)) #[] #[]]++cv=(fv.toList ++ .func (.yield (w.heap.size+1)) #[] #[]::cv.toList).toArray by apply Array.ext';simp]
      exact h2
     ·have hle:=x1.le.trans x2.le
      refine (k2.ok _ A3 g2 w1 (fv.toList ++ .func (.yield (w.heap.size+1)) #[] #[]::cv.toList) i2 (by simp [KY,Mq]) (Rf (by simp [KY]) (fun i c x e1 e2=>(h1 i c x e1 (by simpa using e2)).mono hle)
       (.rB _ n F ps J aa bd _ _ _ q2 l2 (by rw [Dq];rfl) (by rw [Dq];rfl) (by rw [Dq];rfl) (by rw [Dq];exact hs) (fun i hi=>by rw [Dq];exact (hv i hi).mono hle)) (fun i c x e1 e2=>(h2 i c x e1 (by simpa using e2)).mono hle))).mono ?_
      rintro e1 w3 ⟨v,g3,rfl,_,i3,x3⟩
      obtain ⟨b3,s3,ob3,k1,oR,k3⟩:=i3.cT (h.aU+1) _ vK
      have hb3:=x3.le.bu _ _ q2
      rw [k1] at hb3
      obtain ⟨rfl,rfl⟩:b3=w.heap.size+1∧s3=(0,0):=by simpa using hb3
      obtain ⟨r3,rfl,r1,r2⟩:=k3
      have xt:=run_endLoop (P:=P) oR (by rw [r1];intro hh;rw [hh] at hb;cases hb)
      obtain ⟨i4,x4⟩:=i3.B9 (zt:=.exhausted) (Kj:=r3.pending) vK k1 oR
      have vN:∀(S:Hp) o ob,(S.del (h.aU+1)).ob o=some ob→(S.set (h.aU+1) (.cT (.loop .exhausted r3.pending))).ob o=some ob:=fun S o ob e=>by
       have e:(if o=h.aU+1 then none else S.ob o)=some ob:=e
       show (if o=h.aU+1 then _ else S.ob o)=some ob
       by_cases ho:o=h.aU+1
       ·rw [if_pos ho] at e;cases e
       ·rw [if_neg ho] at e;rw [if_neg ho];exact e
      have i4:=i4.less (vN _) (fun _ e=>e)
      have x4:=x4.trans (Ext.less (vN _) (fun _ e=>e))
      have xo:=((x1.trans (Jq▸x2)).trans x3).trans x4
      have hR:∀S5,Inv g3 S5 (w3.putObj (w.heap.size+1) (.loop { r3 with state:=.exhausted,pending:=r3.pending }))→Ext S2 gg w S5 g3 (w3.putObj (w.heap.size+1) (.loop { r3 with state:=.exhausted,pending:=r3.pending }))→R S0 g0 w0 (fN n F (h.aU::ds) S5) { a with defers:=[{ target:=.collected w.heap.size,args:=#[] }]++a.defers } (w3.putObj (w.heap.size+1) (.loop { r3 with state:=.exhausted,pending:=r3.pending })):=by
       intro S5 i4 xo
       refine ⟨g3,i4,hxx.trans xo,⟨by have:=hd.1;simp [fN] at this ⊢;exact this,fun i d el e1 e2=>?_⟩,hs,fun i hi=>(hv i hi).mono xo.le⟩
       cases i with
       | zero=>
        simp [fN] at e1 e2;subst e1 e2
        exact ⟨fun _=>⟨w.heap.size,(0,0),(x2.le.trans x3.le).bu _ _ q1,rfl⟩,fun hd=>absurd hd (by omega)⟩
       | succ i=>exact (hd.mono xo.le).2 i d el (by simpa [fN] using e1) (by simpa using e2)
      have hR:=hR _ i4 xo
      have xt:(Instr.endLoop (w.heap.size+1)).run P w3 = .ok r3.pending (w3.putObj (w.heap.size+1) (.loop { r3 with state:=.exhausted,pending:=r3.pending })):=xt
      generalize w3.putObj (w.heap.size+1) (.loop { r3 with state:=.exhausted,pending:=r3.pending })=w4 at hR xt
      refine ⟨r3.pending,_,xt,?_⟩
      rw [r2]
      rcases Dd hj with ⟨h5,h6⟩ | ⟨h5,h6⟩ | ⟨id,h5,h6⟩
      ·rw [h6] at hq;rw [h5];exact ⟨_,hR,hq⟩
      ·rw [h6] at hq;rw [h5];exact wpIn_ret ⟨_,hR,hq⟩
      ·rw [h6] at hq;rw [h5];exact wpIn_exit ⟨_,hR,hq⟩
    ·cases hr
   ·cases hr
  ·cases hr
end
end
section
open Go.RowKit
abbrev JV:=(β:Type)→MB β
def sN:Nat→List A→Option (Tr A)
 | _,[]=>some .nil
 | i,p::ps=>match sN (i+1) ps with
  | some F=>Mr p (fun p=>fq F i (some p) some)
  | none=>none
def rI {β:Type} (E:Env) (n:Nat) (F:Tr A) (h:H):List ResultVar→(List A→List Nat→Option β)→Option β
 | [],k=>k [] []
 | .tmp i::r,k=>bif Nat.blt i n then rI E n F h r (fun ps l=>k (bl F.get i::ps) l) else none
 | .cell a T::r,k=>bif Nat.blt a n then KD E T (bl F.get a) h (fun v _ T1=>rI E n F h r (fun ps l=>k (v::ps) (T1.rs++l))) else none
def wk {β:Type}:Tr gF→List Nat→(Tr gF→Option β)→Option β
 | t,[],k=>k t
 | t,d::ds,k=>match t.get d with
  | some (.cT .y7)=>bif Nat.blt d 16777216 then fq t d none (fun t=>wk t ds k) else none
  | _=>none
def yD:Exit→Bool
 | .normal=>true
 | .ret=>true
 | _=>false
abbrev FT:=Nat→Option (Func×aB)
structure aR (P:Program) (f:Nat) (fn:Func) (x:aB):Prop where
 bu:P.funcs[f]?=some fn
 body:fn.body=some x.code
 name : (fn.name == "runtime.NumGoroutine") = false
def wF (P:Program) (fns:FT):Prop:=∀f fn x,fns f=some (fn,x)→aR P f fn x
def Ln (E:Env) (fns:FT) (dr:Cx→Nat→JV) (cx:Cx) {β:Type} (fn:Func) (F:Tr A) (h:H) (ds:List Nat) (U:Fp) (K:A→H→Fp→Option β):Option β:=match ds with
 | []=>rI E fn.ntmps F h fn.results.toList (fun ps l=>K (w6 ps) h (U.cat (.rd l)))
 | [d]=>bif Nat.ble 16777216 d then (match fns (d / 16777216-1) with
  | some (gn,x)=>match sN 0 [.ptr (d%16777216) 0],fn.results.toList,gn.results.toList with
   | some G,[],[]=>bif Nat.ble 1 gn.ntmps then rY E cx false gn.ntmps (dr cx gn.ntmps β) x G h [] U (fun e _ h' jg U'=>bif yD e && jg.isEmpty then K (w6 []) h' U' else none) else none
   | _,_,_=>none
  | none=>none) else wk h.t [d] (fun t'=>rI E fn.ntmps F { h with t:=t' } fn.results.toList (fun ps l=>K (w6 ps) { h with t:=t' } ((U.cat (.wr ([d].map dy))).cat (.rd l))))
 | ds=>wk h.t ds (fun t'=>rI E fn.ntmps F { h with t:=t' } fn.results.toList (fun ps l=>K (w6 ps) { h with t:=t' } ((U.cat (.wr (ds.map dy))).cat (.rd l))))
def Ys (E:Env) (fns:FT) (dr:Cx→Nat→JV) (cx:Cx) (β:Type) (f:FuncId) (aa:List A) (h:H) (K:A→H→Fp→Option β):Option β:=match fns f with
 | some (fn,x)=>match sN 0 aa with
  | some F=>bif Nat.ble aa.length fn.ntmps then rY E cx false fn.ntmps (dr cx fn.ntmps β) x F h [] .no (fun e F' h' ds U=>bif yD e then Ln E fns dr cx fn F' h' ds U K else none) else none
  | none=>none
 | none=>none
def Ka (E:Env) (dr:Cx→Nat→JV) (cx:Cx) (β:Type) (y:A) (aa:List A) (h:H) (K:A→H→Fp→Option β):Option β:=match y with
 | .rB q n F ps _ lv bd=>match h.t.get q with
  | some (.cT (.loop .ready _))=>bif Nat.blt q 16777216 then wX F ps aa (fun F1=>rY E cx true n (dr cx n β) lv F1 h [] .no (fun e1 Fa ha mA T1=>match e1 with
   | .normal=>match ha.t.get q with
    | some (.cT (.loop .ready pe))=>fq ha.t q (some (.cT (.loop .busy pe))) (fun t2=>rY E cx true n (dr cx n β) bd Fa { ha with t:=t2 } mA .no (fun e2 _ hb _ T2=>match hb.t.get q,Qk e2 with
     | some (.cT (.loop _ _)),some jump=>fq hb.t q (some (.cT (.loop (Cj jump) jump))) (fun t3=>K (.v (.bool jump.isNone)) { hb with t:=t3 } ((T1.cat (.wr [dy q])).cat (T2.cat (.wr [dy q]))))
     | _,_=>none))
    | _=>none
   | _=>none)) else none
  | _=>none
 | _=>none
def wR (E:Env) (fns:FT) (dr:Cx→Nat→JV) (hm:List (Nat×Nat)) (cx:Cx):Cx:=⟨Ys E fns dr cx,hm,Ka E dr cx⟩
def BL (hm:List (Nat×Nat)):Cx:=⟨fun _ _ _ _ _=>none,hm,fun _ _ _ _ _=>none⟩
section
variable {P:Program} {E:Env} {n:Nat}
theorem wz:∀(aa:List A) (i:Nat) (F:Tr A),sN i aa=some F→∀j,bl F.get j=if i≤j then aa.getD (j-i) .un else .un
 | [],i,F,h,j=>by
  cases h
  simp [bl,Tr.get_nil]
 | p::ps,i,F,h,j=>by
  simp only [sN] at h
  split at h
  ·rename_i F1 h1
   have ih:=wz ps (i+1) F1 h1 j
   rw [xF] at h
   obtain ⟨_,F2,hF,hg⟩:=bz h
   cases hF
   have e:bl F.get j=if j=i then p else bl F1.get j:=by
    simp only [bl,hg]
    by_cases hj:j=i
    ·rw [if_pos hj,if_pos hj]
    ·rw [if_neg hj,if_neg hj]
   rw [e,ih]
   by_cases hj:j=i
   ·subst hj;simp
   ·rw [if_neg hj]
    by_cases hk:i≤j
    ·rw [if_pos hk,if_pos (by omega),show j-i=(j-(i+1))+1 by omega,List.getD_cons_succ]
    ·rw [if_neg hk,if_neg (by omega)]
  ·cases h
theorem C4 {P:Program} {T:Nat} {u v:Value} {ad:Addr} {w w':World} {a:Act} {o:Oper} (ho:o.op = .load T (.const u)) (hu:u = .pointer (some ad)) (h:(execOp a.eval o).run P w = .ok (.value v) w'):(loadVar T ad).run P w = .ok v w':=by
 simp only [execOp,ho,Act.eval,hu,Instr.loadAt,Instr.sureAddr,pure_bind] at h
 simp only [Sem.run_bind] at h
 generalize (loadVar T ad).run P w=res at h
 cases res with
 | ok x w1=>
  simp only [Result.andThen_ok,Sem.run_pure,Result.ok.injEq,Next.value.injEq] at h
  obtain ⟨rfl,rfl⟩:=h
  rfl
 | halt x w1=>cases h
theorem GA {β:Type} {E:Env} {T:Nat} {px:A} {h:H} {K:A→H→Fp→Option β} {r:β} (hr:KD E T px h K=some r) {g:G} {u:Value} (hv:V g px u):∃ad,u = .pointer (some ad):=by
 unfold KD at hr
 split at hr
 ·split at hr
  ·cases hv;exact ⟨_,rfl⟩
  ·cases hv;exact ⟨_,rfl⟩
  ·cases hv;exact ⟨_,rfl⟩
  ·cases hr
 ·cases hr
theorem pY {β:Type} {r:β} (hE:b0 P E) {F:Tr A} {h:H}:∀(L9:List ResultVar) (k:List A→List Nat→Option β),rI E n F h L9 k=some r →
  ∃ps l,k ps l=some r∧∀S2,Agree (.rd l) (hp h) S2→∀(g:G) (w:World) (tmps:Array Value),Inv g S2 w→(∀i,i<n→V g (bl F.get i) (tmps.getD i undef)) →
   ∃vs:List Value,(L9.mapM (fun rv=>uX rv tmps)).run P w = .ok vs w∧ps.length=vs.length∧∀(i:Nat) (p:A) (v:Value),ps[i]?=some p→vs[i]?=some v→V g p v
 | [],k,hk=>⟨[],[],hk,fun S2 _ g w tmps _ _=>⟨[],rfl,rfl,by simp⟩⟩
 | .tmp i::L9,k,hk=>by
  simp only [rI] at hk
  obtain ⟨hi,hk⟩:=aj hk
  obtain ⟨ps,l,k1,k2⟩:=pY hE L9 _ hk
  refine ⟨_,l,k1,fun S2 hA g w tmps hI hv=>?_⟩
  obtain ⟨vs,q1,q2,q3⟩:=k2 S2 hA g w tmps hI hv
  refine ⟨tmps.getD i undef::vs,?_,by simp [q2],fun k q x e1 e2=>?_⟩
  ·have:(uX (.tmp i) tmps).run P w = .ok (tmps.getD i undef) w:=rfl
   rw [List.mapM_cons]
   simp only [Sem.run_bind,this,Result.andThen_ok]
   rw [q1]
   simp only [Result.andThen_ok,Sem.run_pure]
  ·cases k with
   | zero=>
    simp only [List.getElem?_cons_zero,zI] at e1 e2
    subst e1 e2
    exact hv i (bf hi)
   | succ k=>exact q3 k q x (by simpa using e1) (by simpa using e2)
 | .cell a T::L9,k,hk=>by
  simp only [rI] at hk
  obtain ⟨hi,hk⟩:=aj hk
  obtain ⟨v,l1,k0,kv⟩:=C6 hE hk
  obtain ⟨ps,l,k1,k2⟩:=pY hE L9 _ k0
  refine ⟨_,_,k1,fun S2 hA g w tmps hI hv=>?_⟩
  have hA:Agree (.rd (l1++l)) (hp h) S2:=hA
  obtain ⟨vs,q1,q2,q3⟩:=k2 S2 (hA.mono fun i hi=>zS _ hi) g w tmps hI hv
  have hva:=hv a (bf hi)
  obtain ⟨ad,had⟩:=GA hk hva
  obtain ⟨x, u1, u2⟩ := kv S2 (hA.mono fun i hi => zQ _ hi) { dst := none, op := .load T (.const (tmps.getD a undef)), type := 0, pos := "", after := #[], guard := none } (fun _ => bl F.get a) (.const (tmps.getD a undef)) rfl rfl g w { tmps := #[], defers := [] } hI (fun y hy => by
   simp only [Op.operands,Array.mem_singleton] at hy
   subst hy;exact hva)
  have eX:(uX (.cell a T) tmps).run P w = .ok x w:=by
   have:=C4 rfl had u1
   show (do loadVar T (←asAddr (tmps.getD a undef)):Sem Value).run P w=_
   rw [had]
   exact this
  refine ⟨x::vs,?_,by simp [q2],fun k q y e1 e2=>?_⟩
  ·rw [List.mapM_cons]
   simp only [Sem.run_bind,eX,Result.andThen_ok]
   rw [q1]
   simp only [Result.andThen_ok,Sem.run_pure]
  ·cases k with
   | zero=>
    simp only [List.getElem?_cons_zero,zI] at e1 e2
    subst e1 e2
    exact u2
   | succ k=>exact q3 k q y (by simpa using e1) (by simpa using e2)
theorem Inv.drop {g:G} {S:Hp} {w:World} (h:Inv g S w) {d b:Nat} {s:Nat×Nat} (ho:S.ob d=some (.cT .y7)) (hg:g.bu d=some (some b,s)) :
  w.heap[b]?=some (.deferred (some []))∧Inv g (S.del d) (w.putObj b (.deferred none))∧Ext S g w (S.del d) g (w.putObj b (.deferred none)):=by
 obtain ⟨b1,s1,ob,k1,k2,k3⟩:=h.cT d _ ho
 rw [hg] at k1
 obtain ⟨rfl,rfl⟩:b=b1∧s=s1:=by simpa using k1
 have k3:ob = .deferred (some []):=k3
 subst k3
 have kI:∀{i x},(S.del d).ob i=some x→i≠d∧S.ob i=some x:=fun {i x} e=>by
  have e:(if i=d then none else S.ob i)=some x:=e
  split at e
  ·cases e
  ·exact ⟨by assumption,e⟩
 have Dx:∀k,k≠b→(w.putObj b (.deferred none)).heap[k]?=w.heap[k]?:=fun k jN=>World.putObj_heap_other jN
 refine ⟨k2,⟨fun i cs e=>?_,fun i x e=>?_,fun i e=>h.fresh i e,fun i b' s' e=>by rw [World.putObj_size];exact h.lt i b' s' e,fun i j x y b1 s1 s2 e1 e2=>h.inj i j _ _ b1 s1 s2 (kI e1).2 (kI e2).2,fun b' i x e=>?_,fun i b' s' j x e k=>h.lG i b' s' j _ (kI e).2 k,fun b' l e=>?_⟩,
  ⟨.refl g,rfl,rfl,rfl,by rw [World.putObj_size];exact Nat.le_refl _,fun k _ hn=>Dx k (fun hh=>hn ⟨d,s,_,ho,by rw [hh];exact hg⟩),fun k ⟨i,s',x,e1,e2⟩=>.inl ⟨i,s',x,(kI e1).2,e2⟩,fun _ _ e=>.inl e,fun _ e=>e,fun _ _ _ e=>.inl e,fun _ _ e=>.inl e⟩⟩
 ·obtain ⟨jN,e⟩:=kI e
  refine (h.cells i cs e).imp id fun ⟨b1,t,q1,cur,ty,q2,q3⟩=>⟨b1,t,q1,cur,ty,?_,q3⟩
  rw [Dx b1 (fun hb=>by subst hb;rw [k2] at q2;cases q2)];exact q2
 ·obtain ⟨jN,e⟩:=kI e
  obtain ⟨b1,s1,o1,q1,q2,q3⟩:=h.cT i x e
  exact ⟨b1,s1,o1,q1,by rw [Dx b1 (fun hb=>by subst hb;exact jN (h.inj i d _ _ b1 s1 s e ho q1 hg))];exact q2,q3⟩
 ·obtain ⟨cur,ty,fz,q1,q2⟩:=h.mem b' i x e
  exact ⟨cur,ty,fz,by rw [Dx b' (fun hb=>by subst hb;rw [k2] at q1;cases q1)];exact q1,q2⟩
 ·obtain ⟨r,q1,q2⟩:=h.lp b' l e
  exact ⟨r,by rw [Dx b' (fun hb=>by subst hb;rw [k2] at q1;cases q1)];exact q1,q2⟩
theorem wj {β:Type} {r:β} {h:H}:∀(ds:List Nat) (t:Tr gF) (k:Tr gF→Option β),wk t ds k=some r→∃t',k t'=some r∧nK { h with t:=t } { h with t:=t' } (.wr (ds.map dy)) ∧
  ∀(fn:Func) (tmps:Array Value) (Rr:Ending→World→Prop) S2,Agree (.wr (ds.map dy)) (hp { h with t:=t }) S2→∀(g:G) (w:World) (l:List Deferred),Inv g S2 w→nj g ds l →
   (∀w',Inv g (ja (.wr (ds.map dy)) (hp { h with t:=t' }) S2) w'→Ext S2 g w (ja (.wr (ds.map dy)) (hp { h with t:=t' }) S2) g w'→∃v,(results fn tmps).run P w' = .ok v w'∧Rr (.returned v) w')→LeavesInM (FR none) 0 P fn tmps Rr l .returning w
 | [],t,k,hk=>⟨t,hk,⟨fun _ _=>⟨rfl,Iff.rfl⟩,fun _ _=>⟨rfl,Iff.rfl⟩⟩,fun fn tmps Rr S2 hA g w l hI hd K=>by
  obtain rfl:l=[]:=List.length_eq_zero_iff.1 (by have:=hd.1;simpa using this.symm)
  have e:ja (.wr (List.map dy [])) (hp { h with t:=t }) S2=S2:=mf hA
  rw [e] at K
  exact K w hI (.refl _ g w)⟩
 | d::ds,t,k,hk=>by
  have hk:(match t.get d with | some (.cT .y7)=>_ | _=>none)=some r:=hk
  split at hk
  ·rename_i fc
   obtain ⟨RQ,hk⟩:=aj hk
   have RQ:=bf RQ
   obtain ⟨_,t1,k1,Ru⟩:=bz hk
   obtain ⟨t',q1,q2,q3⟩:=wj (h:=h) ds t1 k k1
   obtain ⟨f1,v1⟩:=y8 (h:={ h with t:=t }) RQ Ru
   have ec:(Fp.wr [dy d]).cat (.wr (ds.map dy)) = .wr ((d::ds).map dy):=rfl
   have f1:nK { h with t:=t } { h with t:=t1 } (.wr [dy d]):=f1
   refine ⟨t',q1,ec▸f1.trans q2,fun fn tmps Rr S2 hA g w l hI hd K=>?_⟩
   rw [←ec] at hA K
   rw [←g4 q2] at K
   have A1:=hA.left
   have A2:=Agree.right f1 hA
   have v1:=v1 S2 A1
   have v1:ja (.wr [dy d]) (hp { h with t:=t1 }) S2=S2.del d:=v1
   rw [v1] at A2 K
   cases l with
   | nil=>have:=hd.1;simp at this
   | cons el l=>
    obtain ⟨b,s,hg,rfl⟩:=(hd.2 0 d el rfl rfl).1 RQ
    obtain ⟨u1,u2,u3⟩:=hI.drop (zi (x:=.cT .y7) RQ fc A1 (.head _)) hg
    refine ⟨by simp,.inl ⟨b,_,rfl,run_takeDeferred u1,?_⟩⟩
    exact q3 fn tmps Rr _ A2 g _ l u2 ⟨by have:=hd.1;simpa using this,fun i d el e1 e2=>hd.2 (i+1) d el (by simpa using e1) (by simpa using e2)⟩ (fun w' z1 z2=>K w' z1 (u3.trans z2))
  ·cases hk
theorem Uu {g:G} {aa:List A} {vs:List Value} {F:Tr A} {N:Nat} (Ym:sN 0 aa=some F) (hl:aa.length=vs.length) (hn:aa.length≤N) (hv:∀(i:Nat) (p:A) (v:Value),aa[i]?=some p→vs[i]?=some v→V g p v) {S2:Hp} {w:World} (hI:Inv g S2 w) :
  R S2 g w (fN N F [] S2) { tmps:=vs.toArray++Array.replicate (N-vs.toArray.size) undef,defers:=[] } w:=by
 have oS:(vs.toArray++Array.replicate (N-vs.toArray.size) undef).size=N:=by simp;omega
 refine ⟨g,hI,.refl _ g w,⟨rfl,fun i d el e1=>by simp [fN] at e1⟩,oS,fun i hi=>?_⟩
 show V g (bl F.get i) ((vs.toArray++Array.replicate (N-vs.toArray.size) undef).getD i undef)
 rw [wz aa 0 F Ym i,if_pos (Nat.zero_le i),Nat.sub_zero,Array.getD_eq_getD_getElem?]
 by_cases hia:i<aa.length
 ·rw [Array.getElem?_append_left (by simp;omega)]
  have h1:aa[i]?=some aa[i]:=zD hia
  have h2 : vs[i]? = some (vs[i]'(by omega)) := zD (by omega)
  have:=hv i _ _ h1 h2
  simpa [List.getD,h1,h2] using this
 ·rw [Array.getElem?_append_right (by simp;omega)]
  have h1:aa[i]?=none:=zb (by omega)
  have h2:(Array.replicate (N-vs.toArray.size) undef)[i-vs.toArray.size]?.getD undef=undef:=by
   cases hx:(Array.replicate (N-vs.toArray.size) undef)[i-vs.toArray.size]? with
   | none=>rfl
   | some x=>
    obtain ⟨eY,nP⟩:=Array.getElem?_eq_some_iff.1 hx
    rw [←nP];simp
  rw [h2]
  simp only [List.getD,h1,Option.getD_none]
  exact .un
structure ES (P:Program) (fn:Func) (F:Tr A) (h:H) (ds:List Nat) (h':H) (T:Fp) (pv:A):Prop where
 fr:nK h h' T
 ok:∀S2,Agree T (hp h) S2→∀(g:G) (w:World) (a:Act),Inv g S2 w→nj g ds a.defers→(∀i,i<fn.ntmps→V g (bl F.get i) (a.tmps.getD i undef)) →
  LeavesInM (FR none) 0 P fn a.tmps (fun e w2=>∃v g',e = .returned v∧V g' pv v∧Inv g' (ja T (hp h') S2) w2∧Ext S2 g w (ja T (hp h') S2) g' w2) a.defers .returning w
theorem D8 (hE:b0 P E) {β:Type} {fn:Func} {F':Tr A} {h':H} {jg:List Nat} {U:Fp} {K:A→H→Fp→Option β} {r:β}
  (k1:wk h'.t jg (fun t'=>rI E fn.ntmps F' { h' with t:=t' } fn.results.toList (fun ps l=>K (w6 ps) { h' with t:=t' } ((U.cat (.wr (jg.map dy))).cat (.rd l))))=some r) :
  ∃pv h2 T,K pv h2 (U.cat T)=some r∧ES P fn F' h' jg h2 T pv:=by
 obtain ⟨t',k5,k6,k7⟩:=wj (P:=P) (h:=h') jg h'.t _ k1
 obtain ⟨ps,l,k8,k9⟩:=pY (P:=P) hE _ _ k5
 have f3:nK { h' with t:=t' } { h' with t:=t' } (.rd l):=⟨fun _ _=>⟨rfl,Iff.rfl⟩,fun _ _=>⟨rfl,Iff.rfl⟩⟩
 have k6:nK h' { h' with t:=t' } (.wr (jg.map dy)):=k6
 refine ⟨_,_,(Fp.wr (jg.map dy)).cat (.rd l),by rw [←Fp.jS];exact k8,k6.trans f3,fun S2 hA g w a hI hd hv=>?_⟩
 have A2:Agree (.wr (jg.map dy)) (hp h') S2:=hA.left
 have A3:=Agree.right k6 hA
 rw [←g4 f3,mf A3]
 refine k7 fn a.tmps _ _ A2 g w a.defers hI hd (fun w2 i2 x2=>?_)
 obtain ⟨us,u1,u2,u3⟩:=k9 _ A3 g w2 a.tmps i2 hv
 have eX:=ko (P:=P) (fn:=fn) u1
 refine ⟨_,eX,_,g,rfl,?_,i2,x2⟩
 match ps,us,u2,u3 with
 | [p],[u],_,u3=>exact u3 0 p u rfl rfl
 | [],[],_,_=>exact .jD [] #[] rfl (by simp)
 | p::q::ps,u::v::us,u2,u3=>
  rw [dif_neg (by simp)]
  exact .jD _ _ (by simpa using u2) (fun i c x e1 e2=>u3 i c x e1 (by simpa using e2))
theorem Lm (hE:b0 P E) {β:Type} {fn:Func} {F':Tr A} {h':H} {U:Fp} {K:A→H→Fp→Option β} {r:β}
  (k1:rI E fn.ntmps F' h' fn.results.toList (fun ps l=>K (w6 ps) h' (U.cat (.rd l)))=some r) :
  ∃pv h2 T,K pv h2 (U.cat T)=some r∧ES P fn F' h' [] h2 T pv:=by
 obtain ⟨ps,l,k8,k9⟩:=pY (P:=P) hE _ _ k1
 have f3:nK h' h' (.rd l):=⟨fun _ _=>⟨rfl,Iff.rfl⟩,fun _ _=>⟨rfl,Iff.rfl⟩⟩
 refine ⟨_,_,.rd l,k8,f3,fun S2 hA g w a hI hd hv=>?_⟩
 rw [mf hA]
 have sF:a.defers=[]:=List.length_eq_zero_iff.1 (by have:=hd.1;simpa using this.symm)
 rw [sF]
 obtain ⟨us,u1,u2,u3⟩:=k9 _ hA g w a.tmps hI hv
 have eX:=ko (P:=P) (fn:=fn) u1
 refine ⟨_,eX,_,g,rfl,?_,hI,.refl _ g w⟩
 match ps,us,u2,u3 with
 | [p],[u],_,u3=>exact u3 0 p u rfl rfl
 | [],[],_,_=>exact .jD [] #[] rfl (by simp)
 | p::q::ps,u::v::us,u2,u3=>
  rw [dif_neg (by simp)]
  exact .jD _ _ (by simpa using u2) (fun i c x e1 e2=>u3 i c x e1 (by simpa using e2))
theorem Hi (hE:b0 P E) {fns:FT} (hF:wF P fns) {dr:Cx→Nat→JV} {cx:Cx} (hx:lq P cx) (rV:∀n β,Bq P n (dr cx n β)) {β:Type} {fn:Func} {F':Tr A} {h':H} {jg:List Nat} {U:Fp} {K:A→H→Fp→Option β} {r:β}
  (k1:Ln E fns dr cx fn F' h' jg U K=some r):∃pv h2 T,K pv h2 (U.cat T)=some r∧ES P fn F' h' jg h2 T pv:=by
 unfold Ln at k1
 split at k1
 ·exact Lm hE k1
 ·rename_i d
  cases hb:Nat.ble 16777216 d with
  | false=>rw [hb] at k1;exact D8 hE k1
  | true=>
   rw [hb] at k1
   have hb:=Nat.le_of_ble_eq_true hb
   simp only [cond_true] at k1
   split at k1
   ·rename_i gn x hg
    have RJ:=hF _ gn x hg
    split at k1
    ·rename_i Gt hGa KO XJ
     obtain ⟨hn,k1⟩:=aj k1
     have hn:=Nat.le_of_ble_eq_true hn
     obtain ⟨e,F2,h2,y6,T,k2,_,k3,k4⟩:=iR hE hx (rV gn.ntmps β) x Gt h' [] _ _ k1
     obtain ⟨k5,k6⟩:=aj k2
     clear k2
     simp only [zC] at k5
     obtain rfl:y6=[]:=by simpa using k5.2
     refine ⟨_,_,T,k6,k3,fun S2 hA g w a hI hd hv=>?_⟩
     match afB:a.defers,hd with
     | [el],hd=>
      obtain ⟨v,v1,v2⟩:=(hd.2 0 d el rfl rfl).2 hb
      subst v2
      refine ⟨by simp,.inr ⟨fun h=>by simp [FR,Fence.wide] at h,.func (d / 16777216-1),#[],d / 16777216-1,#[v],rfl,?_,fun _ _=>trivial,?_⟩⟩
      ·have X8:uC P (d / 16777216-1):=⟨gn,RJ.bu,RJ.name,by rw [RJ.body];rfl⟩
       show (callFunc (d / 16777216-1) (#[v] ++ #[])).run P w=_
       exact X8.run _ w
      ·refine CallsDIn.mono (callsDIn_of_wp (R:=fun e w2=>e = .returned (.tuple #[])∧∃g',Inv g' (ja T (hp h2) S2) w2∧Ext S2 g w (ja T (hp h2) S2) g' w2) RJ.bu RJ.body trivial ?_) ?_
       ·have d0:=k4 none (fun _=>rfl) S2 g w S2 hA (fun e1 st=>e1=e∧st=fN gn.ntmps F2 [] (ja T (hp h2) S2)) ⟨rfl,rfl⟩
        have Yk:=Uu (g:=g) (vs:=[v]) hGa rfl (by simpa using hn) (fun i p u e1 e2=>by
         cases i with
         | zero=>cases e1;cases e2;exact v1
         | succ i=>cases e1) hI
        refine wpIn_mono (d0 _ w Yk) ?_
        rintro e1 a2 w2 ⟨st,hR,rfl,rfl⟩
        obtain ⟨g1,i1,x1,d1,s1,_⟩:=hR
        have sF:a2.defers=[]:=List.length_eq_zero_iff.1 (by have:=d1.1;simpa [fN] using this.symm)
        have GL:(results gn a2.tmps).run P w2 = .ok (.tuple #[]) w2:=by
         have:=ko (P:=P) (fn:=gn) (tmps:=a2.tmps) (vs:=[]) (w:=w2) (by rw [XJ];rfl)
         exact this
        cases e1 with
        | normal=>exact ⟨sF,_,GL,rfl,g1,i1,x1⟩
        | ret=>exact ⟨sF,_,GL,rfl,g1,i1,x1⟩
        | _=>exact absurd k5.1 (by simp [yD])
       ·rintro e1 u' w2 ⟨rfl,rfl,g',i1,x1⟩
        have GL:(results fn a.tmps).run P w2 = .ok (.tuple #[]) w2:=by
         have:=ko (P:=P) (fn:=fn) (tmps:=a.tmps) (vs:=[]) (w:=w2) (by rw [KO];rfl)
         exact this
        exact ⟨_,GL,_,g',rfl,.jD [] #[] rfl (by simp),i1,x1⟩
     | [],hd=>exact absurd hd.1 (by simp)
     | _::_::_,hd=>exact absurd hd.1 (by simp)
    ·cases k1
   ·cases k1
 ·exact D8 hE k1
theorem iw {F:Fence} {n:Nat} {fn:Func} {tmps:Array Value} {R R':Ending→World→Prop} (hr:∀e w,R e w→R' e w):∀(ds:List Deferred) (u:FrameMode) (w:World),LeavesInM F n P fn tmps R ds u w→LeavesInM F n P fn tmps R' ds u w
 | [],u,w,h=>by
  cases u with
  | run=>exact h
  | returning=>obtain ⟨v,h1,h2⟩:=h;exact ⟨v,h1,hr _ _ h2⟩
  | panicking c=>exact hr _ _ h
 | d::ds,u,w,h=>by
  obtain ⟨h0,h⟩:=h
  refine ⟨h0,?_⟩
  rcases h with ⟨r,w',h1,h2,h3⟩ | ⟨h1,fv,cap,f,args,h2,h3,h4,h5⟩
  ·exact .inl ⟨r,w',h1,h2,iw hr ds u w' h3⟩
  ·refine .inr ⟨h1,fv,cap,f,args,h2,h3,h4,h5.mono ?_⟩
   intro e u' w' he
   cases e with
   | returned v=>exact iw hr ds _ _ he
   | panicked c=>exact iw hr ds _ _ he
   | outgrown=>exact hr _ _ he
theorem K8 (hE:b0 P E) {fns:FT} (hF:wF P fns) {dr:Cx→Nat→JV} {cx:Cx} (hx:lq P cx) (rV:∀n β,Bq P n (dr cx n β)) {β:Type} {f:FuncId} {aa:List A} {h:H} {K:A→H→Fp→Option β} {r:β} (hr:Ys E fns dr cx β f aa h K=some r) :
  ∃pv h' T,K pv h' T=some r∧sP P f aa h h' T pv:=by
 unfold Ys at hr
 split at hr
 ·rename_i fn x hf
  have GU:=hF f fn x hf
  split at hr
  ·rename_i F Ym
   obtain ⟨hn,hr⟩:=aj hr
   have hn:=Nat.le_of_ble_eq_true hn
   obtain ⟨e,F',h',jg,T0,k1,_,k2,k3⟩:=iR hE hx (rV fn.ntmps β) x F h [] .no _ hr
   rw [Fp.o8] at k1
   obtain ⟨k4,k1⟩:=aj k1
   obtain ⟨pv,h2,T,k8,k6,k7⟩:=Hi (P:=P) hE hF hx rV k1
   have f12:nK h h2 (T0.cat T):=k2.trans k6
   refine ⟨_,_,_,k8,f12.out,f12.rd,⟨fn,GU.bu,GU.name,by rw [GU.body];rfl⟩,fun S2 hA g w vs hI hl hv=>?_⟩
   have A1:=hA.left
   have A2:Agree T (hp h') _:=Agree.right k2 hA
   rw [←g4 k6]
   have d:=k3 none (fun _=>rfl) S2 g w S2 A1 (fun e1 st=>e1=e∧st=fN fn.ntmps F' jg (ja T0 (hp h') S2)) ⟨rfl,rfl⟩
   refine (callsIn_wide (n:=0)).1 (callsIn_of_wp_marks (F:=FR none) GU.bu GU.body trivial ?_)
   refine wpIn_mono (d _ w (Uu Ym hl hn hv hI)) ?_
   rintro e1 a w' ⟨st,hR,rfl,rfl⟩
   obtain ⟨g1,i1,x1,d1,s1,v1⟩:=hR
   have key:LeavesInM (FR none) 0 P fn a.tmps (fun e w2=>∃v g',e = .returned v∧V g' pv v∧Inv g' (ja T (hp h2) (ja T0 (hp h') S2)) w2∧Ext S2 g w (ja T (hp h2) (ja T0 (hp h') S2)) g' w2) a.defers .returning w':=by
    refine iw ?_ _ _ _ (k7 _ A2 g1 w' a i1 d1 v1)
    rintro e w2 ⟨v,g',q1,q2,q3,q4⟩
    exact ⟨v,g',q1,q2,q3,x1.trans q4⟩
   cases e1 with
   | normal=>exact key
   | ret=>exact key
   | _=>exact absurd k4 (by simp [yD])
  ·cases hr
 ·cases hr
theorem FH (hE:b0 P E) {dr:Cx→Nat→JV} {cx:Cx} (hx:lq P cx) (rV:∀n β,Bq P n (dr cx n β)) {β:Type} {y:A} {aa:List A} {h:H} {K:A→H→Fp→Option β} {r:β} (hr:Ka E dr cx β y aa h K=some r) :
  ∃pv h' T,K pv h' T=some r∧JS P y aa h h' T pv:=by
 unfold Ka at hr
 split at hr
 ·rename_i q n F ps j lv bd
  split at hr
  ·rename_i pe0 hq0
   obtain ⟨hq,hr⟩:=aj hr
   have hq:=bf hq
   obtain ⟨F1,hr,hlen,Dp⟩:=sm _ _ _ _ hr
   obtain ⟨e1,Fa,ha,mA,T1,hr,_,f1,d1⟩:=iR hE hx (rV n β) lv F1 h [] .no _ hr
   rw [Fp.o8] at hr
   split at hr
   ·split at hr
    ·rename_i pe hqa
     obtain ⟨_,t2,hr,XC⟩:=bz hr
     obtain ⟨e2,Fb,hb,y6,T2,hr,_,f3,d2⟩:=iR hE hx (rV n β) bd Fa _ mA .no _ hr
     rw [Fp.o8] at hr
     split at hr
     ·rename_i st3 pe3 jump hqb hj
      obtain ⟨_,t3,hr,ht3⟩:=bz hr
      obtain ⟨f2,v2⟩:=yd (h:=ha) hq XC
      obtain ⟨f4,v4⟩:=yd (h:=hb) hq ht3
      have f12:=f1.trans f2
      have f34:=f3.trans f4
      have ft:=f12.trans f34
      refine ⟨_,_,_,hr,ft.out,ft.rd,fun S2 hA g w u vs hI hu hl hv=>?_⟩
      have DL:=hA.left
      have xv:=Agree.right f12 hA
      rw [←g4 f34,←g4 f4]
      rw [←g4 f2] at xv ⊢
      have A1:=DL.left
      have A2:=Agree.right f1 DL
      have A3:=xv.left
      have A4:=Agree.right f3 xv
      have eg:=zi (x:=.cT (.loop .ready pe)) hq hqa A2 (.head _)
      have vK:=zi (x:=.cT (.loop st3 pe3)) hq hqb A4 (.head _)
      have GQ:S2.ob q=some (.cT (.loop .ready pe0))∨True:=.inr trivial
      rw [v4 _ A4]
      rw [v2 _ A2] at A3 A4 vK ⊢
      cases hu with
      | rB _ _ _ _ _ _ _ b s lp h0 XS h1 h2 h3 h4 h5=>
      obtain ⟨rr,r1,r2⟩:=hI.lp b lp XS
      subst r2
      refine ⟨b,rr,rfl,r1,?_,?_⟩
      ·rw [←hl,hlen,←h1];simp [tH]
      have TH:(rr.params.zip vs.toArray).foldl (fun tmps (t,a)=>tmps.setIfInBounds t a) rr.tmps=(ps.zip vs).foldl (fun tmps x=>tmps.setIfInBounds x.1 x.2) rr.tmps:=by
       rw [←Array.foldl_toList,Array.toList_zip,←h1];rfl
      rw [TH]
      obtain ⟨z1,z2⟩:=Dp g n vs rr.tmps hl hv h4 h5
      generalize (ps.zip vs).foldl (fun tmps x=>tmps.setIfInBounds x.1 x.2) rr.tmps=T at z1 z2
      have h2:rr.assign=lv.code:=h2
      have h3:rr.body=bd.code:=h3
      rw [h2,h3]
      refine roundIn_of_wpIn trivial ?_
      show lv.code.wpIn (FR (some b)) 0 P _ _ _
      have Yk:R S2 g w (fN n F1 [] S2) { tmps:=T,defers:=[] } w:=⟨g,hI,.refl _ g w,⟨rfl,fun i d el e1=>by simp [fN] at e1⟩,z1,z2⟩
      refine wpIn_mono (d1 (some b) (fun h=>by cases h) S2 g w S2 A1 (fun e st=>e = .normal∧st=fN n Fa mA (ja T1 (hp ha) S2)) ⟨rfl,rfl⟩ _ w Yk) ?_
      rintro e1 a1 w1 ⟨st,Yj,rfl,rfl⟩
      obtain ⟨g1,i1,x1,Yc,KN,E8⟩:=Yj
      have i1:Inv g1 (ja T1 (hp ha) S2) w1:=i1
      obtain ⟨b1,s1,ob1,q1,q2,q3⟩:=i1.cT q _ eg
      have RV:=x1.le.bu _ _ h0
      rw [q1] at RV
      obtain ⟨rfl,rfl⟩:b1=b∧s1=s:=by simpa using RV
      obtain ⟨UK,rfl,u1,u2⟩:=q3
      obtain ⟨i2,x2⟩:=i1.B9 (zt:=.busy) (Kj:=UK.pending) eg q1 q2
      rw [u2] at i2 x2
      refine ⟨_,run_beginRound q2 u1,?_⟩
      show bd.code.wpIn (FR (some b1)) 0 P _ _ _
      have eb:({ UK with state:=.busy }:Loop)={ UK with state:=.busy,pending:=pe }:=by rw [←u2]
      rw [eb]
      refine wpIn_mono (d2 (some b1) (fun h=>by cases h) S2 g w _ A3 (fun e st=>e=e2∧st=fN n Fb y6 (ja T2 (hp hb) ((ja T1 (hp ha) S2).set q (.cT (.loop .busy pe))))) ⟨rfl,rfl⟩ a1 _ ⟨g1,i2,x1.trans x2,Yc,KN,E8⟩) ?_
      rintro TJ a2 w3 ⟨st,hR3,rfl,rfl⟩
      obtain ⟨g3,i3,x3,_,_,_⟩:=hR3
      obtain ⟨b3,s3,ob3,p1,p2,p3⟩:=i3.cT q _ vK
      have RU:=x3.le.bu _ _ h0
      rw [p1] at RU
      obtain ⟨rfl,rfl⟩:b3=b1∧s3=s1:=by simpa using RU
      obtain ⟨rr3,rfl,w1',w2'⟩:=p3
      have fin:∀jc:Option Code,Qk TJ=some jc→∃v w4,(Instr.endRound b3 jc).run P w3 = .ok v w4∧∃v' g',Ending.returned v = .returned v'∧V g' (.v (.bool jump.isNone)) v'∧Inv g' ((ja T2 (hp hb) ((ja T1 (hp ha) S2).set q (.cT (.loop .busy pe)))).set q (gF.cT (.loop (Cj jump) jump)).low) w4∧Ext S2 g w ((ja T2 (hp hb) ((ja T1 (hp ha) S2).set q (.cT (.loop .busy pe)))).set q (gF.cT (.loop (Cj jump) jump)).low) g' w4:=by
       intro jc hj'
       rw [hj] at hj'
       obtain rfl:=Option.some.inj hj'
       have xt:=run_endRound (P:=P) jump p2
       have est:(if jump.isNone=true then LoopState.ready else LoopState.done)=Cj jump:=by cases jump<;>rfl
       rw [est] at xt
       obtain ⟨i4,x4⟩:=i3.B9 (zt:=Cj jump) (Kj:=jump) vK p1 p2
       exact ⟨_,_,xt,_,g3,rfl,.v _,i4,x3.trans x4⟩
      cases TJ with
      | normal=>exact fin none rfl
      | ret=>exact fin _ rfl
      | exit id=>exact fin _ rfl
      | goto l=>cases hj
      | panic c=>cases hj
      | outgrown=>cases hj
     ·cases hr
    ·cases hr
   ·cases hr
  ·cases hr
 ·cases hr
theorem sk (hE:b0 P E) {fns:FT} (hF:wF P fns) {dr:Cx→Nat→JV} {hm:List (Nat×Nat)} {cx:Cx} (hx:lq P cx) (rV:∀n β,Bq P n (dr cx n β)):lq P (wR E fns dr hm cx):=
 ⟨fun _ _ _ _ _ _ h=>K8 hE hF hx rV h,fun _ _ _ _ _ _ h=>FH hE hx rV h⟩
theorem zn (hm:List (Nat×Nat)):lq P (BL hm):=⟨fun _ _ _ _ _ r h=>(by have h:(none:Option _)=some r:=h;cases h),fun _ _ _ _ _ r h=>(by have h:(none:Option _)=some r:=h;cases h)⟩
end
end
section
open Go.RowKit
def cf (T U:Fp):Bool:=(T.w || U.w) && (T.all || U.all || T.rs.any fun a=>U.rs.any (Nat.beq a))
def Kd (ops:Array Oper):Nat→Nat→Nat→Bool
 | 0,_,_=>false
 | f+1,i,j=>dep ops i j || (List.range i).any fun m=>dep ops i m && Kd ops f m j
theorem qC {ops:Array Oper} {L:Nat→Bool} (hd:∀k j,L k=true→dep ops k j=true→L j=true):∀(f k j:Nat),L k=true→Kd ops f k j=true→L j=true
 | 0,_,_,_,h=>by cases h
 | f+1,k,j,hk,h=>by
  simp only [Kd,Bool.or_eq_true,List.any_eq_true,zC] at h
  rcases h with h | ⟨m,_,h1,h2⟩
  ·exact hd k j hk h
  ·exact qC hd f m j (hd k m hk h1) h2
theorem FK {ops:Array Oper} {L:Nat→Bool} {i:Nat} (h:Fs ops i L):∀(f j:Nat),Kd ops f i j=true→L j=true
 | 0,_,h=>by cases h
 | f+1,j,hr=>by
  simp only [Kd,Bool.or_eq_true,List.any_eq_true,zC] at hr
  rcases hr with hr | ⟨m,_,h1,h2⟩
  ·exact h.Hk j hr
  ·exact qC h.down f m j (h.Hk m h1) h2
def indep (ops:Array Oper) (m:Nat) (Ts:List Fp):Bool:=(List.range m).all fun i=>(List.range i).all fun j=>!(cf (Ts.getD j .no) (Ts.getD i .no)) || Kd ops m i j
theorem JN {T U:Fp} {x:Nat} (h1:aK T x=true) (h2:aK U x=true) (hw:T.w=true∨U.w=true):cf T U=true:=by
 unfold cf
 rw [zC]
 refine ⟨by rcases hw with h | h<;>simp [h],?_⟩
 unfold aK at h1 h2
 simp only [Bool.or_eq_true,List.any_eq_true] at h1 h2 ⊢
 rcases h1 with h1 | ⟨a,ha,h1⟩
 ·exact .inl (.inl h1)
 ·rcases h2 with h2 | ⟨b,hb,h2⟩
  ·exact .inl (.inr h2)
  ·exact .inr ⟨a,ha,b,hb,by rw [←beq_eq h1,←beq_eq h2];exact Nat.beq_refl _⟩
def m4 (S:Hp) (x:Nat):Option Ob×Prop:=(S.ob x,S.fr x)
theorem qf {S S':Hp} (h:∀x,m4 S x=m4 S' x):S=S':=Hp.ext' (fun i=>congrArg Prod.fst (h i)) (fun i=>by have:=congrArg Prod.snd (h i);exact Iff.of_eq this)
def wO (T:Fp) (H S:Hp):Hp:=bif T.w then ja T H S else S
theorem zg (T:Fp) (H S:Hp) (x:Nat):m4 (wO T H S) x=if (T.w && aK T x)=true then m4 H x else m4 S x:=by
 unfold wO
 cases hw:T.w with
 | false=>simp
 | true=>
  simp only [cond_true,Bool.true_and]
  show (if aK T x=true then H.ob x else S.ob x,if aK T x=true then H.fr x else S.fr x)=_
  cases aK T x<;>rfl
def lU (L:Nat→Bool):List (Fp×Hp)→Nat→Hp→Hp
 | [],_,S=>S
 | (T,H)::r,j,S=>lU L r (j+1) (bif L j then wO T H S else S)
def fx (L:Nat→Bool) (x:Nat):List (Fp×Hp)→Nat→Option Ob×Prop→Option Ob×Prop
 | [],_,v=>v
 | (T,H)::r,j,v=>fx L x r (j+1) (if (L j && (T.w && aK T x))=true then m4 H x else v)
theorem iT (L:Nat→Bool) (x:Nat):∀(r:List (Fp×Hp)) (j:Nat) (S:Hp),m4 (lU L r j S) x=fx L x r j (m4 S x)
 | [],_,_=>rfl
 | (T,H)::r,j,S=>by
  unfold lU fx
  rw [iT L x r]
  congr 1
  cases hl:L j with
  | true=>simp only [cond_true,Bool.true_and];exact zg T H S x
  | false=>simp
theorem mo {L L':Nat→Bool} {x:Nat}:∀(r:List (Fp×Hp)) (j:Nat) (v:Option Ob×Prop),(∀m T H,r[m]?=some (T,H)→(T.w && aK T x)=true→L (j+m)=L' (j+m))→fx L x r j v=fx L' x r j v
 | [],_,_,_=>rfl
 | (T,H)::r,j,v,h=>by
  unfold fx
  have e:(if (L j && (T.w && aK T x))=true then m4 H x else v)=(if (L' j && (T.w && aK T x))=true then m4 H x else v):=by
   cases hw:(T.w && aK T x) with
   | false=>simp
   | true=>rw [show L j=L' j from h 0 T H rfl hw]
  rw [e]
  exact mo r (j+1) _ (fun m T' H' hm hw=>by have:=h (m+1) T' H' (by simpa using hm) hw;rwa [show j+(m+1)=j+1+m by omega] at this)
def zk (H0:Hp) (rs:List (Fp×Hp)):Nat→Hp
 | 0=>H0
 | m+1=>match rs[m]? with
  | some q=>q.2
  | none=>H0
def kC (H0:Hp) (rs:List (Fp×Hp)):Prop:=∀m T H,rs[m]?=some (T,H)→(∀x,aK T x=false→m4 H x=m4 (zk H0 rs m) x)∧(T.w=false→H=zk H0 rs m)
theorem kh {H0:Hp} {q:Fp×Hp} {rs:List (Fp×Hp)} (m:Nat) (hm:m≤rs.length):zk H0 (q::rs) (m+1)=zk q.2 rs m:=by
 cases m with
 | zero=>rfl
 | succ m=>
  show (match (q::rs)[m+1]? with | some q=>q.2 | none=>H0)=(match rs[m]? with | some q'=>q'.2 | none=>q.2)
  rw [List.getElem?_cons_succ,zD (show m<rs.length by omega)]
theorem kC.tail {H0:Hp} {q:Fp×Hp} {rs:List (Fp×Hp)} (h:kC H0 (q::rs)):kC q.2 rs:=fun m T H hm=>by
 have:=h (m+1) T H (by simpa using hm)
 rw [kh m (Nat.le_of_lt (zB.1 hm).1)] at this
 exact this
theorem qd {x:Nat}:∀(rs:List (Fp×Hp)) (H0:Hp) (j i:Nat),kC H0 rs→i≤rs.length→fx (fun k=>decide (k<j+i)) x rs j (m4 H0 x)=m4 (zk H0 rs i) x
 | [],H0,j,i,_,hi=>by
  have:i=0:=by simpa using hi
  subst this;rfl
 | (T,H)::rs,H0,j,0,hc,_=>by
  have Q6:∀(r:List (Fp×Hp)) (k:Nat) (v:Option Ob×Prop),j≤k→fx (fun k=>decide (k<j+0)) x r k v=v:=by
   intro r
   induction r with
   | nil=>intro k v _;rfl
   | cons q r ih=>
    intro k v hk
    obtain ⟨T,H⟩:=q
    unfold fx
    rw [show (decide (k<j+0))=false by simpa using hk]
    simp only [Bool.false_and,Bool.false_eq_true,if_false]
    exact ih (k+1) v (by omega)
  exact Q6 _ j _ (Nat.le_refl _)
 | (T,H)::rs,H0,j,i+1,hc,hi=>by
  unfold fx
  rw [show (decide (j<j+(i+1)))=true by simp]
  simp only [Bool.true_and]
  have h0:=hc 0 T H rfl
  have e:(if (T.w && aK T x)=true then m4 H x else m4 H0 x)=m4 H x:=by
   cases hw:T.w with
   | false=>rw [h0.2 hw];simp [zk]
   | true=>
    cases ht:aK T x with
    | true=>simp
    | false=>simp only [Bool.and_false,Bool.false_eq_true,if_false];exact (h0.1 x ht).symm
  rw [e,kh i (by simpa using hi)]
  have:=qd (x:=x) rs H (j+1) i hc.tail (by simpa using hi)
  rw [show j+1+i=j+(i+1) by omega] at this
  exact this
theorem vH {ops:Array Oper} {H0 S2:Hp} {rs:List (Fp×Hp)} (hc:kC H0 rs) (hi:indep ops rs.length (rs.map (·.1))=true) (hA:∀T H,(T,H)∈rs→Agree T H0 S2) {i:Nat} {T:Fp} {H:Hp} (hr:rs[i]?=some (T,H)) {L:Nat→Bool} (ha:Fs ops i L) :
  Agree T (zk H0 rs i) (lU L rs 0 S2)∧lU (ins L i) rs 0 S2=wO T H (lU L rs 0 S2):=by
 have eY:=(zB.1 hr).1
 have JD:∀(a b:Nat) (Ta Tb:Fp) (Ha Hb:Hp),b<rs.length→a<b→rs[a]?=some (Ta,Ha)→rs[b]?=some (Tb,Hb)→cf Ta Tb=true→Kd ops rs.length b a=true:=fun a b Ta Tb Ha Hb h1 h2 h3 h4 h5=>by
  unfold indep at hi
  have:=List.all_eq_true.1 (List.all_eq_true.1 hi b (List.mem_range.2 h1)) a (List.mem_range.2 h2)
  have ga:(rs.map (·.1)).getD a .no=Ta:=by simp [zA,zL,h3]
  have gb:(rs.map (·.1)).getD b .no=Tb:=by simp [zA,zL,h4]
  rw [ga,gb,h5] at this
  simpa using this
 have seg:∀x,aK T x=true→∀m T' H',rs[m]?=some (T',H')→(T'.w && aK T' x)=true→m≠i→L m=decide (m<i):=fun x hx m T' H' hm hw jN=>by
  simp only [zC] at hw
  have hml:=(zB.1 hm).1
  rcases Nat.lt_or_ge m i with xr | xr
  ·rw [show decide (m<i)=true by simpa using xr]
   exact FK ha _ m (JD m i T' T H' H eY xr hm hr (JN hw.2 hx (.inl hw.1)))
  ·have xr:i<m:=by omega
   rw [show decide (m<i)=false by simp;omega]
   cases hl:L m with
   | false=>rfl
   | true=>
    have:=qC ha.down _ m i hl (JD i m T T' H H' hml xr hr hm (JN hx hw.2 (.inr hw.1)))
    rw [ha.new] at this;cases this
 have base:∀x,aK T x=true→m4 S2 x=m4 H0 x:=fun x hx=>by
  have:=hA T H (zG hr) x hx
  exact Prod.ext this.1 (propext this.2)
 have pre:∀x,aK T x=true→m4 (lU L rs 0 S2) x=m4 (zk H0 rs i) x:=fun x hx=>by
  rw [iT,base x hx,←qd rs H0 0 i hc (Nat.le_of_lt eY)]
  refine mo rs 0 _ (fun m T' H' hm hw=>?_)
  simp only [Nat.zero_add]
  by_cases xr:m=i
  ·subst xr;rw [ha.new];simp
  ·exact seg x hx m T' H' hm hw xr
 refine ⟨fun x hx=>?_,qf fun x=>?_⟩
 ·have:=pre x hx
  exact ⟨congrArg Prod.fst this,Iff.of_eq (congrArg Prod.snd this)⟩
 ·rw [zg]
  by_cases hw:(T.w && aK T x)=true
  ·rw [if_pos hw]
   simp only [zC] at hw
   have e:zk H0 rs (i+1)=H:=by
    show (match rs[i]? with | some q=>q.2 | none=>H0)=H
    rw [hr]
   rw [←e,iT,base x hw.2,←qd rs H0 0 (i+1) hc eY]
   refine mo rs 0 _ (fun m T' H' hm Xv=>?_)
   simp only [Nat.zero_add]
   by_cases xr:m=i
   ·subst xr;simp [ins]
   ·have:=seg x hw.2 m T' H' hm Xv xr
    show (m == i || L m)=decide (m<i+1)
    rw [this,show (m == i)=false by simpa using xr,Bool.false_or]
    by_cases h1:m<i
    ·rw [show decide (m<i)=true by simpa using h1,show decide (m<i+1)=true by simp;omega]
    ·rw [show decide (m<i)=false by simpa using h1,show decide (m<i+1)=false by simp;omega]
  ·rw [if_neg hw,iT,iT]
   refine mo rs 0 _ (fun m T' H' hm Xv=>?_)
   simp only [Nat.zero_add]
   by_cases xr:m=i
   ·subst xr;rw [hr] at hm;cases hm;exact absurd Xv hw
   ·show (m == i || L m)=L m
    rw [show (m == i)=false by simpa using xr,Bool.false_or]
end
section
open Go.RowKit
section
variable {P:Program} {E:Env} {cx:Cx} {n:Nat} {β:Type} {r:β}
def l5:List Fp→Fp
 | []=>.no
 | T::r=>T.cat (l5 r)
def xJ (E:Env) (cx:Cx) (n:Nat) (l0:List Oper):List Oper→Tr A→H→List Fp→(Tr A→H→List Fp→Option β)→Option β
 | [],F,h,acc,K=>K F h acc
 | o::l,F,h,acc,K=>match o.guard with
  | none=>Kr E cx n o.op F h (fun F pv h' T=>tn F o.dst pv (fun F'=>xJ E cx n l0 l F' h' (acc++[T]) K))
  | some (j,want)=>G2 l0 n F j want (fun F b=>bif b then Kr E cx n o.op F h (fun F pv h' T=>tn F o.dst pv (fun F'=>xJ E cx n l0 l F' h' (acc++[T]) K)) else tn F o.dst .un (fun F'=>xJ E cx n l0 l F' h (acc++[.no]) K))
def Z0 (E:Env) (cx:Cx) (n:Nat) (β:Type) (_id:Nat) (ops:List Oper) (F:Tr A) (h:H) (U:Fp) (K:Tr A→H→Fp→Option β):Option β:=
 bif Uq ops.toArray then xJ E cx n ops ops F h [] (fun F h Ts=>bif indep ops.toArray ops.length Ts then K F h (U.cat (l5 Ts)) else none) else none
def oK (ops:Array Oper) (H0:Hp) (rs:List (Fp×Hp)) (Sf:(Nat→Bool)→Hp) (k:Nat):Prop:=
 ∀m T H,rs[m]?=some (T,H)→∀L,Fs ops (k+m) L→Agree T (zk H0 rs m) (Sf L)∧Sf (ins L (k+m))=wO T H (Sf L)
theorem oK.tail {ops:Array Oper} {H0:Hp} {q:Fp×Hp} {rs:List (Fp×Hp)} {Sf:(Nat→Bool)→Hp} {k:Nat} (h:oK ops H0 (q::rs) Sf k):oK ops q.2 rs Sf (k+1):=fun m T H hm L ha=>by
 have:=h (m+1) T H (by simpa using hm) L (by rwa [show k+(m+1)=k+1+m by omega])
 rw [kh m (Nat.le_of_lt (zB.1 hm).1),show k+(m+1)=k+1+m by omega] at this
 exact this
theorem kC.cons {H0:Hp} {T:Fp} {H:Hp} {rs:List (Fp×Hp)} (h1:∀x,aK T x=false→m4 H x=m4 H0 x) (h2:T.w=false→H=H0) (h:kC H rs):kC H0 ((T,H)::rs):=fun m T' H' hm=>by
 cases m with
 | zero=>simp at hm;obtain ⟨rfl,rfl⟩:=hm;exact ⟨h1,h2⟩
 | succ m=>
  have KU:rs[m]?=some (T',H'):=by simpa using hm
  rw [kh m (Nat.le_of_lt (zB.1 KU).1)]
  exact h m T' H' KU
theorem uf (hE:b0 P E) (hx:lq P cx) {l0:List Oper}:∀(l:List Oper) (F:Tr A) (h:H) (acc:List Fp) (K:Tr A→H→List Fp→Option β),xJ E cx n l0 l F h acc K=some r →
  ∃F' h' rs,K F' h' (acc++rs.map (·.1))=some r∧Kp (pW l) F F'∧rs.length=l.length∧kC (hp h) rs∧(∀x,wt (l5 (rs.map (·.1))) x=false→m4 (hp h') x=m4 (hp h) x)∧zk (hp h) rs rs.length=hp h'∧∀Sf k,oK l0.toArray (hp h) rs Sf k→∀ds S (Kf:St→Prop),Kf (fN n F' ds S)→q_ P l0.toArray Sf l k (fN n F ds S) Kf
 | [],F,h,acc,K,hr=>⟨F,h,[],by have hr:K F h acc=some r:=hr;simpa using hr,.refl _ F,rfl,fun m T H hm=>by simp at hm,fun _ _=>rfl,rfl,fun Sf k _ ds S Kf hk=>hk⟩
 | o::l,F,h,acc,K,hr=>by
  have yes:∀(F:Tr A),Kr E cx n o.op F h (fun F pv h' T=>tn F o.dst pv (fun F'=>xJ E cx n l0 l F' h' (acc++[T]) K))=some r →
    (∀ds S,o.guard=none∨∃j want,o.guard=some (j,want)∧mm l0.toArray (fN n F ds S) j want=some true) →
    ∃F' h' rs,K F' h' (acc++rs.map (·.1))=some r∧Kp (pW (o::l)) F F'∧rs.length=(o::l).length∧kC (hp h) rs∧(∀x,wt (l5 (rs.map (·.1))) x=false→m4 (hp h') x=m4 (hp h) x)∧zk (hp h) rs rs.length=hp h'∧∀Sf k,oK l0.toArray (hp h) rs Sf k→∀ds S (Kf:St→Prop),Kf (fN n F' ds S)→q_ P l0.toArray Sf (o::l) k (fN n F ds S) Kf:=fun F hr hg=>by
   obtain ⟨F0,e0,pv,h1,T1,k1,k2⟩:=CN hE hx hr
   obtain ⟨F1,k3,KE,k4⟩:=pZ k1
   obtain ⟨F2,h2,rs,k5,Xi,k6,k7,kw,k8,k9⟩:=uf hE hx l F1 h1 (acc++[T1]) K k3
   have hg:∀ds S,o.guard=none∨∃j want,o.guard=some (j,want)∧mm l0.toArray (fN n F0 ds S) j want=some true:=fun ds S=>by rw [e0];exact hg ds S
   refine ⟨F2,h2,(T1,hp h1)::rs,by simpa using k5,(Kp.of (l:=[]) e0).trans (m:=pW (o::l)) (KE.trans Xi (fun i hi=>zQ _ hi) (fun i hi=>zS _ hi)) (fun i hi=>by cases hi) (fun i hi=>hi),by simp [k6],kC.cons (fun x hx=>Prod.ext (k2.out x hx).1 (propext (k2.out x hx).2)) (fun hw=>qf fun x=>Prod.ext (k2.rd x (Fu hw)).1 (propext (k2.rd x (Fu hw)).2)) k7,fun x hx=>(kw x (qi hx).2).trans (Prod.ext (k2.rd x (qi hx).1).1 (propext (k2.rd x (qi hx).1).2)),by rw [zR,kh _ (Nat.le_refl _)];exact k8,fun Sf k hs ds S Kf hk=>?_⟩
   rw [←e0 ds S]
   refine ⟨pv,?_,?_⟩
   ·have nE:∀L,Fs l0.toArray k L→Bo P o ((fN n F0 ds S).uH 0) (Sf L) (Sf (ins L k)) pv:=fun L ha=>by
     obtain ⟨q1,q2⟩:=hs 0 T1 (hp h1) rfl L ha
     have q1:Agree T1 (hp h) (Sf L):=q1
     have q2:Sf (ins L k)=wO T1 (hp h1) (Sf L):=q2
     rw [←o7,q2]
     have:=k2.ok (Sf L) q1
     unfold wO
     cases hw:T1.w with
     | true=>exact this
     | false=>
      rw [show hp h1=hp h from qf fun x=>Prod.ext (k2.rd x (Fu hw)).1 (propext (k2.rd x (Fu hw)).2),mf q1] at this
      exact this
    unfold sj
    rcases hg ds S with hg | ⟨j,want,hg,hv⟩
    ·rw [hg];exact ⟨0,nE⟩
    ·rw [hg];exact .inl ⟨hv,0,nE⟩
   ·have:=k9 Sf (k+1) hs.tail ds S Kf hk
    rw [←k4 n ds S S,show ((fN n F0 ds S).put o.dst pv).to S=(fN n F0 ds S).put o.dst pv from te _ _] at this
    exact this
  unfold xJ at hr
  split at hr
  ·rename_i hg
   exact yes F hr (fun _ _=>.inl hg)
  ·rename_i j want hg
   obtain ⟨F1,b,k1,k2,k3⟩:=yQ hr
   cases b with
   | true=>
    simp only [cond_true] at k1
    obtain ⟨F',h',rs,q1,qp,q2,q3,qw,q4,q5⟩:=yes F1 k1 (fun ds S=>.inr ⟨j,want,hg,by rw [k2];exact k3 ds S⟩)
    refine ⟨F',h',rs,q1,(Kp.of (l:=[]) k2).trans qp (fun i hi=>by cases hi) (fun i hi=>hi),q2,q3,qw,q4,fun Sf k hs ds S Kf hk=>?_⟩
    rw [←k2]
    exact q5 Sf k hs ds S Kf hk
   | false=>
    simp only [cond_false] at k1
    obtain ⟨F2,k4,KE,k5⟩:=pZ k1
    obtain ⟨F',h',rs,q1,qp,q2,q3,qw,q4,q5⟩:=uf hE hx l F2 h (acc++[.no]) K k4
    refine ⟨F',h',(.no,hp h)::rs,by simpa using q1,(Kp.of (l:=[]) k2).trans (m:=pW (o::l)) (KE.trans qp (fun i hi=>zQ _ hi) (fun i hi=>zS _ hi)) (fun i hi=>by cases hi) (fun i hi=>hi),by simp [q2],.cons (fun _ _=>rfl) (fun _=>rfl) q3,fun x hx=>qw x (qi hx).2,by rw [zR,kh _ (Nat.le_refl _)];exact q4,fun Sf k hs ds S Kf hk=>⟨.un,?_,?_⟩⟩
    ·unfold sj
     rw [hg]
     exact .inr ⟨k3 ds S,fun g=>.un,fun L ha=>(hs 0 .no (hp h) rfl L ha).2⟩
    ·have:=q5 Sf (k+1) hs.tail ds S Kf hk
     rw [←k5 n ds S S,show ((fN n F1 ds S).put o.dst .un).to S=(fN n F1 ds S).put o.dst .un from te _ _] at this
     rw [←k2]
     exact this
theorem nq {x:Nat}:∀(Ts:List Fp),aK (l5 Ts) x=Ts.any fun T=>aK T x
 | []=>rfl
 | T::r=>by
  show aK (T.cat (l5 r)) x=_
  rw [iL,nq r,List.any_cons]
theorem Be {H0:Hp}:∀(rs:List (Fp×Hp)),kC H0 rs→(∀x,aK (l5 (rs.map (·.1))) x=false→m4 (zk H0 rs rs.length) x=m4 H0 x)∧((l5 (rs.map (·.1))).w=false→zk H0 rs rs.length=H0):=fun rs=>by
 induction rs generalizing H0 with
 | nil=>exact fun _=>⟨fun _ _=>rfl,fun _=>rfl⟩
 | cons q rs ih=>
  intro hc
  obtain ⟨T,H⟩:=q
  obtain ⟨i1,i2⟩:=ih hc.tail
  have h0:=hc 0 T H rfl
  rw [zR,kh _ (Nat.le_refl _)]
  refine ⟨fun x hx=>?_,fun hw=>?_⟩
  ·have hx:aK (T.cat (l5 (rs.map (·.1)))) x=false:=hx
   rw [iL,Bool.or_eq_false_iff] at hx
   exact (i1 x hx.2).trans (h0.1 x hx.1)
  ·have hw:(T.w || (l5 (rs.map (·.1))).w)=false:=hw
   rw [Bool.or_eq_false_iff] at hw
   exact (i2 hw.2).trans (h0.2 hw.1)
theorem Ea (hE:b0 P E) (hx:lq P cx) (hm:P.follows .mixedOrders=true) (n:Nat) (β:Type):Bq P n (Z0 E cx n β):=fun id ops F h U K r hr=>by
 obtain ⟨hch,hr⟩:=aj hr
 obtain ⟨F',h',rs,k1,kp,k2,k3,kw,k4,k5⟩:=uf hE hx ops F h [] _ hr
 rw [List.nil_append] at k1
 obtain ⟨hi,k1⟩:=aj k1
 rw [←k2] at hi
 refine ⟨F',h',l5 (rs.map (·.1)),k1,kp,fun inr ds=>?_⟩
 obtain ⟨e1,e2⟩:=Be rs k3
 rw [k4] at e1 e2
 refine ⟨⟨fun x hx=>⟨congrArg Prod.fst (e1 x hx),Iff.of_eq (congrArg Prod.snd (e1 x hx))⟩,fun x hx=>⟨congrArg Prod.fst (kw x hx),Iff.of_eq (congrArg Prod.snd (kw x hx))⟩⟩,fun ro _ S0 g0 w0 S2 hA Q hq=>?_⟩
 have rW:∀T H,(T,H)∈rs→Agree T (hp h) S2:=fun T H AO x hx=>hA x (by
  rw [nq,List.any_eq_true]
  exact ⟨T,List.mem_map.2 ⟨_,AO,rfl⟩,hx⟩)
 have zero:∀(r:List (Fp×Hp)) (j:Nat) (S:Hp),lU (fun _=>false) r j S=S:=fun r=>by
  induction r with
  | nil=>exact fun _ _=>rfl
  | cons q r ih=>exact fun j S=>ih (j+1) S
 refine FP (fun L=>lU L rs 0 S2) hm hch (zero rs 0 S2) ?_
 refine k5 (fun L=>lU L rs 0 S2) 0 (fun m T H XQ L ha=>?_) ds S2 _ ?_
 ·rw [Nat.zero_add] at ha ⊢
  exact vH k3 hi rW XQ ha
 ·have e:lU (fun j=>decide (j<ops.length)) rs 0 S2=ja (l5 (rs.map (·.1))) (hp h') S2:=qf fun x=>by
   rw [iT]
   cases ht:aK (l5 (rs.map (·.1))) x with
   | true=>
    have b:m4 S2 x=m4 (hp h) x:=Prod.ext (hA x ht).1 (propext (hA x ht).2)
    have:=qd (x:=x) rs (hp h) 0 rs.length k3 (Nat.le_refl _)
    rw [Nat.zero_add,k4,k2] at this
    rw [b,this]
    show m4 (hp h') x=(if aK (l5 (rs.map (·.1))) x=true then (hp h').ob x else S2.ob x,if aK (l5 (rs.map (·.1))) x=true then (hp h').fr x else S2.fr x)
    rw [if_pos ht,if_pos ht];rfl
   | false=>
    rw [mo (L':=fun _=>false) rs 0 _ (fun m T H XQ hw=>by
     simp only [zC] at hw
     have:aK (l5 (rs.map (·.1))) x=true:=by
      rw [nq,List.any_eq_true]
      exact ⟨T,List.mem_map.2 ⟨_,zG XQ,rfl⟩,hw.2⟩
     rw [this] at ht;cases ht),←iT,zero]
    show m4 S2 x=(if aK (l5 (rs.map (·.1))) x=true then (hp h').ob x else S2.ob x,if aK (l5 (rs.map (·.1))) x=true then (hp h').fr x else S2.fr x)
    rw [if_neg (by rw [ht];simp),if_neg (by rw [ht];simp)];rfl
  show Q .normal ((fN n F' ds S2).to (lU (fun j=>decide (j<ops.length)) rs 0 S2))
  rw [e]
  exact hq
end
end
open Go.RowKit
inductive uz (P:Program):Nat→Nat→Bl→Prop
 | nil (a b:Nat):uz P a b .nil
 | no {a b:Nat} {l r:Bl} (h1:uz P (2*a) (a+b) l) (h2:uz P (2*a) (2*a+b) r):uz P a b (.node l none r)
 | yes {a b:Nat} {e:cY} {l r:Bl} (h:bx P b e) (h1:uz P (2*a) (a+b) l) (h2:uz P (2*a) (2*a+b) r):uz P a b (.node l (some e) r)
theorem FB {P:Program} {T:Bl} {a b:Nat} (h:uz P a b T):∀t e,cB T t=some e→bx P (a*t+b) e:=by
 have key:∀(a b:Nat) (l r:Bl),(∀t e,cB l t=some e→bx P (2*a*t+(a+b)) e)→(∀t e,cB r t=some e→bx P (2*a*t+(2*a+b)) e) →
   ∀n e v,cB (.node l v r) (n+1)=some e→bx P (a*(n+1)+b) e:=by
  intro a b l r hl hr n e v ht
  rw [zq] at ht
  cases hn:Nat.beq (n%2) 0 with
  | true=>
   rw [hn] at ht
   have h0:=Nat.eq_of_beq_eq_true hn
   have:=hl _ e ht
   have e1:a*(n+1)+b=2*a*(n / 2)+(a+b):=by
    have:n=2*(n / 2):=by omega
    generalize n / 2=k at this
    subst this
    rw [Nat.mul_add,Nat.mul_one,Nat.mul_comm 2 a,Nat.mul_assoc];omega
   rw [e1];exact this
  | false=>
   rw [hn] at ht
   have h0:n%2≠0:=fun h=>by rw [h] at hn;cases hn
   have:=hr _ e ht
   have e1:a*(n+1)+b=2*a*(n / 2)+(2*a+b):=by
    have:n=2*(n / 2)+1:=by omega
    generalize n / 2=k at this
    subst this
    rw [show 2*k+1+1=2*(k+1) by omega,←Nat.mul_assoc,Nat.mul_comm a 2,Nat.mul_add,Nat.mul_one];omega
   rw [e1];exact this
 induction h with
 | nil=>intro t e h;cases h
 | no h1 h2 Dl GG=>
  intro t e ht
  cases t with
  | zero=>cases ht
  | succ n=>exact key _ _ _ _ Dl GG n e _ ht
 | yes h h1 h2 Dl GG=>
  intro t e ht
  cases t with
  | zero=>cases ht;rw [Nat.mul_zero,Nat.zero_add];exact h
  | succ n=>exact key _ _ _ _ Dl GG n e _ ht
theorem Fx {P:Program} {T:Bl} (h:uz P 1 0 T):∀t e,cB T t=some e→bx P t e:=fun t e ht=>by
 have:=FB h t e ht
 rwa [Nat.one_mul,Nat.add_zero] at this
inductive VB (P:Program):List Nat→Prop
 | nil:VB P []
 | cons {t:Nat} {r:List Nat} (h:ic P t) (k:VB P r):VB P (t::r)
theorem Lh {P:Program} {l:List Nat} (h:VB P l):∀t,l.any (Nat.beq t)=true→ic P t:=by
 induction h with
 | nil=>intro f h;simp at h
 | cons h k ih=>
  rename_i f0 r
  intro f hf
  rw [List.any_cons,Bool.or_eq_true] at hf
  rcases hf with hf | hf
  ·obtain rfl:=Nat.eq_of_beq_eq_true hf;exact h
  ·exact ih f hf
theorem cI {P : Program} {t : Nat} {fs : Array Field} (h1 : P.stoodInHeld t = false) (h2 : P.eqGuardType P.depth t = false) (h3 : P.underlying t = some (.struct fs)) (h4 : fs.toList.all (fun f => f.name != "_") = true) : ic P t :=
 ⟨h1,h2,fun fs' e f hf=>by
  rw [h3] at e
  cases e
  have:=List.all_eq_true.1 h4 f hf
  simpa using this⟩
theorem aD {P:Program} {t:Nat} {e:cY} (h1:P.underlying t=some e.d) (h2:TI P t e.size e.bytes e.zero) (h3:∀fs,e.d = .struct fs→∀w:World,(fs.mapM fun f=>(do pure (f.offset,←sizeOf f.type):Sem (Nat×Nat))).run P w = .ok e.pl.toArray w)
  (h4:∀u,e.t=some u→u.size=e.size∧oQ u (jV e.zero)=some u.cP):bx P t e where
 u:=h1
 ti:=h2
 pl:=h3
 ts:=fun u hu=>(h4 u hu).1
 tz:=fun u hu g=>by
  obtain ⟨i,t1,t2,t3,t4,t5,t6⟩:=h2
  exact (jr (g:=g) u _ _ (h4 u hu).2).2 _ (nS t6 g)
theorem j9 {e:cY} (h:e.t=none):∀u,e.t=some u→u.size=e.size∧oQ u (jV e.zero)=some u.cP:=fun u hu=>by rw [h] at hu;cases hu
theorem aT {e:cY} {u:Ty} (h:e.t=some u) (h1:u.size=e.size) (h2:oQ u (jV e.zero)=some u.cP):∀u,e.t=some u→u.size=e.size∧oQ u (jV e.zero)=some u.cP:=fun u' hu=>by rw [h] at hu;cases hu;exact ⟨h1,h2⟩
inductive HT where
 | o
 | n (h:Option LH) (x y:HT)
def HT.h:HT→Option LH
 | .o=>none
 | .n h _ _=>h
def HT.l:HT→HT
 | .o=>.o
 | .n _ x _=>x
def HT.r:HT→HT
 | .o=>.o
 | .n _ _ y=>y
def Q7:LH:=⟨[],[],[],[],[],[]⟩
def mkSeq (h:Option LH) (x y:aB):aB:=match h with
 | some h=>.cut h x y
 | none=>.seq x y
def CY (h:Option LH) (x:aB):aB:=match h with
 | some h=>.loop h x
 | none=>.loop Q7 x
def comp:Code→HT→aB
 | .skip,_=>.skip
 | .ret,_=>.ret
 | .exit id,_=>.exit id
 | .region id ops d,_=>.region id ops.toList d
 | .seq x y,t=>mkSeq t.h (comp x t.l) (comp y t.r)
 | .cond c x y,t=>.cond c (comp x t.l) (comp y t.r)
 | .block id x,t=>.block id (comp x t.l)
 | .loop x,t=>CY t.h (comp x t.l)
 | .rangeFunc g ps x y,t=>.range g ps.toList Q7 (comp x t.l) (comp y t.r)
 | c,_=>.bad c
theorem xd (h:Option LH) (x y:aB):(mkSeq h x y).code = .seq x.code y.code:=by cases h<;>rfl
theorem vA (h:Option LH) (x:aB):(CY h x).code = .loop x.code:=by cases h<;>rfl
theorem A9 (c:Code) (t:HT):(comp c t).code=c:=by
 fun_induction comp c t<;>simp_all [aB.code,xd,vA]
def az (f:Func):Code:=match f.body with
 | some c=>c
 | none=>.skip
theorem au {P : Program} {f : Nat} {fn : Func} {t : HT} (h1 : P.funcs[f]? = some fn) (h2 : fn.body = some (az fn)) (h3 : (fn.name == "runtime.NumGoroutine") = false) : aR P f fn (comp (az fn) t) := ⟨h1, by rw [A9]; exact h2, h3⟩
section
open Go.RowKit
structure uB (P:Program) (f:FuncId) (t:Ty):Prop where
 fn:uC P f
 ok:∀(n:Nat) (w:World),n≤16777216→Calls P f #[.slice none 0 0,.int .i64 (n:Int)] w fun e w'=>∃v,e = .returned v∧((v = .slice none 0 0∧w'=w)∨∃vs ty cap,v = .slice (some ⟨w.heap.size,0,none⟩) 0 cap∧w'=w.drew.alloc (.cells vs ty)∧cap*t.size≤vs.size∧cap≤maxLen)
structure oO (P:Program) (f:FuncId) (t:Ty):Prop where
 fn:uC P f
 none:∀(n c:Nat) (w:World),Calls P f #[.slice none n c] w fun e w'=>e = .returned (.slice none 0 0)∧w'=w
 some:∀(g:G) (S:Hp) (q:Nat),S.fr q→∀l:List t.T,l.length≤16777216→∀(w:World),Inv g S w→∀(a:Addr) (n c:Nat),(∀w2,Inv g S w2→Given g w2 (.slice (some a) n c) t.size l.length (l.flatMap (aE t))) →
  Calls P f #[.slice (some a) n c] w fun e w'=>∃v g',e = .returned v∧V g' (.tw (.loc q) t.size) v∧Inv g' (S.new q (.cells (l.flatMap (aE t)))) w'∧Ext S g w (S.new q (.cells (l.flatMap (aE t)))) g' w'
inductive MC where
 | fn (sg:dz) (F:Plain sg)
 | grow (t:Ty)
 | clone (t:Ty)
abbrev uE:=Nat→Option MC
def MC.Ok (P:Program) (f:FuncId):MC→Prop
 | .fn sg F=>bG P f sg F
 | .grow t=>uB P f t
 | .clone t=>oO P f t
def l4 (P:Program) (rD:uE):Prop:=∀f e,rD f=some e→e.Ok P f
def yP {β:Type} (t:Ty) (aa:List A) (h:H) (K:A→H→Fp→Option β):Option β:=match aa with
 | [.v (.slice none 0 0),.v (.int .i64 n)]=>gd (bn n) (gd (bt (nN n) 16777216) (mZ (.row t []) h (fun q h'=>K (.tw (.loc q) t.size) h' (.wr [dy q]))))
 | _=>none
def uj {β:Type} (t:Ty) (aa:List A) (h:H) (K:A→H→Fp→Option β):Option β:=match aa with
 | [py]=>wS h t py (fun l T=>gd (bt (len (α:=t.T) l) 16777216) (mZ (.row t l) h (fun q h'=>K (.tw (.loc q) t.size) h' ⟨false,dy q::T,true,[dy q]⟩)))
 | _=>none
def Lt (rD:uE) (xG:Cx):Cx:=⟨fun β f aa h K=>match rD f with
 | some (.fn sg F)=>Vy sg F aa h K
 | some (.grow t)=>yP t aa h K
 | some (.clone t)=>uj t aa h K
 | none=>xG.call β f aa h K,xG.hm,xG.rB⟩
section
variable {P:Program} {E:Env}
theorem DM {β:Type} {f:FuncId} {t:Ty} (hg:uB P f t) {aa:List A} {h:H} {K:A→H→Fp→Option β} {r:β} (hr:yP t aa h K=some r):∃pv h' T,K pv h' T=some r∧sP P f aa h h' T pv:=by
 unfold yP at hr
 split at hr
 ·rename_i n
  obtain ⟨hp,hr⟩:=bE hr
  have hp:0≤n:=hp
  obtain ⟨hn,hr⟩:=bE hr
  have hn:n.toNat≤16777216:=hn
  have Rz:n=((n.toNat:Nat):Int):=by omega
  obtain ⟨h',k1,hq,hf,hh⟩:=fT hr
  have hT:∀u∈[Up.new h.aU (gF.row t []).low],aK (.wr [dy h.aU]) u.id=true:=fun u hu=>by rcases zF.1 hu with rfl;exact aF (o:=h.aU) hq (.head _)
  have hW:∀u∈[Up.new h.aU (gF.row t []).low],wt (.wr [dy h.aU]) u.id=true:=fun u hu=>by rcases zF.1 hu with rfl;exact aF (l:=[dy h.aU]) (w:=false) (s:=[]) (o:=h.aU) hq (.head _)
  refine ⟨_,_,_,k1,fun i hi=>by rw [hh];exact dH _ _ i (fun u hu e=>by rw [e,hT u hu] at hi;cases hi),fun i hi=>by rw [hh];exact dH _ _ i (fun u hu e=>by rw [e,hW u hu] at hi;cases hi),hg.fn,fun S2 hA=>?_⟩
  rw [hh,ir hT hA]
  show PC P f _ S2 (S2.new h.aU (.cells [])) _
  have DF:S2.fr h.aU:=(hA _ (aF hq (.head _))).2.2 hf
  intro g w vs hI hl hv
  match vs,hl with
  | [u,v],_=>
   have e1:=(hv 0 _ _ rfl rfl).gx
   have e2:=(hv 1 _ _ rfl rfl).gx
   subst e1 e2
   rw [Rz]
   refine (hg.ok n.toNat w hn).mono ?_
   rintro e w' ⟨v,rfl,⟨rfl,rfl⟩ | ⟨vs,ty,cap,rfl,rfl,k3,k4⟩⟩
   ·obtain ⟨q1,q2⟩:=hI.emp DF
    exact ⟨_,_,rfl,.sd (.loc h.aU) t.size none ct,q1,q2⟩
   ·obtain ⟨q1,q2⟩:=hI.drew.lQ DF (cs:=[]) (vs:=vs) ty (Nat.zero_le _) ⟨by simp,fun j c x e=>by simp at e⟩
    refine ⟨_,_,rfl,.tw (.loc h.aU) t.size 0 w.heap.size cap vs.size ?_ (Nat.zero_le _) k4 k3 0 (fun _=>rfl),q1,Inv.sU q2⟩
    rw [Nat.zero_mul];exact ct
 ·cases hr
theorem Bb {β:Type} {f:FuncId} {t:Ty} (hg:oO P f t) {aa:List A} {h:H} {K:A→H→Fp→Option β} {r:β} (hr:uj t aa h K=some r):∃pv h' T,K pv h' T=some r∧sP P f aa h h' T pv:=by
 unfold uj at hr
 split at hr
 ·rename_i py
  obtain ⟨l,T,hr,tW⟩:=sX hr
  obtain ⟨hn,hr⟩:=bE hr
  have hn:List.length (α:=t.T) l≤16777216:=hn
  obtain ⟨h',k1,hq,hf,hh⟩:=fT hr
  have hT:∀u∈[Up.new h.aU (gF.row t l).low],aK ⟨false,dy h.aU::T,true,[dy h.aU]⟩ u.id=true:=fun u hu=>by rcases zF.1 hu with rfl;exact aF (o:=h.aU) hq (.head _)
  have hW:∀u∈[Up.new h.aU (gF.row t l).low],wt ⟨false,dy h.aU::T,true,[dy h.aU]⟩ u.id=true:=fun u hu=>by rcases zF.1 hu with rfl;exact aF (l:=[dy h.aU]) (w:=false) (s:=[]) (o:=h.aU) hq (.head _)
  refine ⟨_,_,_,k1,fun i hi=>by rw [hh];exact dH _ _ i (fun u hu e=>by rw [e,hT u hu] at hi;cases hi),fun i hi=>by rw [hh];exact dH _ _ i (fun u hu e=>by rw [e,hW u hu] at hi;cases hi),hg.fn,fun S2 hA=>?_⟩
  rw [hh,ir hT hA]
  show PC P f _ S2 (S2.new h.aU (.cells (List.flatMap (aE t) l))) _
  have DF:S2.fr h.aU:=(hA _ (aF hq (.head _))).2.2 hf
  have tW:=tW S2 (hA.mono fun i hi=>.tail _ hi)
  intro g w vs hI Vk hv
  match vs,Vk with
  | [u],_=>
   have e1:=hv 0 _ _ rfl rfl
   have Mn:∀w2,Inv g S2 w2→Given g w2 u t.size l.length (l.flatMap (aE t)):=fun w2 hI2=>tW g w2 u hI2 e1
   obtain ⟨A,c,us,rfl,k2,k3,k4⟩:=Mn w hI
   cases A with
   | none=>
    have XV:l=[]:=by
     rcases Nat.eq_zero_or_pos l.length with h0 | h0
     ·exact zZ h0
     ·obtain ⟨_,e,_⟩:=k4 h0;cases e
    refine (hg.none _ c w).mono ?_
    rintro e w' ⟨rfl,rfl⟩
    rw [XV]
    obtain ⟨q1,q2⟩:=hI.emp DF
    exact ⟨_,_,rfl,.sd (.loc h.aU) t.size none ct,q1,q2⟩
   | some a=>exact hg.some g S2 h.aU DF l hn w hI a _ c Mn
 ·cases hr
theorem y_ {rD:uE} (hc:l4 P rD) {xG:Cx} (hf:lq P xG):lq P (Lt rD xG):=⟨fun β f aa h K r hr=>by
 have hr:(match rD f with | some (.fn sg F)=>Vy sg F aa h K | some (.grow t)=>yP t aa h K | some (.clone t)=>uj t aa h K | none=>xG.call β f aa h K)=some r:=hr
 split at hr
 ·rename_i sg F he
  exact Lw (hc f _ he) hr
 ·rename_i t he
  exact DM (hc f _ he) hr
 ·rename_i t he
  exact Bb (hc f _ he) hr
 ·exact hf.call β f aa h K r hr,hf.rB⟩
def Z3 (E:Env) (fns:FT) (hm:List (Nat×Nat)) (rD:uE):Nat→Cx
 | 0=>Lt rD (BL hm)
 | k+1=>Lt rD (wR E fns (fun cx n=>Z0 E cx n) hm (Z3 E fns hm rD k))
def Z4 (E:Env) (fns:FT) (hm:List (Nat×Nat)) (rD:uE) (k:Nat):Cx:=wR E fns (fun cx n=>Z0 E cx n) hm (Z3 E fns hm rD k)
theorem ug (hE:b0 P E) (DA:P.follows .mixedOrders=true) {fns:FT} (hF:wF P fns) {hm:List (Nat×Nat)} {rD:uE} (hc:l4 P rD):∀k,lq P (Z3 E fns hm rD k)
 | 0=>y_ hc (zn hm)
 | k+1=>y_ hc (sk hE hF (ug hE DA hF hc k) (fun n β=>Ea hE (ug hE DA hF hc k) DA n β))
theorem rb (hE:b0 P E) (DA:P.follows .mixedOrders=true) {fns:FT} (hF:wF P fns) {hm:List (Nat×Nat)} {rD:uE} (hc:l4 P rD) (k:Nat):lq P (Z4 E fns hm rD k):=sk hE hF (ug hE DA hF hc k) (fun n β=>Ea hE (ug hE DA hF hc k) DA n β)
theorem bG.of {f:FuncId} {sg:dz} {F G:Plain sg} (h:bG P f sg G) (e:∀x c d,F x c d=G x c d):bG P f sg F:=by
 have:F=G:=funext fun x=>funext fun c=>funext fun d=>e x c d
 rw [this];exact h
end
end
section
open Go.RowKit
def ao {α:Type} (d:α) (l:List α) (i:Nat) (f:α→α):List α:=aY l i (f (nth d l i))
def ctN:uE:=fun _=>none
def ctC (f:Nat) (sg:dz) (F:Plain sg) (l:uE):uE:=fun g=>bif Nat.beq g f then some (.fn sg F) else l g
def ctG (f:Nat) (t:Ty) (l:uE):uE:=fun g=>bif Nat.beq g f then some (.grow t) else l g
def ctL (f:Nat) (t:Ty) (l:uE):uE:=fun g=>bif Nat.beq g f then some (.clone t) else l g
theorem aQ {P:Program}:l4 P ctN:=fun f e h=>by cases h
theorem aw {P:Program} {f:Nat} {sg:dz} {F:Plain sg} {l:uE} (h:bG P f sg F) (k:l4 P l):l4 P (ctC f sg F l):=fun g e hg=>by
 have hg:(bif Nat.beq g f then some (MC.fn sg F) else l g)=some e:=hg
 cases hb:Nat.beq g f with
 | true=>rw [hb] at hg;cases hg;rw [beq_eq hb];exact h
 | false=>rw [hb] at hg;exact k g e hg
theorem Ed {P:Program} {f:Nat} {t:Ty} {l:uE} (h:oO P f t) (k:l4 P l):l4 P (ctL f t l):=fun g e hg=>by
 have hg:(bif Nat.beq g f then some (MC.clone t) else l g)=some e:=hg
 cases hb:Nat.beq g f with
 | true=>rw [hb] at hg;cases hg;rw [beq_eq hb];exact h
 | false=>rw [hb] at hg;exact k g e hg
theorem Lx {P:Program} {f:Nat} {t:Ty} {l:uE} (h:uB P f t) (k:l4 P l):l4 P (ctG f t l):=fun g e hg=>by
 have hg:(bif Nat.beq g f then some (MC.grow t) else l g)=some e:=hg
 cases hb:Nat.beq g f with
 | true=>rw [hb] at hg;cases hg;rw [beq_eq hb];exact h
 | false=>rw [hb] at hg;exact k g e hg
inductive HI (P:Program):Nat→Nat→Tr (Func×aB)→Prop
 | nil (a b:Nat):HI P a b .nil
 | no {a b:Nat} {l r:Tr (Func×aB)} (h1:HI P (2*a) (a+b) l) (h2:HI P (2*a) (2*a+b) r):HI P a b (.node l none r)
 | yes {a b:Nat} {fn:Func} {x:aB} {l r:Tr (Func×aB)} (h:aR P b fn x) (h1:HI P (2*a) (a+b) l) (h2:HI P (2*a) (2*a+b) r):HI P a b (.node l (some (fn,x)) r)
theorem K7 {P:Program} {T:Tr (Func×aB)} {a b:Nat} (h:HI P a b T):∀t fn x,T.get t=some (fn,x)→aR P (a*t+b) fn x:=by
 have key:∀(a b:Nat) (l r:Tr (Func×aB)),(∀t fn x,l.get t=some (fn,x)→aR P (2*a*t+(a+b)) fn x)→(∀t fn x,r.get t=some (fn,x)→aR P (2*a*t+(2*a+b)) fn x) →
   ∀n fn x v,(Tr.node l v r).get (n+1)=some (fn,x)→aR P (a*(n+1)+b) fn x:=by
  intro a b l r hl hr n fn x v ht
  rw [Tr.hH] at ht
  cases hn:Nat.beq (n%2) 0 with
  | true=>
   rw [hn] at ht
   have h0:=Nat.eq_of_beq_eq_true hn
   have:=hl _ fn x ht
   have e1:a*(n+1)+b=2*a*(n / 2)+(a+b):=by
    have:n=2*(n / 2):=by omega
    generalize n / 2=k at this
    subst this
    rw [Nat.mul_add,Nat.mul_one,Nat.mul_comm 2 a,Nat.mul_assoc];omega
   rw [e1];exact this
  | false=>
   rw [hn] at ht
   have h0:n%2≠0:=fun h=>by rw [h] at hn;cases hn
   have:=hr _ fn x ht
   have e1:a*(n+1)+b=2*a*(n / 2)+(2*a+b):=by
    have:n=2*(n / 2)+1:=by omega
    generalize n / 2=k at this
    subst this
    rw [show 2*k+1+1=2*(k+1) by omega,←Nat.mul_assoc,Nat.mul_comm a 2,Nat.mul_add,Nat.mul_one];omega
   rw [e1];exact this
 induction h with
 | nil=>intro t fn x h;cases h
 | no h1 h2 Dl GG=>
  intro t fn x ht
  cases t with
  | zero=>cases ht
  | succ n=>exact key _ _ _ _ Dl GG n fn x _ ht
 | yes h h1 h2 Dl GG=>
  intro t fn x ht
  cases t with
  | zero=>cases ht;rw [Nat.mul_zero,Nat.zero_add];exact h
  | succ n=>exact key _ _ _ _ Dl GG n fn x _ ht
theorem K6 {P:Program} {T:Tr (Func×aB)} (h:HI P 1 0 T):wF P (fun f=>T.get f):=fun f fn x hf=>by
 have:=K7 h f fn x hf
 rwa [Nat.one_mul,Nat.add_zero] at this
theorem TL {P:Program} {E:Env} {fns:FT} {hm:List (Nat×Nat)} {rD:uE} (hE:b0 P E) (DA:P.follows .mixedOrders=true) (hF:wF P fns) (hc:l4 P rD) (k:Nat) {f:FuncId} {sg:dz} {F:Plain sg} (e:∀x c d,F x c d=J_ (Z4 E fns hm rD k) f sg x c d):bG P f sg F:=
 (FE (rb hE DA hF hc k) f sg).of e
theorem _root_.Go.Bm.V.ID {g:G} {t:Ty} {f:Bool} {l:List t.T} {v:Value} (hv:V g (.tl t f l) v):(∃a n c,v = .slice (some a) n c∧VD g.mem (.sl t.size f (l.map (de t))) v)∨(l=[]∧v = .slice none 0 0):=by
 cases hv with
 | tl _ _ _ _ hd=>
  generalize qc:List.map (de t) l=es at hd
  have pg:es.length=l.length:=by rw [←qc,zH]
  have m0:=hd
  cases hd with
  | s7 sz full A=>
   cases A with
   | none=>exact .inr ⟨zZ pg.symm,rfl⟩
   | some a=>exact .inl ⟨_,_,_,rfl,m0⟩
  | sl _ _ _ a cap vs hz hc hf hn hx hl hm E7=>
   cases a with
   | some p=>exact .inl ⟨_,_,_,rfl,m0⟩
   | none=>
    have h0:cap=0:=hn rfl
    have h1:es.length=0:=by omega
    refine .inr ⟨zZ (by omega),?_⟩
    rw [h0,h1];rfl
theorem PC.less {P:Program} {f:FuncId} {aa:List A} {S S1 S2:Hp} {r:A} (h:PC P f aa S S1 r) (hs:∀o x,S2.ob o=some x→S1.ob o=some x) (hf:∀o,S2.fr o→S1.fr o):PC P f aa S S2 r:=fun g w vs hI hl hv=>by
 refine (h g w vs hI hl hv).mono ?_
 rintro e w' ⟨v,g',rfl,q1,q2,q3⟩
 exact ⟨v,g',rfl,q1,q2.less hs hf,q3.trans (.less hs hf)⟩
theorem Ju {h:H} {i:Nat} (hl:i<cM):(hp h).ob i=fM h.t i∧((hp h).fr i↔h.aU≤i):=⟨if_pos hl,by show (if i<cM then _ else _)↔_;rw [if_pos hl]⟩
theorem ou {t:Tr gF} {n m:Nat} {l:List Rg} {k k':List Nat} (h:n≤m):(∀o x,(hp ⟨.nil,m,l,k'⟩).ob o=some x→(hp ⟨t,n,l,k⟩).ob o=some x)∧∀o,(hp ⟨.nil,m,l,k'⟩).fr o→(hp ⟨t,n,l,k⟩).fr o:=by
 refine ⟨fun o x e=>?_,fun o e=>?_⟩
 ·by_cases ho:o<cM
  ·rw [(Ju ho).1] at e
   have e0:fM .nil o=none:=by unfold fM;rw [Tr.get_nil]
   rw [show (⟨.nil,m,l,k'⟩:H).t = .nil from rfl,e0] at e
   cases e
  ·rw [(fp ho).1] at e ⊢;exact e
 ·by_cases ho:o<cM
  ·rw [(Ju ho).2] at e ⊢;exact Nat.le_trans h e
  ·rw [(fp ho).2] at e ⊢;exact e
theorem ui {P:Program} {cx:Cx} (hx:lq P cx) {f:FuncId} {t:Ty} {rs:List (Bool×Ty)} {F:List t.T→Option (ki rs×Unit)}
  (hn:FF cx f ⟨[(false,.aO t)],rs,[],[]⟩ [.v (.slice none 0 0)] () ()=F []) (h1:∀l,FF cx f ⟨[(false,.aO t)],rs,[],[]⟩ [.nn t l] () ()=F l):bG P f ⟨[(false,.aO t)],rs,[],[]⟩ (fun x _ _=>F x.1):=by
 refine ⟨fun x c d y h=>(n9 hx f _ _ c d y.1 y.2 ((h1 x.1).trans h)).1,fun x c d y d' h=>?_⟩
 obtain ⟨l,u⟩:=x
 obtain ⟨_,t1,n1,k1,p1⟩:=n9 hx f _ _ c d y d' ((h1 l).trans h)
 obtain ⟨a1,a2⟩:=ou (t:=t1) (n:=n1) (m:=n1) (l:=dC [] d'++dC [] c) (k:=k1) (k':=k1) (Nat.le_refl _)
 have full:∀m,n1≤m→PC P f [.nn t l] (hp (h0 [] [] c d)) (hp ⟨.nil,m,dC [] d'++dC [] c,k1⟩) (uW rs y):=fun m hm=>p1.less (ou hm).1 (ou hm).2
 cases l with
 | cons a l=>
  refine ⟨.nil,n1,k1,fun g w vs hI hl hv=>?_⟩
  match vs,hl with
  | [v],_=>
   rcases (hv 0 _ _ rfl rfl:V g (.tl t false (a::l)) v).ID with ⟨b,n,c2,rfl,hd⟩ | ⟨e,_⟩
   ·exact full n1 (Nat.le_refl _) g w _ hI rfl fun i p v e1 e2=>by
     cases i with
     | zero=>cases e1;cases e2;exact .nn _ _ _ _ _ hd
     | succ i=>cases e1
   ·cases e
 | nil=>
  obtain ⟨_,t0,n0,k0,p0⟩:=n9 hx f _ _ c d y d' (hn.trans h)
  refine ⟨.nil,n1+n0,k1,fun g w vs hI hl hv=>?_⟩
  match vs,hl with
  | [v],_=>
   rcases (hv 0 _ _ rfl rfl:V g (.tl t false []) v).ID with ⟨b,n,c2,rfl,hd⟩ | ⟨_,rfl⟩
   ·exact full _ (Nat.le_add_right _ _) g w _ hI rfl fun i p v e1 e2=>by
     cases i with
     | zero=>cases e1;cases e2;exact .nn _ _ _ _ _ hd
     | succ i=>cases e1
   ·exact (p0.less (S2:=hp ⟨.nil,n1+n0,dC [] d'++dC [] c,k1⟩) (ou (Nat.le_add_left _ _)).1 (ou (Nat.le_add_left _ _)).2) g w _ hI rfl fun i p v e1 e2=>by
     cases i with
     | zero=>cases e1;cases e2;exact .v _
     | succ i=>cases e1
end
end Go.Bm
namespace Go.Proofs.YtfffmmahegdfiaaGreat
open Go.Bm
set_option maxRecDepth 20000
def R0:RK:=(.box (.pair (.pair (.int .i64) (.pair (.int .i64) (.pair (.int .i64) (.int .i64)))) (.pair (.jZ 9 1) (.pair (.ptr 1) (.pair (.ptr 3) (.pair (.jZ 5 1) (.pair (.jZ 7 14) (.int .i64))))))))
def R1:RK:=(.box (.jZ 2 1))
def R2:RK:=(.row (.int .u8))
def R3:RK:=(.box (.pair (.int .i64) (.pair (.int .i64) (.jZ 4 2))))
def R4:RK:=(.row (.pair (.int .i64) (.int .i64)))
def R5:RK:=(.row (.ptr 6))
def R6:RK:=(.box (.pair (.aO (.pair (.int .u8) (.pair (.int .u8) (.pair (.int .u8) (.pair (.int .u8) (.pair (.int .i64) (.pair (.int .i64) (.int .i64)))))))) (.pair (.jZ 8 1) (.pair (.aO (.pair (.int .i64) .bool)) (.pair (.pair (.pair (.int .u8) (.pair (.int .u8) (.pair (.int .u8) (.pair (.int .u8) (.pair (.int .i64) (.pair (.int .i64) (.int .i64))))))) (.pair (.int .i64) (.pair (.int .i64) (.pair (.int .u64) (.pair (.int .u64) (.pair (.aO (.pair (.int .i64) .bool)) (.pair (.int .u64) (.pair (.int .u64) (.pair (.int .i64) (.pair (.int .i64) (.pair (.aO (.int .i64)) (.pair (.int .i64) (.pair (.aO (.int .i64)) (.pair (.int .i64) (.pair .bool (.pair .bool (.pair .bool (.pair (.int .i64) (.pair (.int .i64) (.aO (.int .i64))))))))))))))))))))) (.pair .bool (.int .i64)))))))
def R7:RK:=(.row (.pair (.int .i64) (.pair (.pair (.int .u8) (.pair (.int .u8) (.pair (.int .u8) (.pair (.int .u8) (.pair (.int .i64) (.pair (.int .i64) (.int .i64))))))) (.pair (.int .i64) (.pair (.int .i64) (.pair (.int .i64) (.pair (.int .i64) (.pair (.int .i64) (.aO (.int .i64))))))))))
def R8:RK:=(.row (.int .u64))
def R9:RK:=(.row (.aO (.pair (.int .u8) (.pair (.int .i64) (.int .i64)))))
def ty1:cY:=⟨.func #[] #[] false,1,8,.nilFunc,[],none,false⟩
theorem te1:bx Tryz.prog 1 ty1:=aD Tryz.underlying1 (aX (by kernel_rfl) rfl rfl) (fun _ h=>by cases h) (j9 rfl)
def ty2:cY:=⟨.int .i64,1,8,.int .i64 0,[],(some (.int .i64)),false⟩
theorem te2:bx Tryz.prog 2 ty2:=aD Tryz.underlying2 (aX (by kernel_rfl) rfl rfl) (fun _ h=>by cases h) (aT rfl (by kernel_rfl) (by kernel_rfl))
def ty3:cY:=⟨.int .i64,1,8,.int .i64 0,[],(some (.int .i64)),false⟩
theorem Wf:bx Tryz.prog 3 ty3:=aD Tryz.underlying3 (aX (by kernel_rfl) rfl rfl) (fun _ h=>by cases h) (aT rfl (by kernel_rfl) (by kernel_rfl))
def ty4:cY:=⟨.bool,1,1,.bool false,[],(some .bool),false⟩
theorem te4:bx Tryz.prog 4 ty4:=aD Tryz.underlying4 (aX (by kernel_rfl) rfl rfl) (fun _ h=>by cases h) (aT rfl (by kernel_rfl) (by kernel_rfl))
def ty5:cY:=⟨.int .u8,1,1,.int .u8 0,[],(some (.int .u8)),false⟩
theorem te5:bx Tryz.prog 5 ty5:=aD Tryz.underlying5 (aX (by kernel_rfl) rfl rfl) (fun _ h=>by cases h) (aT rfl (by kernel_rfl) (by kernel_rfl))
def ty9:cY:=⟨.string,1,16,.string ByteArray.empty,[],none,false⟩
theorem te9:bx Tryz.prog 9 ty9:=aD Tryz.underlying9 (aX (by kernel_rfl) rfl rfl) (fun _ h=>by cases h) (j9 rfl)
def Ow:cY:=⟨.int .u64,1,8,.int .u64 0,[],(some (.int .u64)),false⟩
theorem Wp:bx Tryz.prog 12 Ow:=aD Tryz.underlying12 (aX (by kernel_rfl) rfl rfl) (fun _ h=>by cases h) (aT rfl (by kernel_rfl) (by kernel_rfl))
def Ov : cY := ⟨.struct #[⟨"msg", 9, 0, false, "", "runtime", 0⟩, ⟨"addr", 12, 1, false, "", "runtime", 16⟩], 2, 24, .agg #[.string ByteArray.empty, .int .u64 0], [(0, 1), (1, 1)], none, false⟩
theorem Wo:bx Tryz.prog 13 Ov:=aD Tryz.underlying13 (aX (by kernel_rfl) rfl rfl) (fun fs h w=>by cases h;kernel_rfl) (j9 rfl)
def Ou:cY:=⟨.int .i32,1,4,.int .i32 0,[],(some (.int .i32)),false⟩
theorem Wn:bx Tryz.prog 21 Ou:=aD Tryz.underlying21 (aX (by kernel_rfl) rfl rfl) (fun _ h=>by cases h) (aT rfl (by kernel_rfl) (by kernel_rfl))
def Ot : cY := ⟨.struct #[⟨"Scopes", 3, 0, false, "", "", 0⟩, ⟨"Threads", 3, 1, false, "", "", 8⟩, ⟨"Immortal", 3, 2, false, "", "", 16⟩, ⟨"Heap", 3, 3, false, "", "", 24⟩], 4, 32, .agg #[.int .i64 0, .int .i64 0, .int .i64 0, .int .i64 0], [(0, 1), (1, 1), (2, 1), (3, 1)], (some (.pair (.int .i64) (.pair (.int .i64) (.pair (.int .i64) (.int .i64))))), false⟩
theorem Wm:bx Tryz.prog 22 Ot:=aD Tryz.underlying22 (aX (by kernel_rfl) rfl rfl) (fun fs h w=>by cases h;kernel_rfl) (aT rfl (by kernel_rfl) (by kernel_rfl))
def Oq : cY := ⟨.struct #[⟨"Scopes", 3, 0, false, "", "", 0⟩, ⟨"Threads", 3, 1, false, "", "", 8⟩, ⟨"Immortal", 3, 2, false, "", "", 16⟩, ⟨"Heap", 3, 3, false, "", "", 24⟩], 4, 32, .agg #[.int .i64 0, .int .i64 0, .int .i64 0, .int .i64 0], [(0, 1), (1, 1), (2, 1), (3, 1)], (some (.pair (.int .i64) (.pair (.int .i64) (.pair (.int .i64) (.int .i64))))), false⟩
theorem Wl:bx Tryz.prog 23 Oq:=aD Tryz.underlying23 (aX (by kernel_rfl) rfl rfl) (fun fs h w=>by cases h;kernel_rfl) (aT rfl (by kernel_rfl) (by kernel_rfl))
def Oo:cY:=⟨.slice 59,1,24,.slice none 0 0,[],(some (.aO (.aO (.pair (.int .u8) (.pair (.int .i64) (.int .i64)))))),false⟩
theorem Wk:bx Tryz.prog 24 Oo:=aD Tryz.underlying24 (aX (by kernel_rfl) rfl rfl) (fun _ h=>by cases h) (aT rfl (by kernel_rfl) (by kernel_rfl))
def On:cY:=⟨.slice 49,1,24,.slice none 0 0,[],(some (.aO (.aO (.pair (.int .u8) (.pair (.int .u8) (.pair (.int .u8) (.pair (.int .u8) (.pair (.int .i64) (.pair (.int .i64) (.int .i64)))))))))),false⟩
theorem Wj:bx Tryz.prog 25 On:=aD Tryz.underlying25 (aX (by kernel_rfl) rfl rfl) (fun _ h=>by cases h) (aT rfl (by kernel_rfl) (by kernel_rfl))
def Om : cY := ⟨.struct #[⟨"P", 23, 0, false, "", "", 0⟩, ⟨"Fins", 24, 4, false, "", "", 32⟩, ⟨"Progs", 25, 5, false, "", "", 56⟩], 6, 80, .agg #[.int .i64 0, .int .i64 0, .int .i64 0, .int .i64 0, .slice none 0 0, .slice none 0 0], [(0, 4), (4, 1), (5, 1)], (some (.pair (.pair (.int .i64) (.pair (.int .i64) (.pair (.int .i64) (.int .i64)))) (.pair (.aO (.aO (.pair (.int .u8) (.pair (.int .i64) (.int .i64))))) (.aO (.aO (.pair (.int .u8) (.pair (.int .u8) (.pair (.int .u8) (.pair (.int .u8) (.pair (.int .i64) (.pair (.int .i64) (.int .i64)))))))))))), false⟩
theorem Wi:bx Tryz.prog 26 Om:=aD Tryz.underlying26 (aX (by kernel_rfl) rfl rfl) (fun fs h w=>by cases h;kernel_rfl) (aT rfl (by kernel_rfl) (by kernel_rfl))
def Ol : cY := ⟨.struct #[⟨"P", 23, 0, false, "", "", 0⟩, ⟨"Fins", 24, 4, false, "", "", 32⟩, ⟨"Progs", 25, 5, false, "", "", 56⟩], 6, 80, .agg #[.int .i64 0, .int .i64 0, .int .i64 0, .int .i64 0, .slice none 0 0, .slice none 0 0], [(0, 4), (4, 1), (5, 1)], (some (.pair (.pair (.int .i64) (.pair (.int .i64) (.pair (.int .i64) (.int .i64)))) (.pair (.aO (.aO (.pair (.int .u8) (.pair (.int .i64) (.int .i64))))) (.aO (.aO (.pair (.int .u8) (.pair (.int .u8) (.pair (.int .u8) (.pair (.int .u8) (.pair (.int .i64) (.pair (.int .i64) (.int .i64)))))))))))), false⟩
theorem Wh:bx Tryz.prog 27 Ol:=aD Tryz.underlying27 (aX (by kernel_rfl) rfl rfl) (fun fs h w=>by cases h;kernel_rfl) (aT rfl (by kernel_rfl) (by kernel_rfl))
def Oj:cY:=⟨.slice 5,1,24,.slice none 0 0,[],(some (.aO (.int .u8))),false⟩
theorem Wg:bx Tryz.prog 28 Oj:=aD Tryz.underlying28 (aX (by kernel_rfl) rfl rfl) (fun _ h=>by cases h) (aT rfl (by kernel_rfl) (by kernel_rfl))
def Oi:cY:=⟨.pointer 75,1,8,.pointer none,[],(some (.ptr 0)),false⟩
theorem We:bx Tryz.prog 32 Oi:=aD Tryz.underlying32 (aX (by kernel_rfl) rfl rfl) (fun _ h=>by cases h) (aT rfl (by kernel_rfl) (by kernel_rfl))
def Oh:cY:=⟨.int .i64,1,8,.int .i64 0,[],(some (.int .i64)),false⟩
theorem Wd:bx Tryz.prog 33 Oh:=aD Tryz.underlying33 (aX (by kernel_rfl) rfl rfl) (fun _ h=>by cases h) (aT rfl (by kernel_rfl) (by kernel_rfl))
def Og:cY:=⟨.array 4 3,4,32,.agg #[.int .i64 0,.int .i64 0,.int .i64 0,.int .i64 0],[],(some (.arr 4 (.int .i64))),false⟩
theorem Wc:bx Tryz.prog 36 Og:=aD Tryz.underlying36 (aX (by kernel_rfl) rfl rfl) (fun _ h=>by cases h) (aT rfl (by kernel_rfl) (by kernel_rfl))
def Of:cY:=⟨.slice 47,1,24,.slice none 0 0,[],(some (.aO (.pair (.int .i64) (.pair (.pair (.int .u8) (.pair (.int .u8) (.pair (.int .u8) (.pair (.int .u8) (.pair (.int .i64) (.pair (.int .i64) (.int .i64))))))) (.pair (.int .i64) (.pair (.int .i64) (.pair (.int .i64) (.pair (.int .i64) (.pair (.int .i64) (.aO (.int .i64))))))))))),false⟩
theorem Fz:bx Tryz.prog 39 Of:=aD Tryz.underlying39 (aX (by kernel_rfl) rfl rfl) (fun _ h=>by cases h) (aT rfl (by kernel_rfl) (by kernel_rfl))
def Oe : cY := ⟨.struct #[⟨"Op", 5, 0, false, "", "", 0⟩, ⟨"R", 5, 1, false, "", "", 1⟩, ⟨"H", 5, 2, false, "", "", 2⟩, ⟨"V", 5, 3, false, "", "", 3⟩, ⟨"A", 3, 4, false, "", "", 8⟩, ⟨"B", 3, 5, false, "", "", 16⟩, ⟨"C", 3, 6, false, "", "", 24⟩], 7, 32, .agg #[.int .u8 0, .int .u8 0, .int .u8 0, .int .u8 0, .int .i64 0, .int .i64 0, .int .i64 0], [(0, 1), (1, 1), (2, 1), (3, 1), (4, 1), (5, 1), (6, 1)], (some (.pair (.int .u8) (.pair (.int .u8) (.pair (.int .u8) (.pair (.int .u8) (.pair (.int .i64) (.pair (.int .i64) (.int .i64)))))))), false⟩
theorem Wb:bx Tryz.prog 41 Oe:=aD Tryz.underlying41 (aX (by kernel_rfl) rfl rfl) (fun fs h w=>by cases h;kernel_rfl) (aT rfl (by kernel_rfl) (by kernel_rfl))
def Od : cY := ⟨.struct #[⟨"Op", 5, 0, false, "", "", 0⟩, ⟨"R", 5, 1, false, "", "", 1⟩, ⟨"H", 5, 2, false, "", "", 2⟩, ⟨"V", 5, 3, false, "", "", 3⟩, ⟨"A", 3, 4, false, "", "", 8⟩, ⟨"B", 3, 5, false, "", "", 16⟩, ⟨"C", 3, 6, false, "", "", 24⟩], 7, 32, .agg #[.int .u8 0, .int .u8 0, .int .u8 0, .int .u8 0, .int .i64 0, .int .i64 0, .int .i64 0], [(0, 1), (1, 1), (2, 1), (3, 1), (4, 1), (5, 1), (6, 1)], (some (.pair (.int .u8) (.pair (.int .u8) (.pair (.int .u8) (.pair (.int .u8) (.pair (.int .i64) (.pair (.int .i64) (.int .i64)))))))), false⟩
theorem Wa:bx Tryz.prog 42 Od:=aD Tryz.underlying42 (aX (by kernel_rfl) rfl rfl) (fun fs h w=>by cases h;kernel_rfl) (aT rfl (by kernel_rfl) (by kernel_rfl))
def Oc:cY:=⟨.slice 3,1,24,.slice none 0 0,[],(some (.aO (.int .i64))),false⟩
theorem Fy:bx Tryz.prog 43 Oc:=aD Tryz.underlying43 (aX (by kernel_rfl) rfl rfl) (fun _ h=>by cases h) (aT rfl (by kernel_rfl) (by kernel_rfl))
def Oa : cY := ⟨.struct #[⟨"Code", 33, 0, false, "", "", 0⟩, ⟨"N", 3, 1, false, "", "", 8⟩, ⟨"Said", 43, 2, false, "", "", 16⟩], 3, 40, .agg #[.int .i64 0, .int .i64 0, .slice none 0 0], [(0, 1), (1, 1), (2, 1)], (some (.pair (.int .i64) (.pair (.int .i64) (.aO (.int .i64))))), false⟩
theorem V_:bx Tryz.prog 44 Oa:=aD Tryz.underlying44 (aX (by kernel_rfl) rfl rfl) (fun fs h w=>by cases h;kernel_rfl) (aT rfl (by kernel_rfl) (by kernel_rfl))
def N_ : cY := ⟨.struct #[⟨"Code", 33, 0, false, "", "", 0⟩, ⟨"N", 3, 1, false, "", "", 8⟩, ⟨"Said", 43, 2, false, "", "", 16⟩], 3, 40, .agg #[.int .i64 0, .int .i64 0, .slice none 0 0], [(0, 1), (1, 1), (2, 1)], (some (.pair (.int .i64) (.pair (.int .i64) (.aO (.int .i64))))), false⟩
theorem V9:bx Tryz.prog 45 N_:=aD Tryz.underlying45 (aX (by kernel_rfl) rfl rfl) (fun fs h w=>by cases h;kernel_rfl) (aT rfl (by kernel_rfl) (by kernel_rfl))
def N9 : cY := ⟨.struct #[⟨"Thread", 3, 0, false, "", "", 0⟩, ⟨"Call", 42, 1, false, "", "", 8⟩, ⟨"From", 3, 8, false, "", "", 40⟩, ⟨"Point", 3, 9, false, "", "", 48⟩, ⟨"To", 3, 10, false, "", "", 56⟩, ⟨"Answer", 45, 11, false, "", "", 64⟩], 14, 104, .agg #[.int .i64 0, .int .u8 0, .int .u8 0, .int .u8 0, .int .u8 0, .int .i64 0, .int .i64 0, .int .i64 0, .int .i64 0, .int .i64 0, .int .i64 0, .int .i64 0, .int .i64 0, .slice none 0 0], [(0, 1), (1, 7), (8, 1), (9, 1), (10, 1), (11, 3)], (some (.pair (.int .i64) (.pair (.pair (.int .u8) (.pair (.int .u8) (.pair (.int .u8) (.pair (.int .u8) (.pair (.int .i64) (.pair (.int .i64) (.int .i64))))))) (.pair (.int .i64) (.pair (.int .i64) (.pair (.int .i64) (.pair (.int .i64) (.pair (.int .i64) (.aO (.int .i64)))))))))), false⟩
theorem V8:bx Tryz.prog 46 N9:=aD Tryz.underlying46 (aX (by kernel_rfl) rfl rfl) (fun fs h w=>by cases h;kernel_rfl) (aT rfl (by kernel_rfl) (by kernel_rfl))
def N8 : cY := ⟨.struct #[⟨"Thread", 3, 0, false, "", "", 0⟩, ⟨"Call", 42, 1, false, "", "", 8⟩, ⟨"From", 3, 8, false, "", "", 40⟩, ⟨"Point", 3, 9, false, "", "", 48⟩, ⟨"To", 3, 10, false, "", "", 56⟩, ⟨"Answer", 45, 11, false, "", "", 64⟩], 14, 104, .agg #[.int .i64 0, .int .u8 0, .int .u8 0, .int .u8 0, .int .u8 0, .int .i64 0, .int .i64 0, .int .i64 0, .int .i64 0, .int .i64 0, .int .i64 0, .int .i64 0, .int .i64 0, .slice none 0 0], [(0, 1), (1, 7), (8, 1), (9, 1), (10, 1), (11, 3)], (some (.pair (.int .i64) (.pair (.pair (.int .u8) (.pair (.int .u8) (.pair (.int .u8) (.pair (.int .u8) (.pair (.int .i64) (.pair (.int .i64) (.int .i64))))))) (.pair (.int .i64) (.pair (.int .i64) (.pair (.int .i64) (.pair (.int .i64) (.pair (.int .i64) (.aO (.int .i64)))))))))), false⟩
theorem OC:bx Tryz.prog 47 N8:=aD Tryz.underlying47 (aX (by kernel_rfl) rfl rfl) (fun fs h w=>by cases h;kernel_rfl) (aT rfl (by kernel_rfl) (by kernel_rfl))
def N7:cY:=⟨.slice 42,1,24,.slice none 0 0,[],(some (.aO (.pair (.int .u8) (.pair (.int .u8) (.pair (.int .u8) (.pair (.int .u8) (.pair (.int .i64) (.pair (.int .i64) (.int .i64))))))))),false⟩
theorem V7:bx Tryz.prog 49 N7:=aD Tryz.underlying49 (aX (by kernel_rfl) rfl rfl) (fun _ h=>by cases h) (aT rfl (by kernel_rfl) (by kernel_rfl))
def N6:cY:=⟨.slice 80,1,24,.slice none 0 0,[],(some (.aO (.int .u64))),false⟩
theorem V6:bx Tryz.prog 51 N6:=aD Tryz.underlying51 (aX (by kernel_rfl) rfl rfl) (fun _ h=>by cases h) (aT rfl (by kernel_rfl) (by kernel_rfl))
def N5:cY:=⟨.array 4 51,4,96,.agg #[.slice none 0 0,.slice none 0 0,.slice none 0 0,.slice none 0 0],[],(some (.arr 4 (.aO (.int .u64)))),false⟩
theorem V5:bx Tryz.prog 52 N5:=aD Tryz.underlying52 (aX (by kernel_rfl) rfl rfl) (fun _ h=>by cases h) (aT rfl (by kernel_rfl) (by kernel_rfl))
def N4:cY:=⟨.slice 95,1,24,.slice none 0 0,[],(some (.aO (.pair (.int .i64) .bool))),false⟩
theorem V4:bx Tryz.prog 53 N4:=aD Tryz.underlying53 (aX (by kernel_rfl) rfl rfl) (fun _ h=>by cases h) (aT rfl (by kernel_rfl) (by kernel_rfl))
def N3:cY:=⟨.array 4 53,4,96,.agg #[.slice none 0 0,.slice none 0 0,.slice none 0 0,.slice none 0 0],[],(some (.arr 4 (.aO (.pair (.int .i64) .bool)))),false⟩
theorem V3:bx Tryz.prog 54 N3:=aD Tryz.underlying54 (aX (by kernel_rfl) rfl rfl) (fun _ h=>by cases h) (aT rfl (by kernel_rfl) (by kernel_rfl))
def N2:cY:=⟨.slice 78,1,24,.slice none 0 0,[],(some (.aO (.pair (.int .u8) (.pair (.int .i64) (.int .i64))))),false⟩
theorem V2:bx Tryz.prog 59 N2:=aD Tryz.underlying59 (aX (by kernel_rfl) rfl rfl) (fun _ h=>by cases h) (aT rfl (by kernel_rfl) (by kernel_rfl))
def N1:cY:=⟨.pointer 140,1,8,.pointer none,[],(some (.ptr 1)),false⟩
theorem V1:bx Tryz.prog 69 N1:=aD Tryz.underlying69 (aX (by kernel_rfl) rfl rfl) (fun _ h=>by cases h) (aT rfl (by kernel_rfl) (by kernel_rfl))
def N0:cY:=⟨.pointer 143,1,8,.pointer none,[],(some (.ptr 3)),false⟩
theorem V0:bx Tryz.prog 70 N0:=aD Tryz.underlying70 (aX (by kernel_rfl) rfl rfl) (fun _ h=>by cases h) (aT rfl (by kernel_rfl) (by kernel_rfl))
def NZ:cY:=⟨.slice 79,1,24,.slice none 0 0,[],none,false⟩
theorem VZ:bx Tryz.prog 73 NZ:=aD Tryz.underlying73 (aX (by kernel_rfl) rfl rfl) (fun _ h=>by cases h) (j9 rfl)
def NY : cY := ⟨.struct #[⟨"p", 23, 0, false, "", "penfold/world", 0⟩, ⟨"fins", 24, 4, false, "", "penfold/world", 32⟩, ⟨"arena", 69, 5, false, "", "penfold/world", 56⟩, ⟨"ground", 70, 6, false, "", "penfold/world", 64⟩, ⟨"threads", 73, 7, false, "", "penfold/world", 72⟩, ⟨"ops", 39, 8, false, "", "penfold/world", 96⟩, ⟨"steps", 3, 9, false, "", "penfold/world", 120⟩], 10, 128, .agg #[.int .i64 0, .int .i64 0, .int .i64 0, .int .i64 0, .slice none 0 0, .pointer none, .pointer none, .slice none 0 0, .slice none 0 0, .int .i64 0], [(0, 4), (4, 1), (5, 1), (6, 1), (7, 1), (8, 1), (9, 1)], none, false⟩
theorem VY:bx Tryz.prog 74 NY:=aD Tryz.underlying74 (aX (by kernel_rfl) rfl rfl) (fun fs h w=>by cases h;kernel_rfl) (j9 rfl)
def NX : cY := ⟨.struct #[⟨"p", 23, 0, false, "", "penfold/world", 0⟩, ⟨"fins", 24, 4, false, "", "penfold/world", 32⟩, ⟨"arena", 69, 5, false, "", "penfold/world", 56⟩, ⟨"ground", 70, 6, false, "", "penfold/world", 64⟩, ⟨"threads", 73, 7, false, "", "penfold/world", 72⟩, ⟨"ops", 39, 8, false, "", "penfold/world", 96⟩, ⟨"steps", 3, 9, false, "", "penfold/world", 120⟩], 10, 128, .agg #[.int .i64 0, .int .i64 0, .int .i64 0, .int .i64 0, .slice none 0 0, .pointer none, .pointer none, .slice none 0 0, .slice none 0 0, .int .i64 0], [(0, 4), (4, 1), (5, 1), (6, 1), (7, 1), (8, 1), (9, 1)], (some (.pair (.pair (.int .i64) (.pair (.int .i64) (.pair (.int .i64) (.int .i64)))) (.pair (.jZ 9 1) (.pair (.ptr 1) (.pair (.ptr 3) (.pair (.jZ 5 1) (.pair (.jZ 7 14) (.int .i64)))))))), false⟩
theorem VX:bx Tryz.prog 75 NX:=aD Tryz.underlying75 (aX (by kernel_rfl) rfl rfl) (fun fs h w=>by cases h;kernel_rfl) (aT rfl (by kernel_rfl) (by kernel_rfl))
def NW : cY := ⟨.struct #[⟨"Op", 5, 0, false, "", "", 0⟩, ⟨"A", 3, 1, false, "", "", 8⟩, ⟨"B", 3, 2, false, "", "", 16⟩], 3, 24, .agg #[.int .u8 0, .int .i64 0, .int .i64 0], [(0, 1), (1, 1), (2, 1)], (some (.pair (.int .u8) (.pair (.int .i64) (.int .i64)))), false⟩
theorem VW:bx Tryz.prog 77 NW:=aD Tryz.underlying77 (aX (by kernel_rfl) rfl rfl) (fun fs h w=>by cases h;kernel_rfl) (aT rfl (by kernel_rfl) (by kernel_rfl))
def NV : cY := ⟨.struct #[⟨"Op", 5, 0, false, "", "", 0⟩, ⟨"A", 3, 1, false, "", "", 8⟩, ⟨"B", 3, 2, false, "", "", 16⟩], 3, 24, .agg #[.int .u8 0, .int .i64 0, .int .i64 0], [(0, 1), (1, 1), (2, 1)], (some (.pair (.int .u8) (.pair (.int .i64) (.int .i64)))), false⟩
theorem VV:bx Tryz.prog 78 NV:=aD Tryz.underlying78 (aX (by kernel_rfl) rfl rfl) (fun fs h w=>by cases h;kernel_rfl) (aT rfl (by kernel_rfl) (by kernel_rfl))
def NU:cY:=⟨.pointer 84,1,8,.pointer none,[],(some (.ptr 6)),false⟩
theorem VU:bx Tryz.prog 79 NU:=aD Tryz.underlying79 (aX (by kernel_rfl) rfl rfl) (fun _ h=>by cases h) (aT rfl (by kernel_rfl) (by kernel_rfl))
def NT:cY:=⟨.int .u64,1,8,.int .u64 0,[],(some (.int .u64)),false⟩
theorem VS:bx Tryz.prog 80 NT:=aD Tryz.underlying80 (aX (by kernel_rfl) rfl rfl) (fun _ h=>by cases h) (aT rfl (by kernel_rfl) (by kernel_rfl))
def NS : cY := ⟨.struct #[⟨"Call", 42, 0, false, "", "", 0⟩, ⟨"Pc", 3, 7, false, "", "", 32⟩, ⟨"Area", 3, 8, false, "", "", 40⟩, ⟨"Hand", 80, 9, false, "", "", 48⟩, ⟨"Val", 80, 10, false, "", "", 56⟩, ⟨"Chain", 53, 11, false, "", "", 64⟩, ⟨"Word", 80, 12, false, "", "", 88⟩, ⟨"Next", 80, 13, false, "", "", 96⟩, ⟨"At", 3, 14, false, "", "", 104⟩, ⟨"Top", 3, 15, false, "", "", 112⟩, ⟨"List", 43, 16, false, "", "", 120⟩, ⟨"Op", 3, 17, false, "", "", 144⟩, ⟨"Said", 43, 18, false, "", "", 152⟩, ⟨"N", 3, 19, false, "", "", 176⟩, ⟨"Held", 4, 20, false, "", "", 184⟩, ⟨"Done", 4, 21, false, "", "", 185⟩, ⟨"Point", 4, 22, false, "", "", 186⟩, ⟨"Answer", 45, 23, false, "", "", 192⟩], 26, 232, .agg #[.int .u8 0, .int .u8 0, .int .u8 0, .int .u8 0, .int .i64 0, .int .i64 0, .int .i64 0, .int .i64 0, .int .i64 0, .int .u64 0, .int .u64 0, .slice none 0 0, .int .u64 0, .int .u64 0, .int .i64 0, .int .i64 0, .slice none 0 0, .int .i64 0, .slice none 0 0, .int .i64 0, .bool false, .bool false, .bool false, .int .i64 0, .int .i64 0, .slice none 0 0], [(0, 7), (7, 1), (8, 1), (9, 1), (10, 1), (11, 1), (12, 1), (13, 1), (14, 1), (15, 1), (16, 1), (17, 1), (18, 1), (19, 1), (20, 1), (21, 1), (22, 1), (23, 3)], (some (.pair (.pair (.int .u8) (.pair (.int .u8) (.pair (.int .u8) (.pair (.int .u8) (.pair (.int .i64) (.pair (.int .i64) (.int .i64))))))) (.pair (.int .i64) (.pair (.int .i64) (.pair (.int .u64) (.pair (.int .u64) (.pair (.aO (.pair (.int .i64) .bool)) (.pair (.int .u64) (.pair (.int .u64) (.pair (.int .i64) (.pair (.int .i64) (.pair (.aO (.int .i64)) (.pair (.int .i64) (.pair (.aO (.int .i64)) (.pair (.int .i64) (.pair .bool (.pair .bool (.pair .bool (.pair (.int .i64) (.pair (.int .i64) (.aO (.int .i64)))))))))))))))))))))), false⟩
theorem VR:bx Tryz.prog 81 NS:=aD Tryz.underlying81 (aX (by kernel_rfl) rfl rfl) (fun fs h w=>by cases h;kernel_rfl) (aT rfl (by kernel_rfl) (by kernel_rfl))
def NR : cY := ⟨.struct #[⟨"Call", 42, 0, false, "", "", 0⟩, ⟨"Pc", 3, 7, false, "", "", 32⟩, ⟨"Area", 3, 8, false, "", "", 40⟩, ⟨"Hand", 80, 9, false, "", "", 48⟩, ⟨"Val", 80, 10, false, "", "", 56⟩, ⟨"Chain", 53, 11, false, "", "", 64⟩, ⟨"Word", 80, 12, false, "", "", 88⟩, ⟨"Next", 80, 13, false, "", "", 96⟩, ⟨"At", 3, 14, false, "", "", 104⟩, ⟨"Top", 3, 15, false, "", "", 112⟩, ⟨"List", 43, 16, false, "", "", 120⟩, ⟨"Op", 3, 17, false, "", "", 144⟩, ⟨"Said", 43, 18, false, "", "", 152⟩, ⟨"N", 3, 19, false, "", "", 176⟩, ⟨"Held", 4, 20, false, "", "", 184⟩, ⟨"Done", 4, 21, false, "", "", 185⟩, ⟨"Point", 4, 22, false, "", "", 186⟩, ⟨"Answer", 45, 23, false, "", "", 192⟩], 26, 232, .agg #[.int .u8 0, .int .u8 0, .int .u8 0, .int .u8 0, .int .i64 0, .int .i64 0, .int .i64 0, .int .i64 0, .int .i64 0, .int .u64 0, .int .u64 0, .slice none 0 0, .int .u64 0, .int .u64 0, .int .i64 0, .int .i64 0, .slice none 0 0, .int .i64 0, .slice none 0 0, .int .i64 0, .bool false, .bool false, .bool false, .int .i64 0, .int .i64 0, .slice none 0 0], [(0, 7), (7, 1), (8, 1), (9, 1), (10, 1), (11, 1), (12, 1), (13, 1), (14, 1), (15, 1), (16, 1), (17, 1), (18, 1), (19, 1), (20, 1), (21, 1), (22, 1), (23, 3)], (some (.pair (.pair (.int .u8) (.pair (.int .u8) (.pair (.int .u8) (.pair (.int .u8) (.pair (.int .i64) (.pair (.int .i64) (.int .i64))))))) (.pair (.int .i64) (.pair (.int .i64) (.pair (.int .u64) (.pair (.int .u64) (.pair (.aO (.pair (.int .i64) .bool)) (.pair (.int .u64) (.pair (.int .u64) (.pair (.int .i64) (.pair (.int .i64) (.pair (.aO (.int .i64)) (.pair (.int .i64) (.pair (.aO (.int .i64)) (.pair (.int .i64) (.pair .bool (.pair .bool (.pair .bool (.pair (.int .i64) (.pair (.int .i64) (.aO (.int .i64)))))))))))))))))))))), false⟩
theorem VQ:bx Tryz.prog 82 NR:=aD Tryz.underlying82 (aX (by kernel_rfl) rfl rfl) (fun fs h w=>by cases h;kernel_rfl) (aT rfl (by kernel_rfl) (by kernel_rfl))
def NQ : cY := ⟨.struct #[⟨"calls", 49, 0, false, "", "penfold/world", 0⟩, ⟨"regs", 51, 1, false, "", "penfold/world", 24⟩, ⟨"entries", 53, 2, false, "", "penfold/world", 48⟩, ⟨"run", 82, 3, false, "", "penfold/world", 72⟩, ⟨"busy", 4, 29, false, "", "penfold/world", 304⟩, ⟨"at", 3, 30, false, "", "penfold/world", 312⟩], 31, 320, .agg #[.slice none 0 0, .slice none 0 0, .slice none 0 0, .int .u8 0, .int .u8 0, .int .u8 0, .int .u8 0, .int .i64 0, .int .i64 0, .int .i64 0, .int .i64 0, .int .i64 0, .int .u64 0, .int .u64 0, .slice none 0 0, .int .u64 0, .int .u64 0, .int .i64 0, .int .i64 0, .slice none 0 0, .int .i64 0, .slice none 0 0, .int .i64 0, .bool false, .bool false, .bool false, .int .i64 0, .int .i64 0, .slice none 0 0, .bool false, .int .i64 0], [(0, 1), (1, 1), (2, 1), (3, 26), (29, 1), (30, 1)], (some (.pair (.aO (.pair (.int .u8) (.pair (.int .u8) (.pair (.int .u8) (.pair (.int .u8) (.pair (.int .i64) (.pair (.int .i64) (.int .i64)))))))) (.pair (.aO (.int .u64)) (.pair (.aO (.pair (.int .i64) .bool)) (.pair (.pair (.pair (.int .u8) (.pair (.int .u8) (.pair (.int .u8) (.pair (.int .u8) (.pair (.int .i64) (.pair (.int .i64) (.int .i64))))))) (.pair (.int .i64) (.pair (.int .i64) (.pair (.int .u64) (.pair (.int .u64) (.pair (.aO (.pair (.int .i64) .bool)) (.pair (.int .u64) (.pair (.int .u64) (.pair (.int .i64) (.pair (.int .i64) (.pair (.aO (.int .i64)) (.pair (.int .i64) (.pair (.aO (.int .i64)) (.pair (.int .i64) (.pair .bool (.pair .bool (.pair .bool (.pair (.int .i64) (.pair (.int .i64) (.aO (.int .i64))))))))))))))))))))) (.pair .bool (.int .i64))))))), false⟩
theorem VO:bx Tryz.prog 83 NQ:=aD Tryz.underlying83 (aX (by kernel_rfl) rfl rfl) (fun fs h w=>by cases h;kernel_rfl) (aT rfl (by kernel_rfl) (by kernel_rfl))
def NP : cY := ⟨.struct #[⟨"calls", 49, 0, false, "", "penfold/world", 0⟩, ⟨"regs", 51, 1, false, "", "penfold/world", 24⟩, ⟨"entries", 53, 2, false, "", "penfold/world", 48⟩, ⟨"run", 82, 3, false, "", "penfold/world", 72⟩, ⟨"busy", 4, 29, false, "", "penfold/world", 304⟩, ⟨"at", 3, 30, false, "", "penfold/world", 312⟩], 31, 320, .agg #[.slice none 0 0, .slice none 0 0, .slice none 0 0, .int .u8 0, .int .u8 0, .int .u8 0, .int .u8 0, .int .i64 0, .int .i64 0, .int .i64 0, .int .i64 0, .int .i64 0, .int .u64 0, .int .u64 0, .slice none 0 0, .int .u64 0, .int .u64 0, .int .i64 0, .int .i64 0, .slice none 0 0, .int .i64 0, .slice none 0 0, .int .i64 0, .bool false, .bool false, .bool false, .int .i64 0, .int .i64 0, .slice none 0 0, .bool false, .int .i64 0], [(0, 1), (1, 1), (2, 1), (3, 26), (29, 1), (30, 1)], (some (.pair (.aO (.pair (.int .u8) (.pair (.int .u8) (.pair (.int .u8) (.pair (.int .u8) (.pair (.int .i64) (.pair (.int .i64) (.int .i64)))))))) (.pair (.jZ 8 1) (.pair (.aO (.pair (.int .i64) .bool)) (.pair (.pair (.pair (.int .u8) (.pair (.int .u8) (.pair (.int .u8) (.pair (.int .u8) (.pair (.int .i64) (.pair (.int .i64) (.int .i64))))))) (.pair (.int .i64) (.pair (.int .i64) (.pair (.int .u64) (.pair (.int .u64) (.pair (.aO (.pair (.int .i64) .bool)) (.pair (.int .u64) (.pair (.int .u64) (.pair (.int .i64) (.pair (.int .i64) (.pair (.aO (.int .i64)) (.pair (.int .i64) (.pair (.aO (.int .i64)) (.pair (.int .i64) (.pair .bool (.pair .bool (.pair .bool (.pair (.int .i64) (.pair (.int .i64) (.aO (.int .i64))))))))))))))))))))) (.pair .bool (.int .i64))))))), false⟩
theorem VN:bx Tryz.prog 84 NP:=aD Tryz.underlying84 (aX (by kernel_rfl) rfl rfl) (fun fs h w=>by cases h;kernel_rfl) (aT rfl (by kernel_rfl) (by kernel_rfl))
def NO:cY:=⟨.pointer 47,1,8,.pointer none,[],none,false⟩
theorem VM:bx Tryz.prog 89 NO:=aD Tryz.underlying89 (aX (by kernel_rfl) rfl rfl) (fun _ h=>by cases h) (j9 rfl)
def NN : cY := ⟨.struct #[⟨"Scope", 3, 0, false, "", "", 0⟩, ⟨"Counted", 4, 1, false, "", "", 8⟩], 2, 16, .agg #[.int .i64 0, .bool false], [(0, 1), (1, 1)], (some (.pair (.int .i64) .bool)), false⟩
theorem VL:bx Tryz.prog 94 NN:=aD Tryz.underlying94 (aX (by kernel_rfl) rfl rfl) (fun fs h w=>by cases h;kernel_rfl) (aT rfl (by kernel_rfl) (by kernel_rfl))
def NM : cY := ⟨.struct #[⟨"Scope", 3, 0, false, "", "", 0⟩, ⟨"Counted", 4, 1, false, "", "", 8⟩], 2, 16, .agg #[.int .i64 0, .bool false], [(0, 1), (1, 1)], (some (.pair (.int .i64) .bool)), false⟩
theorem VJ:bx Tryz.prog 95 NM:=aD Tryz.underlying95 (aX (by kernel_rfl) rfl rfl) (fun fs h w=>by cases h;kernel_rfl) (aT rfl (by kernel_rfl) (by kernel_rfl))
def NL:cY:=⟨.func #[135,78] #[] false,1,8,.nilFunc,[],none,false⟩
theorem VI:bx Tryz.prog 97 NL:=aD Tryz.underlying97 (aX (by kernel_rfl) rfl rfl) (fun _ h=>by cases h) (j9 rfl)
def NK : cY := ⟨.struct #[⟨"a", 3, 0, false, "", "penfold/fin", 0⟩, ⟨"b", 3, 1, false, "", "penfold/fin", 8⟩, ⟨"do", 97, 2, false, "", "penfold/fin", 16⟩], 3, 24, .agg #[.int .i64 0, .int .i64 0, .nilFunc], [(0, 1), (1, 1), (2, 1)], none, false⟩
theorem VH:bx Tryz.prog 98 NK:=aD Tryz.underlying98 (aX (by kernel_rfl) rfl rfl) (fun fs h w=>by cases h;kernel_rfl) (j9 rfl)
def NJ : cY := ⟨.struct #[⟨"a", 3, 0, false, "", "penfold/fin", 0⟩, ⟨"b", 3, 1, false, "", "penfold/fin", 8⟩, ⟨"do", 97, 2, false, "", "penfold/fin", 16⟩], 3, 24, .agg #[.int .i64 0, .int .i64 0, .nilFunc], [(0, 1), (1, 1), (2, 1)], none, false⟩
theorem VG:bx Tryz.prog 99 NJ:=aD Tryz.underlying99 (aX (by kernel_rfl) rfl rfl) (fun fs h w=>by cases h;kernel_rfl) (j9 rfl)
def IB:cY:=⟨.array 5 99,15,120,.agg #[.int .i64 0,.int .i64 0,.nilFunc,.int .i64 0,.int .i64 0,.nilFunc,.int .i64 0,.int .i64 0,.nilFunc,.int .i64 0,.int .i64 0,.nilFunc,.int .i64 0,.int .i64 0,.nilFunc],[],none,false⟩
theorem Pn:bx Tryz.prog 100 IB:=aD Tryz.underlying100 (aX (by kernel_rfl) rfl rfl) (fun _ h=>by cases h) (j9 rfl)
def IA : cY := ⟨.struct #[⟨"At", 3, 0, false, "", "", 0⟩, ⟨"Size", 3, 1, false, "", "", 8⟩], 2, 16, .agg #[.int .i64 0, .int .i64 0], [(0, 1), (1, 1)], (some (.pair (.int .i64) (.int .i64))), false⟩
theorem Pm:bx Tryz.prog 107 IA:=aD Tryz.underlying107 (aX (by kernel_rfl) rfl rfl) (fun fs h w=>by cases h;kernel_rfl) (aT rfl (by kernel_rfl) (by kernel_rfl))
def Iz : cY := ⟨.struct #[⟨"At", 3, 0, false, "", "", 0⟩, ⟨"Size", 3, 1, false, "", "", 8⟩], 2, 16, .agg #[.int .i64 0, .int .i64 0], [(0, 1), (1, 1)], (some (.pair (.int .i64) (.int .i64))), false⟩
theorem Pk:bx Tryz.prog 108 Iz:=aD Tryz.underlying108 (aX (by kernel_rfl) rfl rfl) (fun fs h w=>by cases h;kernel_rfl) (aT rfl (by kernel_rfl) (by kernel_rfl))
def Iy : cY := ⟨.struct #[⟨"a", 69, 0, false, "", "penfold/found", 0⟩, ⟨"p", 23, 1, false, "", "penfold/found", 8⟩, ⟨"s", 3, 5, false, "", "penfold/found", 40⟩], 6, 48, .agg #[.pointer none, .int .i64 0, .int .i64 0, .int .i64 0, .int .i64 0, .int .i64 0], [(0, 1), (1, 4), (5, 1)], (some (.pair (.ptr 1) (.pair (.pair (.int .i64) (.pair (.int .i64) (.pair (.int .i64) (.int .i64)))) (.int .i64)))), false⟩
theorem Pj:bx Tryz.prog 113 Iy:=aD Tryz.underlying113 (aX (by kernel_rfl) rfl rfl) (fun fs h w=>by cases h;kernel_rfl) (aT rfl (by kernel_rfl) (by kernel_rfl))
def Ix : cY := ⟨.struct #[⟨"a", 69, 0, false, "", "penfold/found", 0⟩, ⟨"p", 23, 1, false, "", "penfold/found", 8⟩, ⟨"s", 3, 5, false, "", "penfold/found", 40⟩], 6, 48, .agg #[.pointer none, .int .i64 0, .int .i64 0, .int .i64 0, .int .i64 0, .int .i64 0], [(0, 1), (1, 4), (5, 1)], (some (.pair (.ptr 1) (.pair (.pair (.int .i64) (.pair (.int .i64) (.pair (.int .i64) (.int .i64)))) (.int .i64)))), false⟩
theorem Ph:bx Tryz.prog 114 Ix:=aD Tryz.underlying114 (aX (by kernel_rfl) rfl rfl) (fun fs h w=>by cases h;kernel_rfl) (aT rfl (by kernel_rfl) (by kernel_rfl))
def Iw : cY := ⟨.struct #[⟨"State", 3, 0, false, "", "", 0⟩, ⟨"Count", 3, 1, false, "", "", 8⟩, ⟨"Parent", 3, 2, false, "", "", 16⟩, ⟨"Epoch", 3, 3, false, "", "", 24⟩], 4, 32, .agg #[.int .i64 0, .int .i64 0, .int .i64 0, .int .i64 0], [(0, 1), (1, 1), (2, 1), (3, 1)], (some (.pair (.int .i64) (.pair (.int .i64) (.pair (.int .i64) (.int .i64))))), false⟩
theorem Pg:bx Tryz.prog 116 Iw:=aD Tryz.underlying116 (aX (by kernel_rfl) rfl rfl) (fun fs h w=>by cases h;kernel_rfl) (aT rfl (by kernel_rfl) (by kernel_rfl))
def Iv : cY := ⟨.struct #[⟨"State", 3, 0, false, "", "", 0⟩, ⟨"Count", 3, 1, false, "", "", 8⟩, ⟨"Parent", 3, 2, false, "", "", 16⟩, ⟨"Epoch", 3, 3, false, "", "", 24⟩], 4, 32, .agg #[.int .i64 0, .int .i64 0, .int .i64 0, .int .i64 0], [(0, 1), (1, 1), (2, 1), (3, 1)], (some (.pair (.int .i64) (.pair (.int .i64) (.pair (.int .i64) (.int .i64))))), false⟩
theorem Pf:bx Tryz.prog 117 Iv:=aD Tryz.underlying117 (aX (by kernel_rfl) rfl rfl) (fun fs h w=>by cases h;kernel_rfl) (aT rfl (by kernel_rfl) (by kernel_rfl))
def Iu : cY := ⟨.struct #[⟨"p", 23, 0, false, "", "penfold/begin", 0⟩, ⟨"l", 53, 4, false, "", "penfold/begin", 32⟩, ⟨"c", 42, 5, false, "", "penfold/begin", 56⟩, ⟨"h", 80, 12, false, "", "penfold/begin", 88⟩, ⟨"v", 80, 13, false, "", "penfold/begin", 96⟩], 14, 104, .agg #[.int .i64 0, .int .i64 0, .int .i64 0, .int .i64 0, .slice none 0 0, .int .u8 0, .int .u8 0, .int .u8 0, .int .u8 0, .int .i64 0, .int .i64 0, .int .i64 0, .int .u64 0, .int .u64 0], [(0, 4), (4, 1), (5, 7), (12, 1), (13, 1)], (some (.pair (.pair (.int .i64) (.pair (.int .i64) (.pair (.int .i64) (.int .i64)))) (.pair (.aO (.pair (.int .i64) .bool)) (.pair (.pair (.int .u8) (.pair (.int .u8) (.pair (.int .u8) (.pair (.int .u8) (.pair (.int .i64) (.pair (.int .i64) (.int .i64))))))) (.pair (.int .u64) (.int .u64)))))), false⟩
theorem Pe:bx Tryz.prog 120 Iu:=aD Tryz.underlying120 (aX (by kernel_rfl) rfl rfl) (fun fs h w=>by cases h;kernel_rfl) (aT rfl (by kernel_rfl) (by kernel_rfl))
def It : cY := ⟨.struct #[⟨"p", 23, 0, false, "", "penfold/begin", 0⟩, ⟨"l", 53, 4, false, "", "penfold/begin", 32⟩, ⟨"c", 42, 5, false, "", "penfold/begin", 56⟩, ⟨"h", 80, 12, false, "", "penfold/begin", 88⟩, ⟨"v", 80, 13, false, "", "penfold/begin", 96⟩], 14, 104, .agg #[.int .i64 0, .int .i64 0, .int .i64 0, .int .i64 0, .slice none 0 0, .int .u8 0, .int .u8 0, .int .u8 0, .int .u8 0, .int .i64 0, .int .i64 0, .int .i64 0, .int .u64 0, .int .u64 0], [(0, 4), (4, 1), (5, 7), (12, 1), (13, 1)], (some (.pair (.pair (.int .i64) (.pair (.int .i64) (.pair (.int .i64) (.int .i64)))) (.pair (.aO (.pair (.int .i64) .bool)) (.pair (.pair (.int .u8) (.pair (.int .u8) (.pair (.int .u8) (.pair (.int .u8) (.pair (.int .i64) (.pair (.int .i64) (.int .i64))))))) (.pair (.int .u64) (.int .u64)))))), false⟩
theorem Pd:bx Tryz.prog 121 It:=aD Tryz.underlying121 (aX (by kernel_rfl) rfl rfl) (fun fs h w=>by cases h;kernel_rfl) (aT rfl (by kernel_rfl) (by kernel_rfl))
def Is:cY:=⟨.pointer 137,1,8,.pointer none,[],none,false⟩
theorem Pb:bx Tryz.prog 135 Is:=aD Tryz.underlying135 (aX (by kernel_rfl) rfl rfl) (fun _ h=>by cases h) (j9 rfl)
def Ir : cY := ⟨.struct #[⟨"slots", 51, 0, false, "", "penfold/fin", 0⟩, ⟨"said", 43, 1, false, "", "penfold/fin", 24⟩, ⟨"held", 4, 2, false, "", "penfold/fin", 48⟩, ⟨"skip", 3, 3, false, "", "penfold/fin", 56⟩], 4, 64, .agg #[.slice none 0 0, .slice none 0 0, .bool false, .int .i64 0], [(0, 1), (1, 1), (2, 1), (3, 1)], (some (.pair (.aO (.int .u64)) (.pair (.aO (.int .i64)) (.pair .bool (.int .i64))))), false⟩
theorem Pa:bx Tryz.prog 136 Ir:=aD Tryz.underlying136 (aX (by kernel_rfl) rfl rfl) (fun fs h w=>by cases h;kernel_rfl) (aT rfl (by kernel_rfl) (by kernel_rfl))
def Iq : cY := ⟨.struct #[⟨"slots", 51, 0, false, "", "penfold/fin", 0⟩, ⟨"said", 43, 1, false, "", "penfold/fin", 24⟩, ⟨"held", 4, 2, false, "", "penfold/fin", 48⟩, ⟨"skip", 3, 3, false, "", "penfold/fin", 56⟩], 4, 64, .agg #[.slice none 0 0, .slice none 0 0, .bool false, .int .i64 0], [(0, 1), (1, 1), (2, 1), (3, 1)], none, false⟩
theorem O_:bx Tryz.prog 137 Iq:=aD Tryz.underlying137 (aX (by kernel_rfl) rfl rfl) (fun fs h w=>by cases h;kernel_rfl) (j9 rfl)
def Ip : cY := ⟨.struct #[⟨"b", 28, 0, false, "", "penfold/arena", 0⟩], 1, 24, .agg #[.slice none 0 0], [(0, 1)], (some (.aO (.int .u8))), false⟩
theorem O9:bx Tryz.prog 139 Ip:=aD Tryz.underlying139 (aX (by kernel_rfl) rfl rfl) (fun fs h w=>by cases h;kernel_rfl) (aT rfl (by kernel_rfl) (by kernel_rfl))
def Io : cY := ⟨.struct #[⟨"b", 28, 0, false, "", "penfold/arena", 0⟩], 1, 24, .agg #[.slice none 0 0], [(0, 1)], (some (.jZ 2 1)), false⟩
theorem O8:bx Tryz.prog 140 Io:=aD Tryz.underlying140 (aX (by kernel_rfl) rfl rfl) (fun fs h w=>by cases h;kernel_rfl) (aT rfl (by kernel_rfl) (by kernel_rfl))
def Im:cY:=⟨.slice 108,1,24,.slice none 0 0,[],(some (.aO (.pair (.int .i64) (.int .i64)))),false⟩
theorem O7:bx Tryz.prog 141 Im:=aD Tryz.underlying141 (aX (by kernel_rfl) rfl rfl) (fun _ h=>by cases h) (aT rfl (by kernel_rfl) (by kernel_rfl))
def Il : cY := ⟨.struct #[⟨"from", 3, 0, false, "", "penfold/ground", 0⟩, ⟨"end", 3, 1, false, "", "penfold/ground", 8⟩, ⟨"free", 141, 2, false, "", "penfold/ground", 16⟩], 3, 40, .agg #[.int .i64 0, .int .i64 0, .slice none 0 0], [(0, 1), (1, 1), (2, 1)], (some (.pair (.int .i64) (.pair (.int .i64) (.aO (.pair (.int .i64) (.int .i64)))))), false⟩
theorem O6:bx Tryz.prog 142 Il:=aD Tryz.underlying142 (aX (by kernel_rfl) rfl rfl) (fun fs h w=>by cases h;kernel_rfl) (aT rfl (by kernel_rfl) (by kernel_rfl))
def Ik : cY := ⟨.struct #[⟨"from", 3, 0, false, "", "penfold/ground", 0⟩, ⟨"end", 3, 1, false, "", "penfold/ground", 8⟩, ⟨"free", 141, 2, false, "", "penfold/ground", 16⟩], 3, 40, .agg #[.int .i64 0, .int .i64 0, .slice none 0 0], [(0, 1), (1, 1), (2, 1)], (some (.pair (.int .i64) (.pair (.int .i64) (.jZ 4 2)))), false⟩
theorem O5:bx Tryz.prog 143 Ik:=aD Tryz.underlying143 (aX (by kernel_rfl) rfl rfl) (fun fs h w=>by cases h;kernel_rfl) (aT rfl (by kernel_rfl) (by kernel_rfl))
def Ij : cY := ⟨.struct #[⟨"Scope", 3, 0, false, "", "", 0⟩, ⟨"Epoch", 3, 1, false, "", "", 8⟩, ⟨"At", 3, 2, false, "", "", 16⟩], 3, 24, .agg #[.int .i64 0, .int .i64 0, .int .i64 0], [(0, 1), (1, 1), (2, 1)], (some (.pair (.int .i64) (.pair (.int .i64) (.int .i64)))), false⟩
theorem O4:bx Tryz.prog 151 Ij:=aD Tryz.underlying151 (aX (by kernel_rfl) rfl rfl) (fun fs h w=>by cases h;kernel_rfl) (aT rfl (by kernel_rfl) (by kernel_rfl))
def Ii : cY := ⟨.struct #[⟨"Scope", 3, 0, false, "", "", 0⟩, ⟨"Epoch", 3, 1, false, "", "", 8⟩, ⟨"At", 3, 2, false, "", "", 16⟩], 3, 24, .agg #[.int .i64 0, .int .i64 0, .int .i64 0], [(0, 1), (1, 1), (2, 1)], (some (.pair (.int .i64) (.pair (.int .i64) (.int .i64)))), false⟩
theorem O3:bx Tryz.prog 152 Ii:=aD Tryz.underlying152 (aX (by kernel_rfl) rfl rfl) (fun fs h w=>by cases h;kernel_rfl) (aT rfl (by kernel_rfl) (by kernel_rfl))
def Ih:cY:=⟨.func #[166] #[] false,1,8,.nilFunc,[],none,false⟩
theorem O2:bx Tryz.prog 165 Ih:=aD Tryz.underlying165 (aX (by kernel_rfl) rfl rfl) (fun _ h=>by cases h) (j9 rfl)
def Ig:cY:=⟨.pointer 170,1,8,.pointer none,[],none,false⟩
theorem O1:bx Tryz.prog 166 Ig:=aD Tryz.underlying166 (aX (by kernel_rfl) rfl rfl) (fun _ h=>by cases h) (j9 rfl)
def Ie:cY:=⟨.map 3 165,1,8,.map none,[],none,false⟩
theorem O0:bx Tryz.prog 167 Ie:=aD Tryz.underlying167 (aX (by kernel_rfl) rfl rfl) (fun _ h=>by cases h) (j9 rfl)
def Ic : cY := ⟨.struct #[⟨"p", 23, 0, false, "", "penfold/take", 0⟩, ⟨"a", 69, 4, false, "", "penfold/take", 32⟩, ⟨"r", 82, 5, false, "", "penfold/take", 40⟩], 31, 272, .agg #[.int .i64 0, .int .i64 0, .int .i64 0, .int .i64 0, .pointer none, .int .u8 0, .int .u8 0, .int .u8 0, .int .u8 0, .int .i64 0, .int .i64 0, .int .i64 0, .int .i64 0, .int .i64 0, .int .u64 0, .int .u64 0, .slice none 0 0, .int .u64 0, .int .u64 0, .int .i64 0, .int .i64 0, .slice none 0 0, .int .i64 0, .slice none 0 0, .int .i64 0, .bool false, .bool false, .bool false, .int .i64 0, .int .i64 0, .slice none 0 0], [(0, 4), (4, 1), (5, 26)], (some (.pair (.pair (.int .i64) (.pair (.int .i64) (.pair (.int .i64) (.int .i64)))) (.pair (.ptr 1) (.pair (.pair (.int .u8) (.pair (.int .u8) (.pair (.int .u8) (.pair (.int .u8) (.pair (.int .i64) (.pair (.int .i64) (.int .i64))))))) (.pair (.int .i64) (.pair (.int .i64) (.pair (.int .u64) (.pair (.int .u64) (.pair (.aO (.pair (.int .i64) .bool)) (.pair (.int .u64) (.pair (.int .u64) (.pair (.int .i64) (.pair (.int .i64) (.pair (.aO (.int .i64)) (.pair (.int .i64) (.pair (.aO (.int .i64)) (.pair (.int .i64) (.pair .bool (.pair .bool (.pair .bool (.pair (.int .i64) (.pair (.int .i64) (.aO (.int .i64)))))))))))))))))))))))), false⟩
theorem OZ:bx Tryz.prog 169 Ic:=aD Tryz.underlying169 (aX (by kernel_rfl) rfl rfl) (fun fs h w=>by cases h;kernel_rfl) (aT rfl (by kernel_rfl) (by kernel_rfl))
def Ib : cY := ⟨.struct #[⟨"p", 23, 0, false, "", "penfold/take", 0⟩, ⟨"a", 69, 4, false, "", "penfold/take", 32⟩, ⟨"r", 82, 5, false, "", "penfold/take", 40⟩], 31, 272, .agg #[.int .i64 0, .int .i64 0, .int .i64 0, .int .i64 0, .pointer none, .int .u8 0, .int .u8 0, .int .u8 0, .int .u8 0, .int .i64 0, .int .i64 0, .int .i64 0, .int .i64 0, .int .i64 0, .int .u64 0, .int .u64 0, .slice none 0 0, .int .u64 0, .int .u64 0, .int .i64 0, .int .i64 0, .slice none 0 0, .int .i64 0, .slice none 0 0, .int .i64 0, .bool false, .bool false, .bool false, .int .i64 0, .int .i64 0, .slice none 0 0], [(0, 4), (4, 1), (5, 26)], (some (.pair (.pair (.int .i64) (.pair (.int .i64) (.pair (.int .i64) (.int .i64)))) (.pair (.ptr 1) (.pair (.pair (.int .u8) (.pair (.int .u8) (.pair (.int .u8) (.pair (.int .u8) (.pair (.int .i64) (.pair (.int .i64) (.int .i64))))))) (.pair (.int .i64) (.pair (.int .i64) (.pair (.int .u64) (.pair (.int .u64) (.pair (.aO (.pair (.int .i64) .bool)) (.pair (.int .u64) (.pair (.int .u64) (.pair (.int .i64) (.pair (.int .i64) (.pair (.aO (.int .i64)) (.pair (.int .i64) (.pair (.aO (.int .i64)) (.pair (.int .i64) (.pair .bool (.pair .bool (.pair .bool (.pair (.int .i64) (.pair (.int .i64) (.aO (.int .i64)))))))))))))))))))))))), false⟩
theorem OY:bx Tryz.prog 170 Ib:=aD Tryz.underlying170 (aX (by kernel_rfl) rfl rfl) (fun fs h w=>by cases h;kernel_rfl) (aT rfl (by kernel_rfl) (by kernel_rfl))
def Ia:cY:=⟨.pointer 173,1,8,.pointer none,[],none,false⟩
theorem OX:bx Tryz.prog 171 Ia:=aD Tryz.underlying171 (aX (by kernel_rfl) rfl rfl) (fun _ h=>by cases h) (j9 rfl)
def H_ : cY := ⟨.struct #[⟨"a", 69, 0, false, "", "penfold/enter", 0⟩, ⟨"at", 3, 1, false, "", "penfold/enter", 8⟩, ⟨"r", 82, 2, false, "", "penfold/enter", 16⟩], 28, 248, .agg #[.pointer none, .int .i64 0, .int .u8 0, .int .u8 0, .int .u8 0, .int .u8 0, .int .i64 0, .int .i64 0, .int .i64 0, .int .i64 0, .int .i64 0, .int .u64 0, .int .u64 0, .slice none 0 0, .int .u64 0, .int .u64 0, .int .i64 0, .int .i64 0, .slice none 0 0, .int .i64 0, .slice none 0 0, .int .i64 0, .bool false, .bool false, .bool false, .int .i64 0, .int .i64 0, .slice none 0 0], [(0, 1), (1, 1), (2, 26)], (some (.pair (.ptr 1) (.pair (.int .i64) (.pair (.pair (.int .u8) (.pair (.int .u8) (.pair (.int .u8) (.pair (.int .u8) (.pair (.int .i64) (.pair (.int .i64) (.int .i64))))))) (.pair (.int .i64) (.pair (.int .i64) (.pair (.int .u64) (.pair (.int .u64) (.pair (.aO (.pair (.int .i64) .bool)) (.pair (.int .u64) (.pair (.int .u64) (.pair (.int .i64) (.pair (.int .i64) (.pair (.aO (.int .i64)) (.pair (.int .i64) (.pair (.aO (.int .i64)) (.pair (.int .i64) (.pair .bool (.pair .bool (.pair .bool (.pair (.int .i64) (.pair (.int .i64) (.aO (.int .i64)))))))))))))))))))))))), false⟩
theorem OW:bx Tryz.prog 172 H_:=aD Tryz.underlying172 (aX (by kernel_rfl) rfl rfl) (fun fs h w=>by cases h;kernel_rfl) (aT rfl (by kernel_rfl) (by kernel_rfl))
def H9 : cY := ⟨.struct #[⟨"a", 69, 0, false, "", "penfold/enter", 0⟩, ⟨"at", 3, 1, false, "", "penfold/enter", 8⟩, ⟨"r", 82, 2, false, "", "penfold/enter", 16⟩], 28, 248, .agg #[.pointer none, .int .i64 0, .int .u8 0, .int .u8 0, .int .u8 0, .int .u8 0, .int .i64 0, .int .i64 0, .int .i64 0, .int .i64 0, .int .i64 0, .int .u64 0, .int .u64 0, .slice none 0 0, .int .u64 0, .int .u64 0, .int .i64 0, .int .i64 0, .slice none 0 0, .int .i64 0, .slice none 0 0, .int .i64 0, .bool false, .bool false, .bool false, .int .i64 0, .int .i64 0, .slice none 0 0], [(0, 1), (1, 1), (2, 26)], (some (.pair (.ptr 1) (.pair (.int .i64) (.pair (.pair (.int .u8) (.pair (.int .u8) (.pair (.int .u8) (.pair (.int .u8) (.pair (.int .i64) (.pair (.int .i64) (.int .i64))))))) (.pair (.int .i64) (.pair (.int .i64) (.pair (.int .u64) (.pair (.int .u64) (.pair (.aO (.pair (.int .i64) .bool)) (.pair (.int .u64) (.pair (.int .u64) (.pair (.int .i64) (.pair (.int .i64) (.pair (.aO (.int .i64)) (.pair (.int .i64) (.pair (.aO (.int .i64)) (.pair (.int .i64) (.pair .bool (.pair .bool (.pair .bool (.pair (.int .i64) (.pair (.int .i64) (.aO (.int .i64)))))))))))))))))))))))), false⟩
theorem OV:bx Tryz.prog 173 H9:=aD Tryz.underlying173 (aX (by kernel_rfl) rfl rfl) (fun fs h w=>by cases h;kernel_rfl) (aT rfl (by kernel_rfl) (by kernel_rfl))
def H8:cY:=⟨.map 3 1,1,8,.map none,[],none,false⟩
theorem OU:bx Tryz.prog 174 H8:=aD Tryz.underlying174 (aX (by kernel_rfl) rfl rfl) (fun _ h=>by cases h) (j9 rfl)
def H7:cY:=⟨.func #[180] #[] false,1,8,.nilFunc,[],none,false⟩
theorem OT:bx Tryz.prog 176 H7:=aD Tryz.underlying176 (aX (by kernel_rfl) rfl rfl) (fun _ h=>by cases h) (j9 rfl)
def H6:cY:=⟨.map 3 176,1,8,.map none,[],none,false⟩
theorem OS:bx Tryz.prog 178 H6:=aD Tryz.underlying178 (aX (by kernel_rfl) rfl rfl) (fun _ h=>by cases h) (j9 rfl)
def H5:cY:=⟨.pointer 182,1,8,.pointer none,[],none,false⟩
theorem OR:bx Tryz.prog 180 H5:=aD Tryz.underlying180 (aX (by kernel_rfl) rfl rfl) (fun _ h=>by cases h) (j9 rfl)
def H4 : cY := ⟨.struct #[⟨"p", 23, 0, false, "", "penfold/leave", 0⟩, ⟨"fins", 24, 4, false, "", "penfold/leave", 32⟩, ⟨"a", 69, 5, false, "", "penfold/leave", 56⟩, ⟨"r", 82, 6, false, "", "penfold/leave", 64⟩], 32, 296, .agg #[.int .i64 0, .int .i64 0, .int .i64 0, .int .i64 0, .slice none 0 0, .pointer none, .int .u8 0, .int .u8 0, .int .u8 0, .int .u8 0, .int .i64 0, .int .i64 0, .int .i64 0, .int .i64 0, .int .i64 0, .int .u64 0, .int .u64 0, .slice none 0 0, .int .u64 0, .int .u64 0, .int .i64 0, .int .i64 0, .slice none 0 0, .int .i64 0, .slice none 0 0, .int .i64 0, .bool false, .bool false, .bool false, .int .i64 0, .int .i64 0, .slice none 0 0], [(0, 4), (4, 1), (5, 1), (6, 26)], (some (.pair (.pair (.int .i64) (.pair (.int .i64) (.pair (.int .i64) (.int .i64)))) (.pair (.aO (.aO (.pair (.int .u8) (.pair (.int .i64) (.int .i64))))) (.pair (.ptr 1) (.pair (.pair (.int .u8) (.pair (.int .u8) (.pair (.int .u8) (.pair (.int .u8) (.pair (.int .i64) (.pair (.int .i64) (.int .i64))))))) (.pair (.int .i64) (.pair (.int .i64) (.pair (.int .u64) (.pair (.int .u64) (.pair (.aO (.pair (.int .i64) .bool)) (.pair (.int .u64) (.pair (.int .u64) (.pair (.int .i64) (.pair (.int .i64) (.pair (.aO (.int .i64)) (.pair (.int .i64) (.pair (.aO (.int .i64)) (.pair (.int .i64) (.pair .bool (.pair .bool (.pair .bool (.pair (.int .i64) (.pair (.int .i64) (.aO (.int .i64))))))))))))))))))))))))), false⟩
theorem OQ:bx Tryz.prog 181 H4:=aD Tryz.underlying181 (aX (by kernel_rfl) rfl rfl) (fun fs h w=>by cases h;kernel_rfl) (aT rfl (by kernel_rfl) (by kernel_rfl))
def H3 : cY := ⟨.struct #[⟨"p", 23, 0, false, "", "penfold/leave", 0⟩, ⟨"fins", 24, 4, false, "", "penfold/leave", 32⟩, ⟨"a", 69, 5, false, "", "penfold/leave", 56⟩, ⟨"r", 82, 6, false, "", "penfold/leave", 64⟩], 32, 296, .agg #[.int .i64 0, .int .i64 0, .int .i64 0, .int .i64 0, .slice none 0 0, .pointer none, .int .u8 0, .int .u8 0, .int .u8 0, .int .u8 0, .int .i64 0, .int .i64 0, .int .i64 0, .int .i64 0, .int .i64 0, .int .u64 0, .int .u64 0, .slice none 0 0, .int .u64 0, .int .u64 0, .int .i64 0, .int .i64 0, .slice none 0 0, .int .i64 0, .slice none 0 0, .int .i64 0, .bool false, .bool false, .bool false, .int .i64 0, .int .i64 0, .slice none 0 0], [(0, 4), (4, 1), (5, 1), (6, 26)], (some (.pair (.pair (.int .i64) (.pair (.int .i64) (.pair (.int .i64) (.int .i64)))) (.pair (.jZ 9 1) (.pair (.ptr 1) (.pair (.pair (.int .u8) (.pair (.int .u8) (.pair (.int .u8) (.pair (.int .u8) (.pair (.int .i64) (.pair (.int .i64) (.int .i64))))))) (.pair (.int .i64) (.pair (.int .i64) (.pair (.int .u64) (.pair (.int .u64) (.pair (.aO (.pair (.int .i64) .bool)) (.pair (.int .u64) (.pair (.int .u64) (.pair (.int .i64) (.pair (.int .i64) (.pair (.aO (.int .i64)) (.pair (.int .i64) (.pair (.aO (.int .i64)) (.pair (.int .i64) (.pair .bool (.pair .bool (.pair .bool (.pair (.int .i64) (.pair (.int .i64) (.aO (.int .i64))))))))))))))))))))))))), false⟩
theorem OP:bx Tryz.prog 182 H3:=aD Tryz.underlying182 (aX (by kernel_rfl) rfl rfl) (fun fs h w=>by cases h;kernel_rfl) (aT rfl (by kernel_rfl) (by kernel_rfl))
def H2:cY:=⟨.pointer 185,1,8,.pointer none,[],none,false⟩
theorem OO:bx Tryz.prog 183 H2:=aD Tryz.underlying183 (aX (by kernel_rfl) rfl rfl) (fun _ h=>by cases h) (j9 rfl)
def HZ : cY := ⟨.struct #[⟨"p", 23, 0, false, "", "penfold/slots", 0⟩, ⟨"a", 69, 4, false, "", "penfold/slots", 32⟩, ⟨"r", 82, 5, false, "", "penfold/slots", 40⟩, ⟨"refused", 33, 31, false, "", "penfold/slots", 272⟩], 32, 280, .agg #[.int .i64 0, .int .i64 0, .int .i64 0, .int .i64 0, .pointer none, .int .u8 0, .int .u8 0, .int .u8 0, .int .u8 0, .int .i64 0, .int .i64 0, .int .i64 0, .int .i64 0, .int .i64 0, .int .u64 0, .int .u64 0, .slice none 0 0, .int .u64 0, .int .u64 0, .int .i64 0, .int .i64 0, .slice none 0 0, .int .i64 0, .slice none 0 0, .int .i64 0, .bool false, .bool false, .bool false, .int .i64 0, .int .i64 0, .slice none 0 0, .int .i64 0], [(0, 4), (4, 1), (5, 26), (31, 1)], (some (.pair (.pair (.int .i64) (.pair (.int .i64) (.pair (.int .i64) (.int .i64)))) (.pair (.ptr 1) (.pair (.pair (.pair (.int .u8) (.pair (.int .u8) (.pair (.int .u8) (.pair (.int .u8) (.pair (.int .i64) (.pair (.int .i64) (.int .i64))))))) (.pair (.int .i64) (.pair (.int .i64) (.pair (.int .u64) (.pair (.int .u64) (.pair (.aO (.pair (.int .i64) .bool)) (.pair (.int .u64) (.pair (.int .u64) (.pair (.int .i64) (.pair (.int .i64) (.pair (.aO (.int .i64)) (.pair (.int .i64) (.pair (.aO (.int .i64)) (.pair (.int .i64) (.pair .bool (.pair .bool (.pair .bool (.pair (.int .i64) (.pair (.int .i64) (.aO (.int .i64))))))))))))))))))))) (.int .i64))))), false⟩
theorem ON:bx Tryz.prog 184 HZ:=aD Tryz.underlying184 (aX (by kernel_rfl) rfl rfl) (fun fs h w=>by cases h;kernel_rfl) (aT rfl (by kernel_rfl) (by kernel_rfl))
def HY : cY := ⟨.struct #[⟨"p", 23, 0, false, "", "penfold/slots", 0⟩, ⟨"a", 69, 4, false, "", "penfold/slots", 32⟩, ⟨"r", 82, 5, false, "", "penfold/slots", 40⟩, ⟨"refused", 33, 31, false, "", "penfold/slots", 272⟩], 32, 280, .agg #[.int .i64 0, .int .i64 0, .int .i64 0, .int .i64 0, .pointer none, .int .u8 0, .int .u8 0, .int .u8 0, .int .u8 0, .int .i64 0, .int .i64 0, .int .i64 0, .int .i64 0, .int .i64 0, .int .u64 0, .int .u64 0, .slice none 0 0, .int .u64 0, .int .u64 0, .int .i64 0, .int .i64 0, .slice none 0 0, .int .i64 0, .slice none 0 0, .int .i64 0, .bool false, .bool false, .bool false, .int .i64 0, .int .i64 0, .slice none 0 0, .int .i64 0], [(0, 4), (4, 1), (5, 26), (31, 1)], (some (.pair (.pair (.int .i64) (.pair (.int .i64) (.pair (.int .i64) (.int .i64)))) (.pair (.ptr 1) (.pair (.pair (.pair (.int .u8) (.pair (.int .u8) (.pair (.int .u8) (.pair (.int .u8) (.pair (.int .i64) (.pair (.int .i64) (.int .i64))))))) (.pair (.int .i64) (.pair (.int .i64) (.pair (.int .u64) (.pair (.int .u64) (.pair (.aO (.pair (.int .i64) .bool)) (.pair (.int .u64) (.pair (.int .u64) (.pair (.int .i64) (.pair (.int .i64) (.pair (.aO (.int .i64)) (.pair (.int .i64) (.pair (.aO (.int .i64)) (.pair (.int .i64) (.pair .bool (.pair .bool (.pair .bool (.pair (.int .i64) (.pair (.int .i64) (.aO (.int .i64))))))))))))))))))))) (.int .i64))))), false⟩
theorem OM:bx Tryz.prog 185 HY:=aD Tryz.underlying185 (aX (by kernel_rfl) rfl rfl) (fun fs h w=>by cases h;kernel_rfl) (aT rfl (by kernel_rfl) (by kernel_rfl))
def HX:cY:=⟨.int .u64,1,8,.int .u64 0,[],(some (.int .u64)),false⟩
theorem OL:bx Tryz.prog 191 HX:=aD Tryz.underlying191 (aX (by kernel_rfl) rfl rfl) (fun _ h=>by cases h) (aT rfl (by kernel_rfl) (by kernel_rfl))
def HW:cY:=⟨.slice 33,1,24,.slice none 0 0,[],(some (.aO (.int .i64))),false⟩
theorem OK:bx Tryz.prog 196 HW:=aD Tryz.underlying196 (aX (by kernel_rfl) rfl rfl) (fun _ h=>by cases h) (aT rfl (by kernel_rfl) (by kernel_rfl))
def HV:cY:=⟨.pointer 108,1,8,.pointer none,[],none,false⟩
theorem OJ:bx Tryz.prog 203 HV:=aD Tryz.underlying203 (aX (by kernel_rfl) rfl rfl) (fun _ h=>by cases h) (j9 rfl)
def HU : cY := ⟨.struct #[⟨"Size", 3, 0, false, "", "", 0⟩, ⟨"Slots", 3, 1, false, "", "", 8⟩, ⟨"Tag", 3, 2, false, "", "", 16⟩, ⟨"Done", 4, 3, false, "", "", 24⟩, ⟨"Scope", 3, 4, false, "", "", 32⟩, ⟨"Epoch", 3, 5, false, "", "", 40⟩], 6, 48, .agg #[.int .i64 0, .int .i64 0, .int .i64 0, .bool false, .int .i64 0, .int .i64 0], [(0, 1), (1, 1), (2, 1), (3, 1), (4, 1), (5, 1)], (some (.pair (.int .i64) (.pair (.int .i64) (.pair (.int .i64) (.pair .bool (.pair (.int .i64) (.int .i64))))))), false⟩
theorem OI:bx Tryz.prog 207 HU:=aD Tryz.underlying207 (aX (by kernel_rfl) rfl rfl) (fun fs h w=>by cases h;kernel_rfl) (aT rfl (by kernel_rfl) (by kernel_rfl))
def HR : cY := ⟨.struct #[⟨"Size", 3, 0, false, "", "", 0⟩, ⟨"Slots", 3, 1, false, "", "", 8⟩, ⟨"Tag", 3, 2, false, "", "", 16⟩, ⟨"Done", 4, 3, false, "", "", 24⟩, ⟨"Scope", 3, 4, false, "", "", 32⟩, ⟨"Epoch", 3, 5, false, "", "", 40⟩], 6, 48, .agg #[.int .i64 0, .int .i64 0, .int .i64 0, .bool false, .int .i64 0, .int .i64 0], [(0, 1), (1, 1), (2, 1), (3, 1), (4, 1), (5, 1)], (some (.pair (.int .i64) (.pair (.int .i64) (.pair (.int .i64) (.pair .bool (.pair (.int .i64) (.int .i64))))))), false⟩
theorem OH:bx Tryz.prog 208 HR:=aD Tryz.underlying208 (aX (by kernel_rfl) rfl rfl) (fun fs h w=>by cases h;kernel_rfl) (aT rfl (by kernel_rfl) (by kernel_rfl))
def HQ:cY:=⟨.slice 43,1,24,.slice none 0 0,[],(some (.aO (.aO (.int .i64)))),false⟩
theorem OG:bx Tryz.prog 234 HQ:=aD Tryz.underlying234 (aX (by kernel_rfl) rfl rfl) (fun _ h=>by cases h) (aT rfl (by kernel_rfl) (by kernel_rfl))
def HP:cY:=⟨.int .u32,1,4,.int .u32 0,[],(some (.int .u32)),false⟩
theorem OE:bx Tryz.prog 243 HP:=aD Tryz.underlying243 (aX (by kernel_rfl) rfl rfl) (fun _ h=>by cases h) (aT rfl (by kernel_rfl) (by kernel_rfl))
def HO:cY:=⟨.pointer 5,1,8,.pointer none,[],none,false⟩
theorem OD:bx Tryz.prog 247 HO:=aD Tryz.underlying247 (aX (by kernel_rfl) rfl rfl) (fun _ h=>by cases h) (j9 rfl)
theorem ZY:ic Tryz.prog 22:=cI Tryz.stoodInHeld22 Tryz.eqGuardType22 Tryz.underlying22 (by decide)
theorem ZX:ic Tryz.prog 23:=cI Tryz.stoodInHeld23 Tryz.eqGuardType23 Tryz.underlying23 (by decide)
theorem ZW:ic Tryz.prog 41:=cI Tryz.stoodInHeld41 Tryz.eqGuardType41 Tryz.underlying41 (by decide)
theorem ZV:ic Tryz.prog 42:=cI Tryz.stoodInHeld42 Tryz.eqGuardType42 Tryz.underlying42 (by decide)
theorem ZU:ic Tryz.prog 46:=cI Tryz.stoodInHeld46 Tryz.eqGuardType46 Tryz.underlying46 (by decide)
theorem ZT:ic Tryz.prog 47:=cI Tryz.stoodInHeld47 Tryz.eqGuardType47 Tryz.underlying47 (by decide)
theorem ZS:ic Tryz.prog 77:=cI Tryz.stoodInHeld77 Tryz.eqGuardType77 Tryz.underlying77 (by decide)
theorem ZR:ic Tryz.prog 78:=cI Tryz.stoodInHeld78 Tryz.eqGuardType78 Tryz.underlying78 (by decide)
theorem ZQ:ic Tryz.prog 94:=cI Tryz.stoodInHeld94 Tryz.eqGuardType94 Tryz.underlying94 (by decide)
theorem ZP:ic Tryz.prog 95:=cI Tryz.stoodInHeld95 Tryz.eqGuardType95 Tryz.underlying95 (by decide)
theorem TF:ic Tryz.prog 107:=cI Tryz.stoodInHeld107 Tryz.eqGuardType107 Tryz.underlying107 (by decide)
theorem TE:ic Tryz.prog 108:=cI Tryz.stoodInHeld108 Tryz.eqGuardType108 Tryz.underlying108 (by decide)
theorem TD:ic Tryz.prog 113:=cI Tryz.stoodInHeld113 Tryz.eqGuardType113 Tryz.underlying113 (by decide)
theorem TC:ic Tryz.prog 114:=cI Tryz.stoodInHeld114 Tryz.eqGuardType114 Tryz.underlying114 (by decide)
theorem TB:ic Tryz.prog 116:=cI Tryz.stoodInHeld116 Tryz.eqGuardType116 Tryz.underlying116 (by decide)
theorem TA:ic Tryz.prog 117:=cI Tryz.stoodInHeld117 Tryz.eqGuardType117 Tryz.underlying117 (by decide)
theorem Tz:ic Tryz.prog 151:=cI Tryz.stoodInHeld151 Tryz.eqGuardType151 Tryz.underlying151 (by decide)
theorem Tx:ic Tryz.prog 152:=cI Tryz.stoodInHeld152 Tryz.eqGuardType152 Tryz.underlying152 (by decide)
theorem Tw:ic Tryz.prog 169:=cI Tryz.stoodInHeld169 Tryz.eqGuardType169 Tryz.underlying169 (by decide)
theorem Tv:ic Tryz.prog 170:=cI Tryz.stoodInHeld170 Tryz.eqGuardType170 Tryz.underlying170 (by decide)
theorem Tu:ic Tryz.prog 172:=cI Tryz.stoodInHeld172 Tryz.eqGuardType172 Tryz.underlying172 (by decide)
theorem Tt:ic Tryz.prog 173:=cI Tryz.stoodInHeld173 Tryz.eqGuardType173 Tryz.underlying173 (by decide)
theorem Tq:ic Tryz.prog 184:=cI Tryz.stoodInHeld184 Tryz.eqGuardType184 Tryz.underlying184 (by decide)
theorem Tp:ic Tryz.prog 185:=cI Tryz.stoodInHeld185 Tryz.eqGuardType185 Tryz.underlying185 (by decide)
theorem Tn:ic Tryz.prog 207:=cI Tryz.stoodInHeld207 Tryz.eqGuardType207 Tryz.underlying207 (by decide)
theorem Tm:ic Tryz.prog 208:=cI Tryz.stoodInHeld208 Tryz.eqGuardType208 Tryz.underlying208 (by decide)
def env:Env:=⟨(.node (.node (.node (.node (.node (.node (.node (.node .nil none .nil) none (.node .nil (some HX) .nil)) none (.node (.node .nil none .nil) (some NM) (.node .nil none .nil))) none (.node (.node (.node .nil (some Ik) .nil) (some NU) (.node .nil (some HU) .nil)) (some N8) (.node (.node .nil none .nil) none (.node .nil none .nil)))) none (.node (.node (.node (.node .nil (some Is) .nil) none (.node .nil none .nil)) (some Of) (.node (.node .nil (some Ie) .nil) none (.node .nil none .nil))) (some Oq) (.node (.node (.node .nil (some Ij) .nil) none (.node .nil none .nil)) none (.node (.node .nil (some H2) .nil) none (.node .nil (some HO) .nil))))) (some ty3) (.node (.node (.node (.node (.node .nil none .nil) none (.node .nil none .nil)) none (.node (.node .nil none .nil) (some NJ) (.node .nil none .nil))) none (.node (.node (.node .nil none .nil) (some NQ) (.node .nil none .nil)) (some N6) (.node (.node .nil none .nil) none (.node .nil (some HP) .nil)))) none (.node (.node (.node (.node .nil (some Ip) .nil) (some NX) (.node .nil (some HV) .nil)) (some Oc) (.node (.node .nil (some Ia) .nil) (some IA) (.node .nil none .nil))) (some Ol) (.node (.node (.node .nil none .nil) none (.node .nil none .nil)) (some N2) (.node (.node .nil none .nil) none .nil))))) (some ty1) (.node (.node (.node (.node (.node (.node .nil none .nil) none (.node .nil none .nil)) (some Oh) (.node (.node .nil none .nil) (some NL) (.node .nil none .nil))) none (.node (.node (.node .nil none .nil) (some NS) (.node .nil none .nil)) (some N7) (.node (.node .nil none .nil) (some Iy) (.node .nil none .nil)))) (some ty9) (.node (.node (.node (.node .nil (some Iq) .nil) (some NZ) (.node .nil none .nil)) (some Oe) (.node (.node .nil (some Ic) .nil) none (.node .nil none .nil))) (some On) (.node (.node (.node .nil none .nil) (some NO) (.node .nil none .nil)) none (.node (.node .nil (some HY) .nil) (some It) .nil)))) (some ty5) (.node (.node (.node (.node (.node .nil none .nil) (some N1) (.node .nil none .nil)) none (.node (.node .nil (some Ih) .nil) none (.node .nil none .nil))) (some Ou) (.node (.node (.node .nil none .nil) none (.node .nil none .nil)) (some N4) (.node (.node .nil (some H4) .nil) (some Iv) (.node .nil none .nil)))) (some Ov) (.node (.node (.node (.node .nil (some Im) .nil) (some NW) (.node .nil none .nil)) (some N_) (.node (.node .nil (some H9) .nil) none (.node .nil none .nil))) none (.node (.node (.node .nil none .nil) none (.node .nil none .nil)) none (.node (.node .nil none .nil) none .nil)))))) none (.node (.node (.node (.node (.node (.node (.node .nil none .nil) none (.node .nil none .nil)) (some Oi) (.node (.node .nil none .nil) none (.node .nil none .nil))) none (.node (.node (.node .nil none .nil) (some NT) (.node .nil (some HR) .nil)) none (.node (.node .nil (some H7) .nil) none (.node .nil none .nil)))) none (.node (.node (.node (.node .nil (some Ir) .nil) none (.node .nil none .nil)) none (.node (.node .nil none .nil) none (.node .nil none .nil))) (some Oo) (.node (.node (.node .nil (some Ii) .nil) none (.node .nil none .nil)) none (.node (.node .nil (some HZ) .nil) (some Iu) .nil)))) (some ty4) (.node (.node (.node (.node (.node .nil none .nil) none (.node .nil (some HW) .nil)) (some Og) (.node (.node .nil none .nil) (some IB) (.node .nil none .nil))) none (.node (.node (.node .nil none .nil) (some NP) (.node .nil none .nil)) (some N5) (.node (.node .nil (some H5) .nil) (some Iw) (.node .nil none .nil)))) (some Ow) (.node (.node (.node (.node .nil (some Io) .nil) none (.node .nil none .nil)) (some Oa) (.node (.node .nil (some H_) .nil) (some Iz) (.node .nil none .nil))) (some Oj) (.node (.node (.node .nil none .nil) none (.node .nil none .nil)) none (.node (.node .nil none .nil) none .nil))))) (some ty2) (.node (.node (.node (.node (.node (.node .nil none .nil) none (.node .nil none .nil)) none (.node (.node .nil none .nil) (some NK) (.node .nil none .nil))) none (.node (.node (.node .nil none .nil) (some NR) (.node .nil none .nil)) none (.node (.node .nil (some H6) .nil) (some Ix) (.node .nil none .nil)))) none (.node (.node (.node (.node .nil none .nil) (some NY) (.node .nil none .nil)) (some Od) (.node (.node .nil (some Ib) .nil) none (.node .nil (some HQ) .nil))) (some Om) (.node (.node (.node .nil none .nil) none (.node .nil none .nil)) none (.node (.node .nil none .nil) none .nil)))) none (.node (.node (.node (.node (.node .nil none .nil) (some N0) (.node .nil none .nil)) none (.node (.node .nil (some Ig) .nil) none (.node .nil none .nil))) (some Ot) (.node (.node (.node .nil none .nil) none (.node .nil none .nil)) (some N3) (.node (.node .nil (some H3) .nil) none (.node .nil none .nil)))) none (.node (.node (.node (.node .nil (some Il) .nil) (some NV) (.node .nil none .nil)) (some N9) (.node (.node .nil (some H8) .nil) none (.node .nil none .nil))) none (.node (.node (.node .nil none .nil) (some NN) (.node .nil none .nil)) none (.node (.node .nil none .nil) none .nil))))))),[22,23,41,42,46,47,77,78,94,95,107,108,113,114,116,117,151,152,169,170,172,173,184,185,207,208]⟩
theorem v_:b0 Tryz.prog env:=⟨Fx (.no (.yes te1 (.yes Wf (.no (.no (.no (.no (.no (.nil _ _) (.nil _ _)) (.yes OL (.nil _ _) (.nil _ _))) (.yes VJ (.no (.nil _ _) (.nil _ _)) (.no (.nil _ _) (.nil _ _)))) (.yes OC (.yes VU (.yes O5 (.nil _ _) (.nil _ _)) (.yes OI (.nil _ _) (.nil _ _))) (.no (.no (.nil _ _) (.nil _ _)) (.no (.nil _ _) (.nil _ _))))) (.yes Wl (.yes Fz (.no (.yes Pb (.nil _ _) (.nil _ _)) (.no (.nil _ _) (.nil _ _))) (.no (.yes O0 (.nil _ _) (.nil _ _)) (.no (.nil _ _) (.nil _ _)))) (.no (.no (.yes O4 (.nil _ _) (.nil _ _)) (.no (.nil _ _) (.nil _ _))) (.no (.yes OO (.nil _ _) (.nil _ _)) (.yes OD (.nil _ _) (.nil _ _)))))) (.no (.no (.no (.no (.no (.nil _ _) (.nil _ _)) (.no (.nil _ _) (.nil _ _))) (.yes VG (.no (.nil _ _) (.nil _ _)) (.no (.nil _ _) (.nil _ _)))) (.yes V6 (.yes VO (.no (.nil _ _) (.nil _ _)) (.no (.nil _ _) (.nil _ _))) (.no (.no (.nil _ _) (.nil _ _)) (.yes OE (.nil _ _) (.nil _ _))))) (.yes Wh (.yes Fy (.yes VX (.yes O9 (.nil _ _) (.nil _ _)) (.yes OJ (.nil _ _) (.nil _ _))) (.yes Pm (.yes OX (.nil _ _) (.nil _ _)) (.no (.nil _ _) (.nil _ _)))) (.yes V2 (.no (.no (.nil _ _) (.nil _ _)) (.no (.nil _ _) (.nil _ _))) (.no (.no (.nil _ _) (.nil _ _)) (.nil _ _)))))) (.yes te5 (.yes te9 (.no (.yes Wd (.no (.no (.nil _ _) (.nil _ _)) (.no (.nil _ _) (.nil _ _))) (.yes VI (.no (.nil _ _) (.nil _ _)) (.no (.nil _ _) (.nil _ _)))) (.yes V7 (.yes VR (.no (.nil _ _) (.nil _ _)) (.no (.nil _ _) (.nil _ _))) (.yes Pj (.no (.nil _ _) (.nil _ _)) (.no (.nil _ _) (.nil _ _))))) (.yes Wj (.yes Wb (.yes VZ (.yes O_ (.nil _ _) (.nil _ _)) (.no (.nil _ _) (.nil _ _))) (.no (.yes OZ (.nil _ _) (.nil _ _)) (.no (.nil _ _) (.nil _ _)))) (.no (.yes VM (.no (.nil _ _) (.nil _ _)) (.no (.nil _ _) (.nil _ _))) (.yes Pd (.yes OM (.nil _ _) (.nil _ _)) (.nil _ _))))) (.yes Wo (.yes Wn (.no (.yes V1 (.no (.nil _ _) (.nil _ _)) (.no (.nil _ _) (.nil _ _))) (.no (.yes O2 (.nil _ _) (.nil _ _)) (.no (.nil _ _) (.nil _ _)))) (.yes V4 (.no (.no (.nil _ _) (.nil _ _)) (.no (.nil _ _) (.nil _ _))) (.yes Pf (.yes OQ (.nil _ _) (.nil _ _)) (.no (.nil _ _) (.nil _ _))))) (.no (.yes V9 (.yes VW (.yes O7 (.nil _ _) (.nil _ _)) (.no (.nil _ _) (.nil _ _))) (.no (.yes OV (.nil _ _) (.nil _ _)) (.no (.nil _ _) (.nil _ _)))) (.no (.no (.no (.nil _ _) (.nil _ _)) (.no (.nil _ _) (.nil _ _))) (.no (.no (.nil _ _) (.nil _ _)) (.nil _ _))))))) (.yes te2 (.yes te4 (.no (.no (.yes We (.no (.no (.nil _ _) (.nil _ _)) (.no (.nil _ _) (.nil _ _))) (.no (.no (.nil _ _) (.nil _ _)) (.no (.nil _ _) (.nil _ _)))) (.no (.yes VS (.no (.nil _ _) (.nil _ _)) (.yes OH (.nil _ _) (.nil _ _))) (.no (.yes OT (.nil _ _) (.nil _ _)) (.no (.nil _ _) (.nil _ _))))) (.yes Wk (.no (.no (.yes Pa (.nil _ _) (.nil _ _)) (.no (.nil _ _) (.nil _ _))) (.no (.no (.nil _ _) (.nil _ _)) (.no (.nil _ _) (.nil _ _)))) (.no (.no (.yes O3 (.nil _ _) (.nil _ _)) (.no (.nil _ _) (.nil _ _))) (.yes Pe (.yes ON (.nil _ _) (.nil _ _)) (.nil _ _))))) (.yes Wp (.no (.yes Wc (.no (.no (.nil _ _) (.nil _ _)) (.yes OK (.nil _ _) (.nil _ _))) (.yes Pn (.no (.nil _ _) (.nil _ _)) (.no (.nil _ _) (.nil _ _)))) (.yes V5 (.yes VN (.no (.nil _ _) (.nil _ _)) (.no (.nil _ _) (.nil _ _))) (.yes Pg (.yes OR (.nil _ _) (.nil _ _)) (.no (.nil _ _) (.nil _ _))))) (.yes Wg (.yes V_ (.no (.yes O8 (.nil _ _) (.nil _ _)) (.no (.nil _ _) (.nil _ _))) (.yes Pk (.yes OW (.nil _ _) (.nil _ _)) (.no (.nil _ _) (.nil _ _)))) (.no (.no (.no (.nil _ _) (.nil _ _)) (.no (.nil _ _) (.nil _ _))) (.no (.no (.nil _ _) (.nil _ _)) (.nil _ _)))))) (.no (.no (.no (.no (.no (.no (.nil _ _) (.nil _ _)) (.no (.nil _ _) (.nil _ _))) (.yes VH (.no (.nil _ _) (.nil _ _)) (.no (.nil _ _) (.nil _ _)))) (.no (.yes VQ (.no (.nil _ _) (.nil _ _)) (.no (.nil _ _) (.nil _ _))) (.yes Ph (.yes OS (.nil _ _) (.nil _ _)) (.no (.nil _ _) (.nil _ _))))) (.yes Wi (.yes Wa (.yes VY (.no (.nil _ _) (.nil _ _)) (.no (.nil _ _) (.nil _ _))) (.no (.yes OY (.nil _ _) (.nil _ _)) (.yes OG (.nil _ _) (.nil _ _)))) (.no (.no (.no (.nil _ _) (.nil _ _)) (.no (.nil _ _) (.nil _ _))) (.no (.no (.nil _ _) (.nil _ _)) (.nil _ _))))) (.no (.yes Wm (.no (.yes V0 (.no (.nil _ _) (.nil _ _)) (.no (.nil _ _) (.nil _ _))) (.no (.yes O1 (.nil _ _) (.nil _ _)) (.no (.nil _ _) (.nil _ _)))) (.yes V3 (.no (.no (.nil _ _) (.nil _ _)) (.no (.nil _ _) (.nil _ _))) (.no (.yes OP (.nil _ _) (.nil _ _)) (.no (.nil _ _) (.nil _ _))))) (.no (.yes V8 (.yes VV (.yes O6 (.nil _ _) (.nil _ _)) (.no (.nil _ _) (.nil _ _))) (.no (.yes OU (.nil _ _) (.nil _ _)) (.no (.nil _ _) (.nil _ _)))) (.no (.yes VL (.no (.nil _ _) (.nil _ _)) (.no (.nil _ _) (.nil _ _))) (.no (.no (.nil _ _) (.nil _ _)) (.nil _ _)))))))),Lh (.cons ZY (.cons ZX (.cons ZW (.cons ZV (.cons ZU (.cons ZT (.cons ZS (.cons ZR (.cons ZQ (.cons ZP (.cons TF (.cons TE (.cons TD (.cons TC (.cons TB (.cons TA (.cons Tz (.cons Tx (.cons Tw (.cons Tv (.cons Tu (.cons Tt (.cons Tq (.cons Tp (.cons Tn (.cons Tm (.nil))))))))))))))))))))))))))),by kernel_rfl⟩
def homes:List (Nat×Nat):=[(75,0),(84,6),(140,1),(143,3)]
open Go.Bm
set_option maxRecDepth 100000
def x5:aB:=comp (az Tryz.f5) (.n none .o (.n none .o (.n none .o (.n none .o (.n (some ⟨[],[],[],[],[],[]⟩) .o (.n none (.n none .o (.n none (.n (some ⟨[(11,false,(.int .i64))],[],[],[],[],[(0,R0),(1,R1),(2,R2),(3,R3),(4,R4),(6,R6),(7,R7),(8,R8),(9,R9)]⟩) (.n (some ⟨[],[],[],[],[],[]⟩) .o (.n none (.n none (.n none .o (.n none .o (.n none .o (.n none (.n none .o (.n none (.n (some ⟨[],[],[],[],[1000005],[]⟩) .o .o) .o)) (.n none .o (.n none .o (.n none .o (.n none .o (.n none .o (.n none (.n none .o (.n none (.n (some ⟨[(21,false,(.int .i64)),(22,false,(.int .i64))],[],[],[],[],[]⟩) (.n none .o (.n none (.n none (.n (some ⟨[(120,false,.bool)],[],[],[],[],[]⟩) .o .o) .o) .o)) .o) .o)) (.n (some ⟨[],[],[],[],[],[]⟩) .o (.n none .o (.n none (.n (some ⟨[],[],[],[],[1000005],[]⟩) .o .o) .o))))))))))))) .o) .o)) .o) .o)) .o))))))
def x7:aB:=comp (az Tryz.f7) (.n none .o (.n none .o (.n (some ⟨[],[],[],[],[],[]⟩) .o .o)))
def x8:aB:=comp (az Tryz.f8) (.n none .o (.n none .o (.n (some ⟨[],[(6,(.aO (.pair (.int .u8) (.pair (.int .u8) (.pair (.int .u8) (.pair (.int .u8) (.pair (.int .i64) (.pair (.int .i64) (.int .i64)))))))))],[],[],[],[]⟩) .o (.n none (.n none .o (.n none (.n (some ⟨[(7,false,(.int .i64))],[(6,(.aO (.pair (.int .u8) (.pair (.int .u8) (.pair (.int .u8) (.pair (.int .u8) (.pair (.int .i64) (.pair (.int .i64) (.int .i64)))))))))],[],[],[],[]⟩) .o .o) .o)) .o))))
def x9:aB:=comp (az Tryz.f9) (.n none .o (.n none .o (.n (some ⟨[],[],[],[],[],[]⟩) .o (.n none .o (.n none .o (.n none (.n none .o (.n none (.n (some ⟨[(50,false,(.int .i64))],[],[],[],[],[(0,R0),(9,R9)]⟩) .o .o) .o)) (.n none (.n none .o (.n none (.n (some ⟨[(68,false,(.int .i64))],[],[],[],[],[(0,R0),(5,R5),(6,R6),(8,R8)]⟩) (.n none .o (.n none .o (.n none (.n none (.n none .o (.n none .o (.n (some ⟨[],[],[],[],[],[(6,R6)]⟩) .o .o))) .o) .o))) .o) .o)) .o)))))))
def x10:aB:=comp (az Tryz.f10) (.n none .o (.n none .o (.n none .o (.n none .o (.n (some ⟨[],[],[],[],[],[(0,R0),(6,R6),(7,R7)]⟩) .o (.n (some ⟨[],[],[],[],[],[(1,R1),(2,R2),(3,R3),(4,R4),(6,R6),(9,R9)]⟩) .o (.n none .o (.n (some ⟨[],[],[],[],[],[(7,R7)]⟩) .o (.n (some ⟨[],[],[],[],[],[(6,R6),(7,R7),(8,R8)]⟩) .o .o)))))))))
def x11:aB:=comp (az Tryz.f11) (.n none .o (.n (some ⟨[],[(3,(.pair (.int .i64) (.pair (.pair (.int .u8) (.pair (.int .u8) (.pair (.int .u8) (.pair (.int .u8) (.pair (.int .i64) (.pair (.int .i64) (.int .i64))))))) (.pair (.int .i64) (.pair (.int .i64) (.pair (.int .i64) (.pair (.int .i64) (.pair (.int .i64) (.aO (.int .i64))))))))))],[],[],[],[]⟩) .o (.n none (.n none .o (.n none (.n (some ⟨[(12,false,(.int .i64))],[(3,(.pair (.int .i64) (.pair (.pair (.int .u8) (.pair (.int .u8) (.pair (.int .u8) (.pair (.int .u8) (.pair (.int .i64) (.pair (.int .i64) (.int .i64))))))) (.pair (.int .i64) (.pair (.int .i64) (.pair (.int .i64) (.pair (.int .i64) (.pair (.int .i64) (.aO (.int .i64))))))))))],[],[],[],[]⟩) .o .o) .o)) .o)))
def x12:aB:=comp (az Tryz.f12) .o
def x13:aB:=comp (az Tryz.f13) .o
def x14:aB:=comp (az Tryz.f14) .o
def x15:aB:=comp (az Tryz.f15) (.n none .o (.n none .o (.n none (.n none .o (.n none (.n (some ⟨[(5,false,(.int .i64))],[],[],[],[],[]⟩) .o .o) .o)) .o)))
def x16:aB:=comp (az Tryz.f16) (.n none .o (.n none .o (.n none (.n none .o (.n none (.n (some ⟨[(5,false,(.int .i64))],[],[],[],[],[]⟩) .o .o) .o)) .o)))
def x20:aB:=comp (az Tryz.f20) .o
def x21:aB:=comp (az Tryz.f21) (.n none .o (.n none .o (.n none (.n none .o (.n none (.n (some ⟨[(6,false,(.int .i64))],[(5,(.aO (.pair (.int .u8) (.pair (.int .u8) (.pair (.int .u8) (.pair (.int .u8) (.pair (.int .i64) (.pair (.int .i64) (.int .i64)))))))))],[],[],[],[]⟩) (.n (some ⟨[],[],[],[],[],[]⟩) .o .o) .o) .o)) .o)))
def x22:aB:=comp (az Tryz.f22) (.n none .o (.n none .o (.n none (.n none .o (.n none (.n (some ⟨[(4,false,(.int .i64))],[(3,(.aO (.pair (.int .u8) (.pair (.int .i64) (.int .i64)))))],[],[],[],[]⟩) (.n (some ⟨[],[],[],[],[],[]⟩) .o (.n none (.n none (.n none .o (.n none (.n none .o (.n none (.n (some ⟨[(6,false,(.int .i64))],[(5,(.pair (.int .u8) (.pair (.int .i64) (.int .i64))))],[],[],[],[]⟩) (.n (some ⟨[],[],[],[],[],[]⟩) .o .o) .o) .o)) .o)) .o) .o)) .o) .o)) .o)))
def x23:aB:=comp (az Tryz.f23) .o
def x24:aB:=comp (az Tryz.f24) .o
def x25:aB:=comp (az Tryz.f25) (.n none .o (.n none .o (.n none (.n none .o (.n none (.n (some ⟨[(11,false,(.int .i64))],[],[],[],[],[]⟩) (.n none .o (.n none .o (.n none (.n none (.n none .o (.n none (.n none .o (.n none (.n (some ⟨[(17,false,(.int .i64))],[],[],[],[],[]⟩) .o .o) .o)) .o)) .o) .o))) .o) .o)) .o)))
def x26:aB:=comp (az Tryz.f26) .o
def x27:aB:=comp (az Tryz.f27) .o
def x28:aB:=comp (az Tryz.f28) .o
def x29:aB:=comp (az Tryz.f29) .o
def x30:aB:=comp (az Tryz.f30) .o
def x31:aB:=comp (az Tryz.f31) .o
def x32:aB:=comp (az Tryz.f32) .o
def x33:aB:=comp (az Tryz.f33) .o
def x34:aB:=comp (az Tryz.f34) (.n none .o (.n none .o (.n none .o (.n none .o (.n none .o (.n none .o (.n none (.n none .o (.n none .o (.n (some ⟨[(36,false,.bool)],[],[],[],[],[]⟩) .o .o))) .o)))))))
def x35:aB:=comp (az Tryz.f35) .o
def x36:aB:=comp (az Tryz.f36) .o
def x37:aB:=comp (az Tryz.f37) .o
def x38:aB:=comp (az Tryz.f38) .o
def x40:aB:=comp (az Tryz.f40) .o
def x41:aB:=comp (az Tryz.f41) (.n none .o (.n none (.n none .o (.n none (.n (some ⟨[(8,false,(.int .i64))],[],[],[],[],[]⟩) .o .o) .o)) .o))
def x42:aB:=comp (az Tryz.f42) .o
def x43:aB:=comp (az Tryz.f43) .o
def x44:aB:=comp (az Tryz.f44) .o
def x45:aB:=comp (az Tryz.f45) (.n none .o (.n (some ⟨[],[],[],[],[],[]⟩) .o .o))
def x46:aB:=comp (az Tryz.f46) .o
def x47:aB:=comp (az Tryz.f47) .o
def x48:aB:=comp (az Tryz.f48) .o
def x49:aB:=comp (az Tryz.f49) .o
def x50:aB:=comp (az Tryz.f50) .o
def x51:aB:=comp (az Tryz.f51) (.n none .o (.n none .o (.n none .o (.n none .o (.n none .o (.n none .o (.n none (.n none .o (.n none (.n none .o (.n none .o (.n none .o (.n none .o (.n none .o (.n none .o (.n none .o (.n none .o (.n none .o (.n none .o (.n none .o (.n none .o (.n none .o (.n none .o (.n none .o (.n none .o (.n none .o (.n none .o (.n none .o (.n none .o (.n none .o (.n none .o (.n none .o (.n none (.n (some ⟨[(13,false,(.int .i64))],[],[],[],[],[]⟩) .o .o) .o)))))))))))))))))))))))) .o)) .o)))))))
def x52:aB:=comp (az Tryz.f52) (.n none .o (.n none (.n none .o (.n none (.n (some ⟨[(6,false,.bool)],[],[],[],[],[]⟩) .o (.n none .o (.n none .o (.n none .o (.n none .o (.n none .o (.n (some ⟨[(22,false,.bool)],[],[],[],[],[]⟩) .o .o))))))) .o)) .o))
def x53:aB:=comp (az Tryz.f53) .o
def x54:aB:=comp (az Tryz.f54) (.n none .o (.n (some ⟨[],[],[],[((8,none),[(false,(.int .u8)),(false,(.int .u8)),(false,(.int .u8)),(false,(.int .u8)),(false,(.int .i64)),(false,(.int .i64)),(false,(.int .i64)),(false,(.int .i64)),(false,(.int .i64)),(false,(.int .u64)),(false,(.int .u64)),(false,(.aO (.pair (.int .i64) .bool))),(false,(.int .u64)),(false,(.int .u64)),(false,(.int .i64)),(false,(.int .i64)),(false,(.aO (.int .i64))),(false,(.int .i64)),(false,(.aO (.int .i64))),(false,(.int .i64)),(false,.bool),(false,.bool),(false,.bool),(false,(.int .i64)),(false,(.int .i64)),(false,(.aO (.int .i64)))])],[],[]⟩) .o (.n none .o (.n none (.n none .o (.n none (.n (some ⟨[(42,false,(.int .i64))],[],[],[((8,none),[(false,(.int .u8)),(false,(.int .u8)),(false,(.int .u8)),(false,(.int .u8)),(false,(.int .i64)),(false,(.int .i64)),(false,(.int .i64)),(false,(.int .i64)),(false,(.int .i64)),(false,(.int .u64)),(false,(.int .u64)),(false,(.aO (.pair (.int .i64) .bool))),(false,(.int .u64)),(false,(.int .u64)),(false,(.int .i64)),(false,(.int .i64)),(false,(.aO (.int .i64))),(false,(.int .i64)),(false,(.aO (.int .i64))),(false,(.int .i64)),(false,.bool),(false,.bool),(false,.bool),(false,(.int .i64)),(false,(.int .i64)),(false,(.aO (.int .i64)))])],[],[(2,R2),(3,R3),(4,R4)]⟩) .o .o) .o)) .o))))
def x55:aB:=comp (az Tryz.f55) (.n none .o (.n none .o (.n none .o (.n (some ⟨[],[],[],[((6,none),[(false,(.int .u8)),(false,(.int .u8)),(false,(.int .u8)),(false,(.int .u8)),(false,(.int .i64)),(false,(.int .i64)),(false,(.int .i64)),(false,(.int .i64)),(false,(.int .i64)),(false,(.int .u64)),(false,(.int .u64)),(false,(.aO (.pair (.int .i64) .bool))),(false,(.int .u64)),(false,(.int .u64)),(false,(.int .i64)),(false,(.int .i64)),(false,(.aO (.int .i64))),(false,(.int .i64)),(false,(.aO (.int .i64))),(false,(.int .i64)),(false,.bool),(false,.bool),(false,.bool),(false,(.int .i64)),(false,(.int .i64)),(false,(.aO (.int .i64)))])],[],[]⟩) .o .o))))
def x56:aB:=comp (az Tryz.f56) (.n none .o (.n none .o (.n none .o (.n none .o (.n none .o (.n (some ⟨[],[],[],[((6,none),[(false,(.int .u8)),(false,(.int .u8)),(false,(.int .u8)),(false,(.int .u8)),(false,(.int .i64)),(false,(.int .i64)),(false,(.int .i64)),(false,(.int .i64)),(false,(.int .i64)),(false,(.int .u64)),(false,(.int .u64)),(false,(.aO (.pair (.int .i64) .bool))),(false,(.int .u64)),(false,(.int .u64)),(false,(.int .i64)),(false,(.int .i64)),(false,(.aO (.int .i64))),(false,(.int .i64)),(false,(.aO (.int .i64))),(false,(.int .i64)),(false,.bool),(false,.bool),(false,.bool),(false,(.int .i64)),(false,(.int .i64)),(false,(.aO (.int .i64)))])],[],[]⟩) .o .o))))))
def x57:aB:=comp (az Tryz.f57) (.n none .o (.n none .o (.n (some ⟨[],[],[],[((8,none),[(false,(.int .u8)),(false,(.int .u8)),(false,(.int .u8)),(false,(.int .u8)),(false,(.int .i64)),(false,(.int .i64)),(false,(.int .i64)),(false,(.int .i64)),(false,(.int .i64)),(false,(.int .u64)),(false,(.int .u64)),(false,(.aO (.pair (.int .i64) .bool))),(false,(.int .u64)),(false,(.int .u64)),(false,(.int .i64)),(false,(.int .i64)),(false,(.aO (.int .i64))),(false,(.int .i64)),(false,(.aO (.int .i64))),(false,(.int .i64)),(false,.bool),(false,.bool),(false,.bool),(false,(.int .i64)),(false,(.int .i64)),(false,(.aO (.int .i64)))])],[],[]⟩) .o .o)))
def x58:aB:=comp (az Tryz.f58) (.n none .o (.n (some ⟨[],[],[],[((6,none),[(false,(.int .u8)),(false,(.int .u8)),(false,(.int .u8)),(false,(.int .u8)),(false,(.int .i64)),(false,(.int .i64)),(false,(.int .i64)),(false,(.int .i64)),(false,(.int .i64)),(false,(.int .u64)),(false,(.int .u64)),(false,(.aO (.pair (.int .i64) .bool))),(false,(.int .u64)),(false,(.int .u64)),(false,(.int .i64)),(false,(.int .i64)),(false,(.aO (.int .i64))),(false,(.int .i64)),(false,(.aO (.int .i64))),(false,(.int .i64)),(false,.bool),(false,.bool),(false,.bool),(false,(.int .i64)),(false,(.int .i64)),(false,(.aO (.int .i64)))])],[],[]⟩) .o (.n none .o (.n (some ⟨[],[],[],[((8,none),[(false,(.int .i64)),(false,(.int .i64)),(false,(.int .i64)),(false,(.int .i64)),(false,(.ptr 1)),(false,(.int .u8)),(false,(.int .u8)),(false,(.int .u8)),(false,(.int .u8)),(false,(.int .i64)),(false,(.int .i64)),(false,(.int .i64)),(false,(.int .i64)),(false,(.int .i64)),(false,(.int .u64)),(false,(.int .u64)),(false,(.aO (.pair (.int .i64) .bool))),(false,(.int .u64)),(false,(.int .u64)),(false,(.int .i64)),(false,(.int .i64)),(false,(.aO (.int .i64))),(false,(.int .i64)),(false,(.aO (.int .i64))),(false,(.int .i64)),(false,.bool),(false,.bool),(false,.bool),(false,(.int .i64)),(false,(.int .i64)),(false,(.aO (.int .i64))),(false,(.int .i64))]),((6,none),[(false,(.int .u8)),(false,(.int .u8)),(false,(.int .u8)),(false,(.int .u8)),(false,(.int .i64)),(false,(.int .i64)),(false,(.int .i64)),(false,(.int .i64)),(false,(.int .i64)),(false,(.int .u64)),(false,(.int .u64)),(false,(.aO (.pair (.int .i64) .bool))),(false,(.int .u64)),(false,(.int .u64)),(false,(.int .i64)),(false,(.int .i64)),(false,(.aO (.int .i64))),(false,(.int .i64)),(false,(.aO (.int .i64))),(false,(.int .i64)),(false,.bool),(false,.bool),(false,.bool),(false,(.int .i64)),(false,(.int .i64)),(false,(.aO (.int .i64)))])],[],[(2,R2)]⟩) (.n none .o (.n none (.n none .o (.n none .o (.n none .o (.n none .o (.n none .o (.n none .o (.n none .o (.n none .o (.n (some ⟨[(9,false,(.int .i64))],[],[],[],[],[(2,R2)]⟩) .o .o))))))))) .o)) .o))))
def x59:aB:=comp (az Tryz.f59) .o
def x60:aB:=comp (az Tryz.f60) .o
def x61:aB:=comp (az Tryz.f61) .o
def x63:aB:=comp (az Tryz.f63) .o
def x64:aB:=comp (az Tryz.f64) (.n none .o (.n (some ⟨[(8,false,.bool)],[],[],[],[],[]⟩) .o .o))
def x65:aB:=comp (az Tryz.f65) .o
def x66:aB:=comp (az Tryz.f66) (.n none .o (.n (some ⟨[(10,false,.bool)],[],[],[],[],[]⟩) .o .o))
def x67:aB:=comp (az Tryz.f67) (.n none .o (.n (some ⟨[(19,false,.bool)],[],[],[],[],[]⟩) .o .o))
def x68:aB:=comp (az Tryz.f68) .o
def x69:aB:=comp (az Tryz.f69) .o
def x70:aB:=comp (az Tryz.f70) (.n none .o (.n none (.n none (.n (some ⟨[(8,false,.bool)],[],[],[],[],[]⟩) .o .o) .o) .o))
def x71:aB:=comp (az Tryz.f71) (.n none .o (.n none .o (.n none (.n none .o (.n none (.n (some ⟨[(12,false,(.int .i64))],[],[],[],[],[(2,R2)]⟩) .o .o) .o)) .o)))
def x72:aB:=comp (az Tryz.f72) .o
def x73:aB:=comp (az Tryz.f73) .o
def x74:aB:=comp (az Tryz.f74) .o
def x75:aB:=comp (az Tryz.f75) .o
def x76:aB:=comp (az Tryz.f76) .o
def x77:aB:=comp (az Tryz.f77) .o
def x78:aB:=comp (az Tryz.f78) (.n none .o (.n none .o (.n none (.n none (.n (some ⟨[(15,false,.bool)],[],[],[],[],[]⟩) .o .o) .o) .o)))
def x79:aB:=comp (az Tryz.f79) .o
def x80:aB:=comp (az Tryz.f80) (.n none .o (.n none (.n none .o (.n none (.n (some ⟨[(7,false,(.int .i64))],[],[],[],[],[]⟩) .o .o) .o)) .o))
def x81:aB:=comp (az Tryz.f81) (.n none .o (.n (some ⟨[],[],[],[],[],[]⟩) .o .o))
def x82:aB:=comp (az Tryz.f82) .o
def x83:aB:=comp (az Tryz.f83) .o
def x84:aB:=comp (az Tryz.f84) .o
def x85:aB:=comp (az Tryz.f85) (.n none .o (.n (some ⟨[],[],[],[],[],[]⟩) .o (.n (some ⟨[(6,false,(.int .i64))],[],[],[],[],[]⟩) .o .o)))
def x86:aB:=comp (az Tryz.f86) .o
def x87:aB:=comp (az Tryz.f87) .o
def x88:aB:=comp (az Tryz.f88) .o
def x89:aB:=comp (az Tryz.f89) .o
def x90:aB:=comp (az Tryz.f90) .o
def x91:aB:=comp (az Tryz.f91) .o
def x92:aB:=comp (az Tryz.f92) .o
def x93:aB:=comp (az Tryz.f93) .o
def x94:aB:=comp (az Tryz.f94) .o
def x95:aB:=comp (az Tryz.f95) (.n none .o (.n (some ⟨[],[],[],[((0,none),[(false,(.int .i64)),(false,(.int .i64)),(false,(.int .i64)),(false,(.int .i64)),(false,(.ptr 1)),(false,(.int .u8)),(false,(.int .u8)),(false,(.int .u8)),(false,(.int .u8)),(false,(.int .i64)),(false,(.int .i64)),(false,(.int .i64)),(false,(.int .i64)),(false,(.int .i64)),(false,(.int .u64)),(false,(.int .u64)),(false,(.aO (.pair (.int .i64) .bool))),(false,(.int .u64)),(false,(.int .u64)),(false,(.int .i64)),(false,(.int .i64)),(false,(.aO (.int .i64))),(false,(.int .i64)),(false,(.aO (.int .i64))),(false,(.int .i64)),(false,.bool),(false,.bool),(false,.bool),(false,(.int .i64)),(false,(.int .i64)),(false,(.aO (.int .i64))),(false,(.int .i64))])],[],[]⟩) .o (.n none .o (.n (some ⟨[(4,false,(.int .i64)),(5,false,(.int .i64))],[],[],[],[],[]⟩) .o .o))))
def x96:aB:=comp (az Tryz.f96) (.n none .o (.n none .o (.n none (.n none .o (.n none (.n (some ⟨[(3,false,(.int .i64))],[],[],[],[],[]⟩) (.n none (.n none (.n none (.n (some ⟨[(3,false,(.int .i64))],[],[],[],[],[]⟩) .o .o) .o) .o) .o) .o) .o)) .o)))
def x97:aB:=comp (az Tryz.f97) .o
def x98:aB:=comp (az Tryz.f98) .o
def x99:aB:=comp (az Tryz.f99) .o
def NG:aB:=comp (az Tryz.f100) .o
def NF:aB:=comp (az Tryz.f101) .o
def ND:aB:=comp (az Tryz.f102) .o
def NC:aB:=comp (az Tryz.f103) .o
def NB:aB:=comp (az Tryz.f104) .o
def NA:aB:=comp (az Tryz.f105) .o
def Nz:aB:=comp (az Tryz.f106) .o
def Ny:aB:=comp (az Tryz.f107) (.n none .o (.n (some ⟨[],[],[],[],[],[]⟩) .o (.n (some ⟨[(7,false,(.int .i64))],[],[],[],[],[]⟩) .o (.n (some ⟨[(7,false,(.int .i64))],[],[],[],[],[]⟩) .o (.n (some ⟨[],[],[],[],[],[]⟩) .o (.n none .o (.n none .o (.n none .o (.n none (.n none .o (.n none (.n (some ⟨[(107,false,(.int .i64))],[],[],[],[],[(3,R3),(4,R4)]⟩) (.n none .o (.n none .o (.n none (.n none (.n none .o (.n none .o (.n none (.n (some ⟨[(140,false,.bool)],[],[],[],[],[]⟩) .o .o) .o))) .o) .o))) .o) .o)) .o)))))))))
def Nx:aB:=comp (az Tryz.f108) .o
def Nw:aB:=comp (az Tryz.f109) (.n none .o (.n none .o (.n none .o (.n none (.n none .o (.n none (.n (some ⟨[(6,false,(.int .u64)),(12,false,(.int .i64))],[],[],[],[],[]⟩) .o .o) .o)) .o))))
def Nv:aB:=comp (az Tryz.f110) .o
def Nu:aB:=comp (az Tryz.f111) .o
def Nt:aB:=comp (az Tryz.f112) (.n none .o (.n none (.n none .o (.n none (.n (some ⟨[(8,false,(.int .i64))],[],[],[],[],[]⟩) .o .o) .o)) .o))
def Ns:aB:=comp (az Tryz.f113) .o
def Nr:aB:=comp (az Tryz.f114) .o
def Nq:aB:=comp (az Tryz.f115) .o
def Np:aB:=comp (az Tryz.f116) (.n none .o (.n none .o (.n none .o (.n (some ⟨[(5,false,(.int .u64))],[],[],[],[],[]⟩) .o .o))))
def No:aB:=comp (az Tryz.f117) (.n none .o (.n none .o (.n (some ⟨[],[],[],[],[],[]⟩) (.n none (.n none .o (.n none .o (.n (some ⟨[(30,false,.bool)],[],[],[],[],[]⟩) .o .o))) .o) (.n none .o (.n (some ⟨[],[],[],[],[],[]⟩) .o .o)))))
def Nn:aB:=comp (az Tryz.f118) (.n none .o (.n (some ⟨[],[],[],[],[],[]⟩) .o .o))
def Nm:aB:=comp (az Tryz.f119) (.n none .o (.n (some ⟨[],[],[],[((2,none),[(false,(.int .i64)),(false,(.int .i64)),(false,(.int .i64)),(false,(.int .i64))]),((4,none),[(false,(.int .i64)),(false,(.int .i64)),(false,(.int .i64)),(false,(.int .i64))])],[],[]⟩) (.n none (.n (some ⟨[(6,false,.bool)],[],[],[],[],[]⟩) .o .o) .o) .o))
def Nl:aB:=comp (az Tryz.f120) .o
def Nk:aB:=comp (az Tryz.f121) .o
def Nj:aB:=comp (az Tryz.f122) .o
def Ni:aB:=comp (az Tryz.f123) .o
def Nh:aB:=comp (az Tryz.f124) .o
def Ng:aB:=comp (az Tryz.f125) .o
def Nf:aB:=comp (az Tryz.f126) (.n none .o (.n none .o (.n none .o (.n none .o (.n none (.n none .o (.n none (.n (some ⟨[(46,false,(.int .i64))],[(5,(.int .i64)),(6,(.int .u64))],[],[],[],[(1,R1)]⟩) .o .o) .o)) (.n none .o (.n none .o (.n none (.n none .o (.n none (.n (some ⟨[(100,false,(.int .i64))],[],[],[],[],[(1,R1),(2,R2)]⟩) .o .o) .o)) (.n (some ⟨[],[],[],[((0,none),[(false,(.int .i64)),(false,(.int .i64)),(false,(.int .i64)),(false,(.int .i64)),(false,(.jZ 9 1)),(false,(.ptr 1)),(false,(.int .u8)),(false,(.int .u8)),(false,(.int .u8)),(false,(.int .u8)),(false,(.int .i64)),(false,(.int .i64)),(false,(.int .i64)),(false,(.int .i64)),(false,(.int .i64)),(false,(.int .u64)),(false,(.int .u64)),(false,(.aO (.pair (.int .i64) .bool))),(false,(.int .u64)),(false,(.int .u64)),(false,(.int .i64)),(false,(.int .i64)),(false,(.aO (.int .i64))),(false,(.int .i64)),(false,(.aO (.int .i64))),(false,(.int .i64)),(false,.bool),(false,.bool),(false,.bool),(false,(.int .i64)),(false,(.int .i64)),(false,(.aO (.int .i64)))])],[],[]⟩) .o .o)))))))))
def Nd:aB:=comp (az Tryz.f127) .o
def Nc:aB:=comp (az Tryz.f128) .o
def Nb:aB:=comp (az Tryz.f129) .o
def Na:aB:=comp (az Tryz.f130) .o
def M_:aB:=comp (az Tryz.f131) .o
def M9:aB:=comp (az Tryz.f132) .o
def M8:aB:=comp (az Tryz.f133) .o
def M7:aB:=comp (az Tryz.f134) (.n none .o (.n none .o (.n (some ⟨[],[],[],[],[],[]⟩) .o .o)))
def M6:aB:=comp (az Tryz.f135) (.n none .o (.n none .o (.n none (.n none .o (.n none (.n (some ⟨[(2,false,(.int .i64)),(9,false,(.int .i64))],[],[],[],[],[]⟩) .o .o) .o)) .o)))
def M5:aB:=comp (az Tryz.f136) (.n none .o (.n none (.n none .o (.n none (.n (some ⟨[(8,false,(.int .i64))],[],[],[],[],[]⟩) .o .o) .o)) .o))
def M4:aB:=comp (az Tryz.f137) (.n none .o (.n none (.n none .o (.n none (.n (some ⟨[(4,false,.bool)],[],[],[],[],[]⟩) .o .o) .o)) .o))
def M3:aB:=comp (az Tryz.f138) (.n none .o (.n none (.n none .o (.n none (.n (some ⟨[(8,false,(.int .i64))],[],[],[],[],[]⟩) .o .o) .o)) .o))
def M1:aB:=comp (az Tryz.f139) (.n none .o (.n none (.n none .o (.n none (.n (some ⟨[(8,false,(.int .i64))],[],[],[],[],[]⟩) .o .o) .o)) .o))
def M0:aB:=comp (az Tryz.f140) .o
def MZ:aB:=comp (az Tryz.f141) .o
def MY:aB:=comp (az Tryz.f142) .o
def MX:aB:=comp (az Tryz.f143) .o
def MW:aB:=comp (az Tryz.f144) .o
def MV:aB:=comp (az Tryz.f145) .o
def MU:aB:=comp (az Tryz.f146) .o
def MT:aB:=comp (az Tryz.f147) .o
def MS:aB:=comp (az Tryz.f148) .o
def MR:aB:=comp (az Tryz.f149) (.n none .o (.n none .o (.n none .o (.n none .o (.n (some ⟨[],[],[],[((10,none),[(true,(.int .u64)),(true,(.int .i64)),(false,.bool),(false,(.int .i64))])],[],[]⟩) .o .o)))))
def MQ:aB:=comp (az Tryz.f150) (.n none .o (.n none .o (.n none (.n none .o (.n none (.n (some ⟨[(3,false,(.int .i64)),(11,false,(.int .i64))],[],[],[],[],[]⟩) .o .o) .o)) (.n (some ⟨[],[(6,(.int .i64))],[],[],[],[]⟩) .o (.n none (.n none .o (.n none (.n (some ⟨[(27,false,(.int .i64))],[(6,(.int .i64))],[],[],[],[]⟩) .o .o) .o)) .o)))))
def MP:aB:=comp (az Tryz.f151) .o
def MO:aB:=comp (az Tryz.f152) .o
def MN:aB:=comp (az Tryz.f153) (.n none .o (.n (some ⟨[],[],[],[((6,none),[(false,(.int .i64)),(false,(.int .i64)),(false,(.int .i64)),(false,(.int .i64))])],[],[]⟩) .o .o))
def MM:aB:=comp (az Tryz.f154) .o
def ML:aB:=comp (az Tryz.f155) .o
def MK:aB:=comp (az Tryz.f156) .o
def MJ:aB:=comp (az Tryz.f157) .o
def MI:aB:=comp (az Tryz.f158) .o
def MH:aB:=comp (az Tryz.f159) .o
def MG:aB:=comp (az Tryz.f160) .o
def MF:aB:=comp (az Tryz.f161) .o
def ME:aB:=comp (az Tryz.f162) (.n none .o (.n (some ⟨[],[],[],[],[],[]⟩) .o .o))
def MD:aB:=comp (az Tryz.f163) .o
def fnT:Tr (Func×aB):=(.node (.node (.node (.node (.node (.node (.node (.node .nil (some (Tryz.f127,Nd)) .nil) (some (Tryz.f63,x63)) .nil) (some (Tryz.f31,x31)) (.node (.node .nil (some (Tryz.f159,MH)) .nil) (some (Tryz.f95,x95)) .nil)) (some (Tryz.f15,x15)) (.node (.node (.node .nil (some (Tryz.f143,MX)) .nil) (some (Tryz.f79,x79)) .nil) (some (Tryz.f47,x47)) (.node .nil (some (Tryz.f111,Nu)) .nil))) (some (Tryz.f7,x7)) (.node (.node (.node (.node .nil (some (Tryz.f135,M6)) .nil) (some (Tryz.f71,x71)) .nil) none (.node .nil (some (Tryz.f103,NC)) .nil)) (some (Tryz.f23,x23)) (.node (.node (.node .nil (some (Tryz.f151,MP)) .nil) (some (Tryz.f87,x87)) .nil) (some (Tryz.f55,x55)) (.node .nil (some (Tryz.f119,Nm)) .nil)))) none (.node (.node (.node (.node (.node .nil (some (Tryz.f131,M_)) .nil) (some (Tryz.f67,x67)) .nil) (some (Tryz.f35,x35)) (.node (.node .nil (some (Tryz.f163,MD)) .nil) (some (Tryz.f99,x99)) .nil)) none (.node (.node (.node .nil (some (Tryz.f147,MT)) .nil) (some (Tryz.f83,x83)) .nil) (some (Tryz.f51,x51)) (.node .nil (some (Tryz.f115,Nq)) .nil))) (some (Tryz.f11,x11)) (.node (.node (.node (.node .nil (some (Tryz.f139,M1)) .nil) (some (Tryz.f75,x75)) .nil) (some (Tryz.f43,x43)) (.node .nil (some (Tryz.f107,Ny)) .nil)) (some (Tryz.f27,x27)) (.node (.node (.node .nil (some (Tryz.f155,ML)) .nil) (some (Tryz.f91,x91)) .nil) (some (Tryz.f59,x59)) (.node .nil (some (Tryz.f123,Ni)) .nil))))) none (.node (.node (.node (.node (.node (.node .nil (some (Tryz.f129,Nb)) .nil) (some (Tryz.f65,x65)) .nil) (some (Tryz.f33,x33)) (.node (.node .nil (some (Tryz.f161,MF)) .nil) (some (Tryz.f97,x97)) .nil)) none (.node (.node (.node .nil (some (Tryz.f145,MV)) .nil) (some (Tryz.f81,x81)) .nil) (some (Tryz.f49,x49)) (.node .nil (some (Tryz.f113,Ns)) .nil))) (some (Tryz.f9,x9)) (.node (.node (.node (.node .nil (some (Tryz.f137,M4)) .nil) (some (Tryz.f73,x73)) .nil) (some (Tryz.f41,x41)) (.node .nil (some (Tryz.f105,NA)) .nil)) (some (Tryz.f25,x25)) (.node (.node (.node .nil (some (Tryz.f153,MN)) .nil) (some (Tryz.f89,x89)) .nil) (some (Tryz.f57,x57)) (.node .nil (some (Tryz.f121,Nk)) .nil)))) (some (Tryz.f5,x5)) (.node (.node (.node (.node (.node .nil (some (Tryz.f133,M8)) .nil) (some (Tryz.f69,x69)) .nil) (some (Tryz.f37,x37)) (.node .nil (some (Tryz.f101,NF)) .nil)) (some (Tryz.f21,x21)) (.node (.node (.node .nil (some (Tryz.f149,MR)) .nil) (some (Tryz.f85,x85)) .nil) (some (Tryz.f53,x53)) (.node .nil (some (Tryz.f117,No)) .nil))) (some (Tryz.f13,x13)) (.node (.node (.node (.node .nil (some (Tryz.f141,MZ)) .nil) (some (Tryz.f77,x77)) .nil) (some (Tryz.f45,x45)) (.node .nil (some (Tryz.f109,Nw)) .nil)) (some (Tryz.f29,x29)) (.node (.node (.node .nil (some (Tryz.f157,MJ)) .nil) (some (Tryz.f93,x93)) .nil) (some (Tryz.f61,x61)) (.node .nil (some (Tryz.f125,Ng)) .nil)))))) none (.node (.node (.node (.node (.node (.node (.node .nil (some (Tryz.f128,Nc)) .nil) (some (Tryz.f64,x64)) .nil) (some (Tryz.f32,x32)) (.node (.node .nil (some (Tryz.f160,MG)) .nil) (some (Tryz.f96,x96)) .nil)) (some (Tryz.f16,x16)) (.node (.node (.node .nil (some (Tryz.f144,MW)) .nil) (some (Tryz.f80,x80)) .nil) (some (Tryz.f48,x48)) (.node .nil (some (Tryz.f112,Nt)) .nil))) (some (Tryz.f8,x8)) (.node (.node (.node (.node .nil (some (Tryz.f136,M5)) .nil) (some (Tryz.f72,x72)) .nil) (some (Tryz.f40,x40)) (.node .nil (some (Tryz.f104,NB)) .nil)) (some (Tryz.f24,x24)) (.node (.node (.node .nil (some (Tryz.f152,MO)) .nil) (some (Tryz.f88,x88)) .nil) (some (Tryz.f56,x56)) (.node .nil (some (Tryz.f120,Nl)) .nil)))) none (.node (.node (.node (.node (.node .nil (some (Tryz.f132,M9)) .nil) (some (Tryz.f68,x68)) .nil) (some (Tryz.f36,x36)) (.node .nil (some (Tryz.f100,NG)) .nil)) (some (Tryz.f20,x20)) (.node (.node (.node .nil (some (Tryz.f148,MS)) .nil) (some (Tryz.f84,x84)) .nil) (some (Tryz.f52,x52)) (.node .nil (some (Tryz.f116,Np)) .nil))) (some (Tryz.f12,x12)) (.node (.node (.node (.node .nil (some (Tryz.f140,M0)) .nil) (some (Tryz.f76,x76)) .nil) (some (Tryz.f44,x44)) (.node .nil (some (Tryz.f108,Nx)) .nil)) (some (Tryz.f28,x28)) (.node (.node (.node .nil (some (Tryz.f156,MK)) .nil) (some (Tryz.f92,x92)) .nil) (some (Tryz.f60,x60)) (.node .nil (some (Tryz.f124,Nh)) .nil))))) none (.node (.node (.node (.node (.node (.node .nil (some (Tryz.f130,Na)) .nil) (some (Tryz.f66,x66)) .nil) (some (Tryz.f34,x34)) (.node (.node .nil (some (Tryz.f162,ME)) .nil) (some (Tryz.f98,x98)) .nil)) none (.node (.node (.node .nil (some (Tryz.f146,MU)) .nil) (some (Tryz.f82,x82)) .nil) (some (Tryz.f50,x50)) (.node .nil (some (Tryz.f114,Nr)) .nil))) (some (Tryz.f10,x10)) (.node (.node (.node (.node .nil (some (Tryz.f138,M3)) .nil) (some (Tryz.f74,x74)) .nil) (some (Tryz.f42,x42)) (.node .nil (some (Tryz.f106,Nz)) .nil)) (some (Tryz.f26,x26)) (.node (.node (.node .nil (some (Tryz.f154,MM)) .nil) (some (Tryz.f90,x90)) .nil) (some (Tryz.f58,x58)) (.node .nil (some (Tryz.f122,Nj)) .nil)))) none (.node (.node (.node (.node (.node .nil (some (Tryz.f134,M7)) .nil) (some (Tryz.f70,x70)) .nil) (some (Tryz.f38,x38)) (.node .nil (some (Tryz.f102,ND)) .nil)) (some (Tryz.f22,x22)) (.node (.node (.node .nil (some (Tryz.f150,MQ)) .nil) (some (Tryz.f86,x86)) .nil) (some (Tryz.f54,x54)) (.node .nil (some (Tryz.f118,Nn)) .nil))) (some (Tryz.f14,x14)) (.node (.node (.node (.node .nil (some (Tryz.f142,MY)) .nil) (some (Tryz.f78,x78)) .nil) (some (Tryz.f46,x46)) (.node .nil (some (Tryz.f110,Nv)) .nil)) (some (Tryz.f30,x30)) (.node (.node (.node .nil (some (Tryz.f158,MI)) .nil) (some (Tryz.f94,x94)) .nil) none (.node .nil (some (Tryz.f126,Nf)) .nil)))))))
def fns:FT:=fun f=>fnT.get f
theorem fk5:aR Tryz.prog 5 Tryz.f5 x5:=au Tryz.func5 rfl rfl
theorem fk7:aR Tryz.prog 7 Tryz.f7 x7:=au Tryz.func7 rfl rfl
theorem fk8:aR Tryz.prog 8 Tryz.f8 x8:=au Tryz.func8 rfl rfl
theorem fk9:aR Tryz.prog 9 Tryz.f9 x9:=au Tryz.func9 rfl rfl
theorem ZN:aR Tryz.prog 10 Tryz.f10 x10:=au Tryz.func10 rfl rfl
theorem ZM:aR Tryz.prog 11 Tryz.f11 x11:=au Tryz.func11 rfl rfl
theorem ZL:aR Tryz.prog 12 Tryz.f12 x12:=au Tryz.func12 rfl rfl
theorem ZK:aR Tryz.prog 13 Tryz.f13 x13:=au Tryz.func13 rfl rfl
theorem ZJ:aR Tryz.prog 14 Tryz.f14 x14:=au Tryz.func14 rfl rfl
theorem ZI:aR Tryz.prog 15 Tryz.f15 x15:=au Tryz.func15 rfl rfl
theorem ZH:aR Tryz.prog 16 Tryz.f16 x16:=au Tryz.func16 rfl rfl
theorem ZG:aR Tryz.prog 20 Tryz.f20 x20:=au Tryz.func20 rfl rfl
theorem ZF:aR Tryz.prog 21 Tryz.f21 x21:=au Tryz.func21 rfl rfl
theorem ZE:aR Tryz.prog 22 Tryz.f22 x22:=au Tryz.func22 rfl rfl
theorem ZD:aR Tryz.prog 23 Tryz.f23 x23:=au Tryz.func23 rfl rfl
theorem ZC:aR Tryz.prog 24 Tryz.f24 x24:=au Tryz.func24 rfl rfl
theorem ZB:aR Tryz.prog 25 Tryz.f25 x25:=au Tryz.func25 rfl rfl
theorem ZA:aR Tryz.prog 26 Tryz.f26 x26:=au Tryz.func26 rfl rfl
theorem Zz:aR Tryz.prog 27 Tryz.f27 x27:=au Tryz.func27 rfl rfl
theorem Zy:aR Tryz.prog 28 Tryz.f28 x28:=au Tryz.func28 rfl rfl
theorem Zx:aR Tryz.prog 29 Tryz.f29 x29:=au Tryz.func29 rfl rfl
theorem Zw:aR Tryz.prog 30 Tryz.f30 x30:=au Tryz.func30 rfl rfl
theorem Zv:aR Tryz.prog 31 Tryz.f31 x31:=au Tryz.func31 rfl rfl
theorem Zu:aR Tryz.prog 32 Tryz.f32 x32:=au Tryz.func32 rfl rfl
theorem Zt:aR Tryz.prog 33 Tryz.f33 x33:=au Tryz.func33 rfl rfl
theorem Zr:aR Tryz.prog 34 Tryz.f34 x34:=au Tryz.func34 rfl rfl
theorem G9:aR Tryz.prog 35 Tryz.f35 x35:=au Tryz.func35 rfl rfl
theorem G8:aR Tryz.prog 36 Tryz.f36 x36:=au Tryz.func36 rfl rfl
theorem Zq:aR Tryz.prog 37 Tryz.f37 x37:=au Tryz.func37 rfl rfl
theorem Zp:aR Tryz.prog 38 Tryz.f38 x38:=au Tryz.func38 rfl rfl
theorem Zo:aR Tryz.prog 40 Tryz.f40 x40:=au Tryz.func40 rfl rfl
theorem Zn:aR Tryz.prog 41 Tryz.f41 x41:=au Tryz.func41 rfl rfl
theorem Zm:aR Tryz.prog 42 Tryz.f42 x42:=au Tryz.func42 rfl rfl
theorem Zl:aR Tryz.prog 43 Tryz.f43 x43:=au Tryz.func43 rfl rfl
theorem Zk:aR Tryz.prog 44 Tryz.f44 x44:=au Tryz.func44 rfl rfl
theorem Zj:aR Tryz.prog 45 Tryz.f45 x45:=au Tryz.func45 rfl rfl
theorem Zi:aR Tryz.prog 46 Tryz.f46 x46:=au Tryz.func46 rfl rfl
theorem Zh:aR Tryz.prog 47 Tryz.f47 x47:=au Tryz.func47 rfl rfl
theorem Zg:aR Tryz.prog 48 Tryz.f48 x48:=au Tryz.func48 rfl rfl
theorem Zf:aR Tryz.prog 49 Tryz.f49 x49:=au Tryz.func49 rfl rfl
theorem Ze:aR Tryz.prog 50 Tryz.f50 x50:=au Tryz.func50 rfl rfl
theorem Zd:aR Tryz.prog 51 Tryz.f51 x51:=au Tryz.func51 rfl rfl
theorem Zc:aR Tryz.prog 52 Tryz.f52 x52:=au Tryz.func52 rfl rfl
theorem Zb:aR Tryz.prog 53 Tryz.f53 x53:=au Tryz.func53 rfl rfl
theorem Za:aR Tryz.prog 54 Tryz.f54 x54:=au Tryz.func54 rfl rfl
theorem Y_:aR Tryz.prog 55 Tryz.f55 x55:=au Tryz.func55 rfl rfl
theorem Y9:aR Tryz.prog 56 Tryz.f56 x56:=au Tryz.func56 rfl rfl
theorem Y8:aR Tryz.prog 57 Tryz.f57 x57:=au Tryz.func57 rfl rfl
theorem Y7:aR Tryz.prog 58 Tryz.f58 x58:=au Tryz.func58 rfl rfl
theorem Y6:aR Tryz.prog 59 Tryz.f59 x59:=au Tryz.func59 rfl rfl
theorem Y5:aR Tryz.prog 60 Tryz.f60 x60:=au Tryz.func60 rfl rfl
theorem Y4:aR Tryz.prog 61 Tryz.f61 x61:=au Tryz.func61 rfl rfl
theorem Y3:aR Tryz.prog 63 Tryz.f63 x63:=au Tryz.func63 rfl rfl
theorem Y2:aR Tryz.prog 64 Tryz.f64 x64:=au Tryz.func64 rfl rfl
theorem Y1:aR Tryz.prog 65 Tryz.f65 x65:=au Tryz.func65 rfl rfl
theorem Y0:aR Tryz.prog 66 Tryz.f66 x66:=au Tryz.func66 rfl rfl
theorem YZ:aR Tryz.prog 67 Tryz.f67 x67:=au Tryz.func67 rfl rfl
theorem YY:aR Tryz.prog 68 Tryz.f68 x68:=au Tryz.func68 rfl rfl
theorem YX:aR Tryz.prog 69 Tryz.f69 x69:=au Tryz.func69 rfl rfl
theorem YW:aR Tryz.prog 70 Tryz.f70 x70:=au Tryz.func70 rfl rfl
theorem YV:aR Tryz.prog 71 Tryz.f71 x71:=au Tryz.func71 rfl rfl
theorem YU:aR Tryz.prog 72 Tryz.f72 x72:=au Tryz.func72 rfl rfl
theorem YT:aR Tryz.prog 73 Tryz.f73 x73:=au Tryz.func73 rfl rfl
theorem YS:aR Tryz.prog 74 Tryz.f74 x74:=au Tryz.func74 rfl rfl
theorem YR:aR Tryz.prog 75 Tryz.f75 x75:=au Tryz.func75 rfl rfl
theorem YQ:aR Tryz.prog 76 Tryz.f76 x76:=au Tryz.func76 rfl rfl
theorem YP:aR Tryz.prog 77 Tryz.f77 x77:=au Tryz.func77 rfl rfl
theorem YO:aR Tryz.prog 78 Tryz.f78 x78:=au Tryz.func78 rfl rfl
theorem YN:aR Tryz.prog 79 Tryz.f79 x79:=au Tryz.func79 rfl rfl
theorem YM:aR Tryz.prog 80 Tryz.f80 x80:=au Tryz.func80 rfl rfl
theorem YL:aR Tryz.prog 81 Tryz.f81 x81:=au Tryz.func81 rfl rfl
theorem YK:aR Tryz.prog 82 Tryz.f82 x82:=au Tryz.func82 rfl rfl
theorem YJ:aR Tryz.prog 83 Tryz.f83 x83:=au Tryz.func83 rfl rfl
theorem YI:aR Tryz.prog 84 Tryz.f84 x84:=au Tryz.func84 rfl rfl
theorem YH:aR Tryz.prog 85 Tryz.f85 x85:=au Tryz.func85 rfl rfl
theorem YG:aR Tryz.prog 86 Tryz.f86 x86:=au Tryz.func86 rfl rfl
theorem YF:aR Tryz.prog 87 Tryz.f87 x87:=au Tryz.func87 rfl rfl
theorem YE:aR Tryz.prog 88 Tryz.f88 x88:=au Tryz.func88 rfl rfl
theorem YD:aR Tryz.prog 89 Tryz.f89 x89:=au Tryz.func89 rfl rfl
theorem YC:aR Tryz.prog 90 Tryz.f90 x90:=au Tryz.func90 rfl rfl
theorem YB:aR Tryz.prog 91 Tryz.f91 x91:=au Tryz.func91 rfl rfl
theorem YA:aR Tryz.prog 92 Tryz.f92 x92:=au Tryz.func92 rfl rfl
theorem Yz:aR Tryz.prog 93 Tryz.f93 x93:=au Tryz.func93 rfl rfl
theorem Yy:aR Tryz.prog 94 Tryz.f94 x94:=au Tryz.func94 rfl rfl
theorem Yx:aR Tryz.prog 95 Tryz.f95 x95:=au Tryz.func95 rfl rfl
theorem Yw:aR Tryz.prog 96 Tryz.f96 x96:=au Tryz.func96 rfl rfl
theorem Yv:aR Tryz.prog 97 Tryz.f97 x97:=au Tryz.func97 rfl rfl
theorem Yu:aR Tryz.prog 98 Tryz.f98 x98:=au Tryz.func98 rfl rfl
theorem Yt:aR Tryz.prog 99 Tryz.f99 x99:=au Tryz.func99 rfl rfl
theorem Tl:aR Tryz.prog 100 Tryz.f100 NG:=au Tryz.func100 rfl rfl
theorem Tk:aR Tryz.prog 101 Tryz.f101 NF:=au Tryz.func101 rfl rfl
theorem Tj:aR Tryz.prog 102 Tryz.f102 ND:=au Tryz.func102 rfl rfl
theorem Ti:aR Tryz.prog 103 Tryz.f103 NC:=au Tryz.func103 rfl rfl
theorem Tg:aR Tryz.prog 104 Tryz.f104 NB:=au Tryz.func104 rfl rfl
theorem Tf:aR Tryz.prog 105 Tryz.f105 NA:=au Tryz.func105 rfl rfl
theorem Te:aR Tryz.prog 106 Tryz.f106 Nz:=au Tryz.func106 rfl rfl
theorem Td:aR Tryz.prog 107 Tryz.f107 Ny:=au Tryz.func107 rfl rfl
theorem Tc:aR Tryz.prog 108 Tryz.f108 Nx:=au Tryz.func108 rfl rfl
theorem S_:aR Tryz.prog 109 Tryz.f109 Nw:=au Tryz.func109 rfl rfl
theorem S9:aR Tryz.prog 110 Tryz.f110 Nv:=au Tryz.func110 rfl rfl
theorem S8:aR Tryz.prog 111 Tryz.f111 Nu:=au Tryz.func111 rfl rfl
theorem S7:aR Tryz.prog 112 Tryz.f112 Nt:=au Tryz.func112 rfl rfl
theorem S6:aR Tryz.prog 113 Tryz.f113 Ns:=au Tryz.func113 rfl rfl
theorem S4:aR Tryz.prog 114 Tryz.f114 Nr:=au Tryz.func114 rfl rfl
theorem SZ:aR Tryz.prog 115 Tryz.f115 Nq:=au Tryz.func115 rfl rfl
theorem SY:aR Tryz.prog 116 Tryz.f116 Np:=au Tryz.func116 rfl rfl
theorem SX:aR Tryz.prog 117 Tryz.f117 No:=au Tryz.func117 rfl rfl
theorem SW:aR Tryz.prog 118 Tryz.f118 Nn:=au Tryz.func118 rfl rfl
theorem SV:aR Tryz.prog 119 Tryz.f119 Nm:=au Tryz.func119 rfl rfl
theorem SU:aR Tryz.prog 120 Tryz.f120 Nl:=au Tryz.func120 rfl rfl
theorem SS:aR Tryz.prog 121 Tryz.f121 Nk:=au Tryz.func121 rfl rfl
theorem SR:aR Tryz.prog 122 Tryz.f122 Nj:=au Tryz.func122 rfl rfl
theorem SQ:aR Tryz.prog 123 Tryz.f123 Ni:=au Tryz.func123 rfl rfl
theorem SO:aR Tryz.prog 124 Tryz.f124 Nh:=au Tryz.func124 rfl rfl
theorem SN:aR Tryz.prog 125 Tryz.f125 Ng:=au Tryz.func125 rfl rfl
theorem SM:aR Tryz.prog 126 Tryz.f126 Nf:=au Tryz.func126 rfl rfl
theorem SL:aR Tryz.prog 127 Tryz.f127 Nd:=au Tryz.func127 rfl rfl
theorem SK:aR Tryz.prog 128 Tryz.f128 Nc:=au Tryz.func128 rfl rfl
theorem SJ:aR Tryz.prog 129 Tryz.f129 Nb:=au Tryz.func129 rfl rfl
theorem SI:aR Tryz.prog 130 Tryz.f130 Na:=au Tryz.func130 rfl rfl
theorem SH:aR Tryz.prog 131 Tryz.f131 M_:=au Tryz.func131 rfl rfl
theorem SG:aR Tryz.prog 132 Tryz.f132 M9:=au Tryz.func132 rfl rfl
theorem SF:aR Tryz.prog 133 Tryz.f133 M8:=au Tryz.func133 rfl rfl
theorem SE:aR Tryz.prog 134 Tryz.f134 M7:=au Tryz.func134 rfl rfl
theorem SC:aR Tryz.prog 135 Tryz.f135 M6:=au Tryz.func135 rfl rfl
theorem SB:aR Tryz.prog 136 Tryz.f136 M5:=au Tryz.func136 rfl rfl
theorem SA:aR Tryz.prog 137 Tryz.f137 M4:=au Tryz.func137 rfl rfl
theorem Sz:aR Tryz.prog 138 Tryz.f138 M3:=au Tryz.func138 rfl rfl
theorem Sy:aR Tryz.prog 139 Tryz.f139 M1:=au Tryz.func139 rfl rfl
theorem Sw:aR Tryz.prog 140 Tryz.f140 M0:=au Tryz.func140 rfl rfl
theorem Sv:aR Tryz.prog 141 Tryz.f141 MZ:=au Tryz.func141 rfl rfl
theorem Su:aR Tryz.prog 142 Tryz.f142 MY:=au Tryz.func142 rfl rfl
theorem Ss:aR Tryz.prog 143 Tryz.f143 MX:=au Tryz.func143 rfl rfl
theorem Sr:aR Tryz.prog 144 Tryz.f144 MW:=au Tryz.func144 rfl rfl
theorem Sq:aR Tryz.prog 145 Tryz.f145 MV:=au Tryz.func145 rfl rfl
theorem So:aR Tryz.prog 146 Tryz.f146 MU:=au Tryz.func146 rfl rfl
theorem Sn:aR Tryz.prog 147 Tryz.f147 MT:=au Tryz.func147 rfl rfl
theorem Sm:aR Tryz.prog 148 Tryz.f148 MS:=au Tryz.func148 rfl rfl
theorem Sl:aR Tryz.prog 149 Tryz.f149 MR:=au Tryz.func149 rfl rfl
theorem Sk:aR Tryz.prog 150 Tryz.f150 MQ:=au Tryz.func150 rfl rfl
theorem Sj:aR Tryz.prog 151 Tryz.f151 MP:=au Tryz.func151 rfl rfl
theorem Si:aR Tryz.prog 152 Tryz.f152 MO:=au Tryz.func152 rfl rfl
theorem Sh:aR Tryz.prog 153 Tryz.f153 MN:=au Tryz.func153 rfl rfl
theorem Se:aR Tryz.prog 154 Tryz.f154 MM:=au Tryz.func154 rfl rfl
theorem Sd:aR Tryz.prog 155 Tryz.f155 ML:=au Tryz.func155 rfl rfl
theorem Sc:aR Tryz.prog 156 Tryz.f156 MK:=au Tryz.func156 rfl rfl
theorem Sb:aR Tryz.prog 157 Tryz.f157 MJ:=au Tryz.func157 rfl rfl
theorem Sa:aR Tryz.prog 158 Tryz.f158 MI:=au Tryz.func158 rfl rfl
theorem R_:aR Tryz.prog 159 Tryz.f159 MH:=au Tryz.func159 rfl rfl
theorem RZ:aR Tryz.prog 160 Tryz.f160 MG:=au Tryz.func160 rfl rfl
theorem RY:aR Tryz.prog 161 Tryz.f161 MF:=au Tryz.func161 rfl rfl
theorem yU:aR Tryz.prog 162 Tryz.f162 ME:=au Tryz.func162 rfl rfl
theorem RX:aR Tryz.prog 163 Tryz.f163 MD:=au Tryz.func163 rfl rfl
theorem DU:wF Tryz.prog fns:=K6 (.no (.no (.no (.yes fk7 (.yes ZI (.yes Zv (.yes Y3 (.yes SL (.nil _ _) (.nil _ _)) (.nil _ _)) (.yes Yx (.yes R_ (.nil _ _) (.nil _ _)) (.nil _ _))) (.yes Zh (.yes YN (.yes Ss (.nil _ _) (.nil _ _)) (.nil _ _)) (.yes S8 (.nil _ _) (.nil _ _)))) (.yes ZD (.no (.yes YV (.yes SC (.nil _ _) (.nil _ _)) (.nil _ _)) (.yes Ti (.nil _ _) (.nil _ _))) (.yes Y_ (.yes YF (.yes Sj (.nil _ _) (.nil _ _)) (.nil _ _)) (.yes SV (.nil _ _) (.nil _ _))))) (.yes ZM (.no (.yes G9 (.yes YZ (.yes SH (.nil _ _) (.nil _ _)) (.nil _ _)) (.yes Yt (.yes RX (.nil _ _) (.nil _ _)) (.nil _ _))) (.yes Zd (.yes YJ (.yes Sn (.nil _ _) (.nil _ _)) (.nil _ _)) (.yes SZ (.nil _ _) (.nil _ _)))) (.yes Zz (.yes Zl (.yes YR (.yes Sy (.nil _ _) (.nil _ _)) (.nil _ _)) (.yes Td (.nil _ _) (.nil _ _))) (.yes Y6 (.yes YB (.yes Sd (.nil _ _) (.nil _ _)) (.nil _ _)) (.yes SQ (.nil _ _) (.nil _ _)))))) (.yes fk5 (.yes fk9 (.no (.yes Zt (.yes Y1 (.yes SJ (.nil _ _) (.nil _ _)) (.nil _ _)) (.yes Yv (.yes RY (.nil _ _) (.nil _ _)) (.nil _ _))) (.yes Zf (.yes YL (.yes Sq (.nil _ _) (.nil _ _)) (.nil _ _)) (.yes S6 (.nil _ _) (.nil _ _)))) (.yes ZB (.yes Zn (.yes YT (.yes SA (.nil _ _) (.nil _ _)) (.nil _ _)) (.yes Tf (.nil _ _) (.nil _ _))) (.yes Y8 (.yes YD (.yes Sh (.nil _ _) (.nil _ _)) (.nil _ _)) (.yes SS (.nil _ _) (.nil _ _))))) (.yes ZK (.yes ZF (.yes Zq (.yes YX (.yes SF (.nil _ _) (.nil _ _)) (.nil _ _)) (.yes Tk (.nil _ _) (.nil _ _))) (.yes Zb (.yes YH (.yes Sl (.nil _ _) (.nil _ _)) (.nil _ _)) (.yes SX (.nil _ _) (.nil _ _)))) (.yes Zx (.yes Zj (.yes YP (.yes Sv (.nil _ _) (.nil _ _)) (.nil _ _)) (.yes S_ (.nil _ _) (.nil _ _))) (.yes Y4 (.yes Yz (.yes Sb (.nil _ _) (.nil _ _)) (.nil _ _)) (.yes SN (.nil _ _) (.nil _ _))))))) (.no (.no (.yes fk8 (.yes ZH (.yes Zu (.yes Y2 (.yes SK (.nil _ _) (.nil _ _)) (.nil _ _)) (.yes Yw (.yes RZ (.nil _ _) (.nil _ _)) (.nil _ _))) (.yes Zg (.yes YM (.yes Sr (.nil _ _) (.nil _ _)) (.nil _ _)) (.yes S7 (.nil _ _) (.nil _ _)))) (.yes ZC (.yes Zo (.yes YU (.yes SB (.nil _ _) (.nil _ _)) (.nil _ _)) (.yes Tg (.nil _ _) (.nil _ _))) (.yes Y9 (.yes YE (.yes Si (.nil _ _) (.nil _ _)) (.nil _ _)) (.yes SU (.nil _ _) (.nil _ _))))) (.yes ZL (.yes ZG (.yes G8 (.yes YY (.yes SG (.nil _ _) (.nil _ _)) (.nil _ _)) (.yes Tl (.nil _ _) (.nil _ _))) (.yes Zc (.yes YI (.yes Sm (.nil _ _) (.nil _ _)) (.nil _ _)) (.yes SY (.nil _ _) (.nil _ _)))) (.yes Zy (.yes Zk (.yes YQ (.yes Sw (.nil _ _) (.nil _ _)) (.nil _ _)) (.yes Tc (.nil _ _) (.nil _ _))) (.yes Y5 (.yes YA (.yes Sc (.nil _ _) (.nil _ _)) (.nil _ _)) (.yes SO (.nil _ _) (.nil _ _)))))) (.no (.yes ZN (.no (.yes Zr (.yes Y0 (.yes SI (.nil _ _) (.nil _ _)) (.nil _ _)) (.yes Yu (.yes yU (.nil _ _) (.nil _ _)) (.nil _ _))) (.yes Ze (.yes YK (.yes So (.nil _ _) (.nil _ _)) (.nil _ _)) (.yes S4 (.nil _ _) (.nil _ _)))) (.yes ZA (.yes Zm (.yes YS (.yes Sz (.nil _ _) (.nil _ _)) (.nil _ _)) (.yes Te (.nil _ _) (.nil _ _))) (.yes Y7 (.yes YC (.yes Se (.nil _ _) (.nil _ _)) (.nil _ _)) (.yes SR (.nil _ _) (.nil _ _))))) (.yes ZJ (.yes ZE (.yes Zp (.yes YW (.yes SE (.nil _ _) (.nil _ _)) (.nil _ _)) (.yes Tj (.nil _ _) (.nil _ _))) (.yes Za (.yes YG (.yes Sk (.nil _ _) (.nil _ _)) (.nil _ _)) (.yes SW (.nil _ _) (.nil _ _)))) (.yes Zw (.yes Zi (.yes YO (.yes Su (.nil _ _) (.nil _ _)) (.nil _ _)) (.yes S9 (.nil _ _) (.nil _ _))) (.no (.yes Yy (.yes Sa (.nil _ _) (.nil _ _)) (.nil _ _)) (.yes SM (.nil _ _) (.nil _ _))))))))
end Go.Proofs.YtfffmmahegdfiaaGreat
namespace Go.Proofs
open Go.Shelf
def Tryz.lN:Go.Shelf.Ren:=⟨fun | 4=>162 | n=>n,fun | 22=>43 | 25=>3 | 3=>3 | 4=>4 | 9=>9 | 20=>20 | 0=>0 | n=>n,fun | n=>n⟩
theorem Tryz.vP:Go.Proofs.Lays8.n4 Tryz.prog Tryz.lN where
 mixed:=by kernel_rfl
 f4:=⟨Tryz.f162.name,by kernel_rfl,Tryz.func162.trans (congrArg some (by kernel_rfl))⟩
 t0:=Tryz.underlying0
 a0:=Tryz.isAgg0
 z0:=Tryz.sizeOf0
 v0:=Tryz.zeroValue0
 t3:=Tryz.underlying3
 a3:=Tryz.isAgg3
 z3:=Tryz.sizeOf3
 v3:=Tryz.zeroValue3
 t4:=Tryz.underlying4
 a4:=Tryz.isAgg4
 z4:=Tryz.sizeOf4
 v4:=Tryz.zeroValue4
 t9:=Tryz.underlying9
 a9:=Tryz.isAgg9
 z9:=Tryz.sizeOf9
 v9:=Tryz.zeroValue9
 t20:=Tryz.underlying20
 a20:=Tryz.isAgg20
 z20:=Tryz.sizeOf20
 v20:=Tryz.zeroValue20
 t22:=Tryz.underlying43
 a22:=Tryz.isAgg43
 z22:=Tryz.sizeOf43
 v22:=Tryz.zeroValue43
end Go.Proofs
namespace Go.Proofs.YtfffmmahegdfiaaGreat
open Go.Bm Go.Shelf
abbrev Bn:Ty:=(.pair (.int .i64) (.pair (.pair (.int .u8) (.pair (.int .u8) (.pair (.int .u8) (.pair (.int .u8) (.pair (.int .i64) (.pair (.int .i64) (.int .i64))))))) (.pair (.int .i64) (.pair (.int .i64) (.pair (.int .i64) (.pair (.int .i64) (.pair (.int .i64) (.aO (.int .i64)))))))))
theorem DN:∃i,Tryz.prog.info? (Tryz.lN.t 25)=some i∧i.zero=some (.int .i64 0)∧i.size=1∧i.bytes=8:=by
 obtain ⟨i,t1,t2,t3,t4,t5,t6⟩:=Wf.ti
 exact ⟨i,t1,t2,t3,t4⟩
theorem AS:uB Tryz.prog 162 (.int .i64):=⟨⟨_,yU.bu,yU.name,by rw [yU.body];rfl⟩,fun n w hn=>by
 obtain ⟨i,h1,h2,h3,h4⟩:=DN
 rcases Nat.eq_zero_or_pos n with rfl | h0
 ·exact (Any8.slices_Grow_room Tryz.vP none 0 0 0 w (by omega) (by omega) (by omega) (by omega)).mono fun e w' h=>⟨_,h.1,.inl ⟨rfl,h.2⟩⟩
 ·refine (Any8.slices_Grow_grow Tryz.vP i _ h1 h2 (by omega) none 0 0 n [] w (by omega) (by omega) (by rw [h4];omega) (by omega) (by simp) (fun _=>rfl) (fun a h=>by cases h)).mono fun e w' h=>⟨_,h.1,.inr ⟨_,_,_,rfl,h.2,?_,?_⟩⟩
  ·have:=grownCap_ge w (0+n) 0 (Tryz.lN.t 25)
   show _*1≤_
   simp only [Array.size_append,size_zeroCells,Value.cells]
   simp
   omega
  ·exact grownCap_le_maxLen w _ _ _ (by unfold maxLen;omega)⟩
section
set_option maxHeartbeats 1000000
open Go.RowKit Go.Lib
theorem Ext.Jl {S:Hp} {g:G} {w:World} (ob:Obj):Ext S g w S g (w.alloc ob):=⟨.refl g,rfl,rfl,rfl,by rw [show (w.alloc ob).heap.size=w.heap.size+1 from Array.size_push _];omega,fun k hk _=>Below.heap_alloc w _ k hk,fun _ h=>.inl h,fun _ _ h=>.inl h,fun _ h=>h,fun _ _ _ h=>.inl h,fun _ _ h=>.inl h⟩
theorem qj {P:Program} {ops:Array Oper} {o:Oper} {rest:List Oper} {a:Act} {w w':World} {v:Value} {Q:Exit→Act→World→Prop} (hg:o.guard=none) (h:(execOp a.eval o).run P w = .ok (.value v) w') (k:wpList P ops Q rest (a.put o.dst v) w'):wpList P ops Q (o::rest) a w:=by
 refine wpList_plain hg fun K hK=>?_
 unfold Oper.wp
 rw [h]
 exact hK _ _ k
theorem LF (n c:Nat) (w:World):Calls Tryz.prog 36 #[.slice none n c] w fun e w'=>e = .returned (.slice none 0 0)∧w'=w:=by
 have Wv:∀(w:World) (a:Option Addr) (n c n' c':Nat),(binOp .eql 43 (.slice a n c) (.slice none n' c')).run Tryz.prog w = .ok (.bool a.isNone) w:=fun w a n c n' c'=>Lib.run_eql_slice_nil w _ _ a n c n' c' Fy.u
 go_enter Tryz.func36,Tryz.ntmps36
 go_wp2
 go_ret
 exact ⟨rfl,rfl⟩
theorem Hq (g:G) (S:Hp) (q:Nat) (hf:S.fr q) (l:List Int) (hl:l.length≤16777216) (w:World) (hI:Inv g S w) (a:Addr) (n c:Nat) (hv:∀w2,Inv g S w2→Given g w2 (.slice (some a) n c) 1 l.length (l.flatMap (aE (.int .i64)))):Calls Tryz.prog 36 #[.slice (some a) n c] w fun e w'=>∃v g',e = .returned v∧V g' (.tw (.loc q) 1) v∧Inv g' (S.new q (.cells (l.flatMap (aE (.int .i64))))) w'∧Ext S g w (S.new q (.cells (l.flatMap (aE (.int .i64))))) g' w':=by
 have Wv:∀(w:World) (a:Option Addr) (n c n' c':Nat),(binOp .eql 43 (.slice a n c) (.slice none n' c')).run Tryz.prog w = .ok (.bool a.isNone) w:=fun w a n c n' c'=>Lib.run_eql_slice_nil w _ _ a n c n' c' Fy.u
 have hw:Inv g S (w.alloc (.cells #[] 3)):=hI.world (by rw [show (w.alloc (.cells #[] 3)).heap.size=w.heap.size+1 from Array.size_push _];omega) (fun k hk=>Below.heap_alloc w _ k hk)
 have tW:Given g (w.alloc (.cells #[] 3)) (.slice (some a) n c) 1 l.length (l.flatMap (aE (.int .i64))):=hv _ hw
 obtain ⟨v,g',w',eX,k1,k2,k3⟩:=hZ (P:=Tryz.prog) (ty:=43) (some ⟨w.heap.size,0,none⟩) Fy.u Wf.ti hw tW hf (by show _*8≤_;omega) (by unfold maxLen;omega)
 have k3:=(Ext.Jl (S:=S) (g:=g) (w:=w) (.cells #[] 3)).trans k3
 clear tW hw
 go_enter Tryz.func36,Tryz.ntmps36
 go_wp2_with (at_builtin;refine qj (v:=v) (w':=w') rfl (by simp [execOp,resolve,invoke,Act.eval,builtin,eX]) ?_)
 go_ret
 exact ⟨v,g',rfl,k1,k2,k3⟩
theorem A_:oO Tryz.prog 36 (.int .i64):=⟨⟨_,G8.bu,G8.name,by rw [G8.body];rfl⟩,LF,fun g S q hf l hl w hI a n c hv=>Hq g S q hf l hl w hI a n c hv⟩
theorem Ek (n c:Nat) (w:World):Calls Tryz.prog 35 #[.slice none n c] w fun e w'=>e = .returned (.slice none 0 0)∧w'=w:=by
 have Wv:∀(w:World) (a:Option Addr) (n c n' c':Nat),(binOp .eql 39 (.slice a n c) (.slice none n' c')).run Tryz.prog w = .ok (.bool a.isNone) w:=fun w a n c n' c'=>Lib.run_eql_slice_nil w _ _ a n c n' c' Fz.u
 go_enter Tryz.func35,Tryz.ntmps35
 go_wp2
 go_ret
 exact ⟨rfl,rfl⟩
theorem Bc (g:G) (S:Hp) (q:Nat) (hf:S.fr q) (l:List Bn.T) (hl:l.length≤16777216) (w:World) (hI:Inv g S w) (a:Addr) (n c:Nat) (hv:∀w2,Inv g S w2→Given g w2 (.slice (some a) n c) 14 l.length (l.flatMap (aE Bn))):Calls Tryz.prog 35 #[.slice (some a) n c] w fun e w'=>∃v g',e = .returned v∧V g' (.tw (.loc q) 14) v∧Inv g' (S.new q (.cells (l.flatMap (aE Bn)))) w'∧Ext S g w (S.new q (.cells (l.flatMap (aE Bn)))) g' w':=by
 have Wv:∀(w:World) (a:Option Addr) (n c n' c':Nat),(binOp .eql 39 (.slice a n c) (.slice none n' c')).run Tryz.prog w = .ok (.bool a.isNone) w:=fun w a n c n' c'=>Lib.run_eql_slice_nil w _ _ a n c n' c' Fz.u
 have hw:Inv g S (w.alloc (.cells #[] 47)):=hI.world (by rw [show (w.alloc (.cells #[] 47)).heap.size=w.heap.size+1 from Array.size_push _];omega) (fun k hk=>Below.heap_alloc w _ k hk)
 have tW:Given g (w.alloc (.cells #[] 47)) (.slice (some a) n c) 14 l.length (l.flatMap (aE Bn)):=hv _ hw
 obtain ⟨v,g',w',eX,k1,k2,k3⟩:=hZ (P:=Tryz.prog) (ty:=39) (some ⟨w.heap.size,0,none⟩) Fz.u OC.ti hw tW hf (by show _*104≤_;omega) (by unfold maxLen;omega)
 have k3:=(Ext.Jl (S:=S) (g:=g) (w:=w) (.cells #[] 47)).trans k3
 clear tW hw
 go_enter Tryz.func35,Tryz.ntmps35
 go_wp2_with (at_builtin;refine qj (v:=v) (w':=w') rfl (by simp [execOp,resolve,invoke,Act.eval,builtin,eX]) ?_)
 go_ret
 exact ⟨v,g',rfl,k1,k2,k3⟩
theorem Ba:oO Tryz.prog 35 Bn:=⟨⟨_,G9.bu,G9.name,by rw [G9.body];rfl⟩,Ek,fun g S q hf l hl w hI a n c hv=>Bc g S q hf l hl w hI a n c hv⟩
end
end Go.Proofs.YtfffmmahegdfiaaGreat