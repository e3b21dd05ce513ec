/- Texts of one proof, put together: see each part. -/
import Derived.WalkKit
import Derived.Deep.LoopGhost
import Derived.KernelRfl
import Derived.Great.BuildSlice
import Derived.Great.FillDense
import Derived.Deep.Slices
import Derived.Deep.OwnRows
import Derived.Laws.CopyRow
import Derived.Laws.IdiomCopy
import Derived.Laws.MakeOwn
import Derived.Laws.StructEq
import Derived.Carry
import Derived.MapKept
import Derived.WideKeyArgs
import Derived.OrdersIn
import Derived.RangeFuncRecord
set_option maxHeartbeats 2000000
theorem zA:type_of% @List.getD_eq_getElem?_getD:=@List.getD_eq_getElem?_getD
theorem zB:type_of% @List.getElem?_eq_some_iff:=@List.getElem?_eq_some_iff
theorem zC:type_of% @Bool.and_eq_true:=@Bool.and_eq_true
theorem zD:type_of% @List.getElem?_eq_getElem:=@List.getElem?_eq_getElem
theorem zE:type_of% @Int.toNat_natCast:=@Int.toNat_natCast
theorem zF:type_of% @List.mem_singleton:=@List.mem_singleton
theorem zG:type_of% @List.mem_of_getElem?:=@List.mem_of_getElem?
theorem zH:type_of% @List.length_map:=@List.length_map
theorem zI:type_of% @Option.some.injEq:=@Option.some.injEq
theorem zJ:type_of% @List.getElem?_append_right:=@List.getElem?_append_right
theorem zK:type_of% @List.getElem?_append_left:=@List.getElem?_append_left
theorem zL:type_of% @List.getElem?_map:=@List.getElem?_map
theorem zM:type_of% @List.length_set:=@List.length_set
theorem zO:type_of% @List.length_singleton:=@List.length_singleton
theorem zP:type_of% @List.take_append_drop:=@List.take_append_drop
theorem zQ:type_of% @List.mem_append_left:=@List.mem_append_left
theorem zR:type_of% @List.length_cons:=@List.length_cons
theorem zS:type_of% @List.mem_append_right:=@List.mem_append_right
theorem zT:type_of% @List.mem_cons_of_mem:=@List.mem_cons_of_mem
theorem zU:type_of% @Prod.mk.injEq:=@Prod.mk.injEq
theorem zV:type_of% @List.mem_cons_self:=@List.mem_cons_self
theorem zW:type_of% @Nat.mul_le_mul_right:=@Nat.mul_le_mul_right
theorem zX:type_of% @List.mem_append:=@List.mem_append
theorem zY:type_of% @List.length_append:=@List.length_append
theorem zZ:type_of% @List.eq_nil_of_length_eq_zero:=@List.eq_nil_of_length_eq_zero
theorem za:type_of% @List.take_of_length_le:=@List.take_of_length_le
theorem zb:type_of% @List.getElem?_eq_none:=@List.getElem?_eq_none
noncomputable section
set_option linter.unusedVariables false
set_option linter.unusedSimpArgs false
namespace Go.Bm
section
variable {α β σ ρ:Type}
def gd (p:Prop) [Decidable p] (x:Option α):Option α:=if p then x else none
def bd (x:Option α) (f:α→Option β):Option β:=match x with
 | some a=>f a
 | none=>none
def br (b:Bool) (x y:Option α):Option α:=match b with
 | true=>x
 | false=>y
def opt (x:Option α) (n:Option β) (s:α→Option β):Option β:=match x with
 | some a=>s a
 | none=>n
def iter (f:(σ→Option α)→σ→Option α):Nat→σ→Option α
 | 0,_=>none
 | n+1,s=>f (iter f n) s
def kQ:Nat:=9223372036854775808
abbrev g4:Type 1:=(α σ:Type)→((σ→Option α)→σ→Option α)→σ→Option α
abbrev g5:Type 1:=(σ ρ:Type)→((σ→Option ρ)→Option ρ)→(σ→Option ρ)→Option ρ
def YI:g4:=fun _ _ f s=>iter f kQ s
def YN:g5:=fun _ _ f k=>f k
theorem Ap:∃L:g4,L=YI:=⟨YI,rfl⟩
theorem LP:∃J:g5,J=YN:=⟨YN,rfl⟩
def lpO:g4:=Classical.choose Ap
def jnO:g5:=Classical.choose LP
def loop (f:(σ→Option α)→σ→Option α) (s:σ):Option α:=lpO α σ f s
def jn (f:(σ→Option ρ)→Option ρ) (k:σ→Option ρ):Option ρ:=jnO σ ρ f k
theorem EK:lpO=YI:=Classical.choose_spec Ap
theorem EZ:jnO=YN:=Classical.choose_spec LP
theorem o7 (f:(σ→Option α)→σ→Option α) (s:σ):loop f s=iter f kQ s:=by unfold loop;rw [EK];rfl
theorem gQ (f:(σ→Option ρ)→Option ρ) (k:σ→Option ρ):jn f k=f k:=by unfold jn;rw [EZ];rfl
def nth (d:α) (l:List α) (i:Nat):α:=l.getD i d
def upd (l:List α) (i:Nat) (x:α):List α:=l.set i x
def vq (d:α) (l:List α) (i:Nat) (x:α):List α:=if i<l.length then l.set i x else l++(List.replicate (i-l.length) d++[x])
def cat (l k:List α):List α:=l++k
def len (l:List α):Nat:=l.length
def tk (n:Nat) (l:List α):List α:=l.take n
def dr (n:Nat) (l:List α):List α:=l.drop n
def rep (n:Nat) (x:α):List α:=List.replicate n x
def nN (n:Int):Nat:=n.toNat
def zN (n:Nat):Int:=n
def aK (a b:Nat):Nat:=a+b
def ay (a b:Nat):Nat:=a-b
def bp (a b:Nat):Prop:=a≤b
def bu (a b:Nat):Prop:=a<b
def neq (a b:Nat):Prop:=a=b
def bn (a:Int):Prop:=0≤a
def IB (a:Int):Prop:=a≠0
instance (a b:Nat):Decidable (bp a b):=inferInstanceAs (Decidable (a≤b))
instance (a b:Nat):Decidable (bu a b):=inferInstanceAs (Decidable (a<b))
instance (a b:Nat):Decidable (neq a b):=inferInstanceAs (Decidable (a=b))
instance (a:Int):Decidable (bn a):=inferInstanceAs (Decidable (0≤a))
instance (a:Int):Decidable (IB a):=inferInstanceAs (Decidable (a≠0))
def aT (l:List (Option (List α))) (j:Nat):Option (List α):=l.getD j none
def cP (a b:Int):Bool:=decide (a≤b)
def aQ (a b:Int):Bool:=decide (a<b)
def ak (a b:Int):Bool:=decide (a=b)
def az (b:Bool):Bool:=!b
def qP (a b:Bool):Bool:=a == b
def mZ (a b:Bool):Bool:=a && b
def IE (a b:Int):Prop:=a=b
instance (a b:Int):Decidable (IE a b):=inferInstanceAs (Decidable (a=b))
def cS (k:IntKind) (n:Int):Int:=k.wrap n
def ae (k:IntKind) (a b:Int):Int:=k.wrap (a+b)
def aE (k:IntKind) (a b:Int):Int:=k.wrap (a-b)
def cm (k:IntKind) (a b:Int):Int:=k.wrap (a*b)
def mv (k:IntKind) (a b:Int):Int:=k.wrap (a.tdiv b)
def cq (a b:Int):Int:=a.tmod b
def lU (k:IntKind) (a b:Int):Int:=k.wrap (a*2^(min b.toNat k.bits))
def j0 (k:IntKind) (a b:Int):Int:=a.fdiv (2^(min b.toNat k.bits))
def lW (a b:Int):Int:=if b<a then b else a
def imax (a b:Int):Int:=if a<b then b else a
theorem bz {p:Prop} [Decidable p] {x:Option α} {r:α} (h:gd p x=some r):p∧x=some r:=by
 unfold gd at h;split at h
 ·exact ⟨by assumption,h⟩
 ·cases h
theorem sC {x:Option α} {f:α→Option β} {r:β} (h:bd x f=some r):∃a,x=some a∧f a=some r:=by
 cases x with
 | none=>cases h
 | some a=>exact ⟨a,rfl,h⟩
theorem la {b:Bool} {x y:Option α} {r:α} (h:br b x y=some r):(b=true∧x=some r)∨(b=false∧y=some r):=by
 cases b with
 | true=>exact .inl ⟨rfl,h⟩
 | false=>exact .inr ⟨rfl,h⟩
theorem iL {x:Option α} {n:Option β} {s:α→Option β} {r:β} (h:opt x n s=some r):(x=none∧n=some r)∨∃a,x=some a∧s a=some r:=by
 cases x with
 | none=>exact .inl ⟨rfl,h⟩
 | some a=>exact .inr ⟨a,rfl,h⟩
theorem cz {a:α} {f:α→Option β}:bd (some a) f=f a:=rfl
theorem dq {x y:Option α}:br true x y=x:=rfl
theorem c_ {x y:Option α}:br false x y=y:=rfl
theorem dK {n:Option β} {s:α→Option β}:opt none n s=n:=rfl
theorem dJ {a:α} {n:Option β} {s:α→Option β}:opt (some a) n s=s a:=rfl
theorem Gu {d x:α} {l:List α} {i k:Nat}:(vq d l i x).getD k d=if k=i then x else l.getD k d:=by
 unfold vq
 simp only [zA]
 split
 ·rename_i h
  by_cases hk:k=i
  ·subst hk;simp [h]
  ·rw [if_neg hk,List.getElem?_set_ne (fun e=>hk e.symm)]
 ·rename_i h
  by_cases hk:k=i
  ·subst hk
   rw [zJ (by omega),zJ (by simp)]
   simp
  ·rw [if_neg hk]
   by_cases h1:k<l.length
   ·rw [zK h1]
   ·rw [zJ (by omega),zb (l:=l) (by omega)]
    by_cases h2:k-l.length<i-l.length
    ·rw [zK (by simpa using h2),List.getElem?_replicate,if_pos h2];rfl
    ·rw [zJ (by simp;omega),zb (by simp;omega)]
end
inductive Tr (α:Type) where
 | nil
 | node (l:Tr α) (v:Option α) (r:Tr α)
set_option linter.unusedVariables false
set_option linter.unusedSimpArgs false
section
open Go.RowKit
inductive Ty where
 | int (k:IntKind)
 | bool
 | unit
 | pair (a b:Ty)
 | arr (n:Nat) (t:Ty)
 | aF (t:Ty)
 | ptr (r:Nat)
 | cY (r:Nat)
 | je (r:Nat) (z:Nat)
 | pM (r:Nat) (z:Nat)
 | mp (r:Nat)
 deriving DecidableEq
def Ty.T:Ty→Type
 | .int _=>Int
 | .bool=>Bool
 | .unit=>Unit
 | .pair a b=>a.T×b.T
 | .arr _ t=>List t.T
 | .aF t=>List t.T
 | .ptr _=>Option Nat
 | .cY _=>Nat
 | .je _ _=>Option Nat
 | .pM _ _=>Nat
 | .mp _=>Option Nat
def Ty.cQ:(t:Ty)→t.T
 | .int _=>(0:Int)
 | .bool=>false
 | .unit=>()
 | .pair a b=>(a.cQ,b.cQ)
 | .arr n t=>List.replicate n t.cQ
 | .aF _=>[]
 | .ptr _=>none
 | .cY _=>(0:Nat)
 | .je _ _=>none
 | .pM _ _=>(0:Nat)
 | .mp _=>none
def Ty.size:Ty→Nat
 | .int _=>1
 | .bool=>1
 | .unit=>0
 | .pair a b=>a.size+b.size
 | .arr n t=>n*t.size
 | _=>1
def Ty.data:Ty→Bool
 | .int _=>true
 | .bool=>true
 | .unit=>true
 | .pair a b=>a.data && b.data
 | .arr _ t=>t.data
 | .aF t=>t.data
 | _=>false
inductive RK where
 | box (t:Ty)
 | row (t:Ty)
 | map (ka:Bool) (tk:Ty) (va:Bool) (tv:Ty)
structure LH where
 n_:List (Nat×Bool×Ty)
 grow:List (Nat×Ty)
 boxes:List ((Nat×Option Nat)×Ty)
 xu:List ((Nat×Option Nat)×List (Bool×Ty))
 loops:List Nat
 jz:List (Nat×RK)
inductive av where
 | skip
 | ret
 | exit (id:Nat)
 | bad (c:Code)
 | region (id:Nat) (ops:List Oper) (draw:Bool)
 | seq (x y:av)
 | cut (h:LH) (x y:av)
 | cond (c:Operand) (x y:av)
 | block (id:Nat) (x:av)
 | loop (h:LH) (x:av)
 | range (g:Operand) (ps:List Tmp) (h:LH) (aa bd:av)
 | scope (x:av)
 | label (l:Nat)
  | NI (l:List (Nat×Ty)) (x:av)
def av.code:av→Code
 | .skip=>.skip
 | .ret=>.ret
 | .exit id=>.exit id
 | .bad c=>c
 | .region id ops dr=>.region id ops.toArray dr
 | .seq x y=>.seq x.code y.code
 | .cut _ x y=>.seq x.code y.code
 | .cond c x y=>.cond c x.code y.code
 | .block id x=>.block id x.code
 | .loop _ x=>.loop x.code
 | .range g ps _ aa bd=>.rangeFunc g ps.toArray aa.code bd.code
 | .scope x=>.scope x.code
 | .label l=>.label l
 | .NI _ x=>x.code
def Tr.get {α:Type} (t:Tr α):Nat→Option α:=
 Tr.rec (motive:=fun _=>Nat→Option α) (fun _=>none) (fun _ v _ gl gr n=>Nat.rec (motive:=fun _=>Option α) v (fun n _=>Nat.rec (motive:=fun _=>Option α) (gl (n / 2)) (fun _ _=>gr (n / 2)) (n%2)) n) t
theorem Tr.get_nil {α:Type} (n:Nat):(Tr.nil:Tr α).get n=none:=rfl
theorem Tr.kA {α:Type} (l:Tr α) (v:Option α) (r:Tr α):(Tr.node l v r).get 0=v:=rfl
theorem Tr.ik {α:Type} (l:Tr α) (v:Option α) (r:Tr α) (n:Nat):(Tr.node l v r).get (n+1)=bif Nat.beq (n%2) 0 then l.get (n / 2) else r.get (n / 2):=by
 show Nat.rec (motive:=fun _=>Option α) (l.get (n / 2)) (fun _ _=>r.get (n / 2)) (n%2)=_
 cases n%2<;>rfl
abbrev Mem:=Nat→Nat→Option Value
def Ze (p:Nat×Nat):Addr:=⟨p.1,p.2,none⟩
inductive D where
 | v (x:Value)
 | sl (sz:Nat) (full:Bool) (es:List (List D))
inductive VD (M:Mem):D→Value→Prop
 | v (x:Value) (h:x.oneCell'=true):VD M (.v x) x
 | sl (sz:Nat) (full:Bool) (es:List (List D)) (a:Option (Nat×Nat)) (cap:Nat) (vs:List Value)
   (hz:∀e,e∈es→e.length=sz) (hc:es.length≤cap) (hf:full=true→cap=es.length) (hn:a=none→cap=0) (hx:cap≤maxLen)
   (hl:es.flatten.length=vs.length)
   (hm:∀(p:Nat×Nat) (j:Nat) (x:Value),a=some p→vs[j]?=some x→M p.1 (p.2+j)=some x)
   (hv:∀(j:Nat) (c:D) (x:Value),es.flatten[j]?=some c→vs[j]?=some x→VD M c x) :
   VD M (.sl sz full es) (.slice (a.map Ze) es.length cap)
 | ui (sz:Nat) (full:Bool) (A:Option Addr):VD M (.sl sz full []) (.slice A 0 0)
theorem VD.mono {M M':Mem} (h:∀b o x,M b o=some x→M' b o=some x) {d:D} {v:Value} (hv:VD M d v):VD M' d v:=by
 induction hv with
 | v x h1=>exact .v x h1
 | sl sz full es a cap vs hz hc hf hn hx hl hm _ ih=>exact .sl sz full es a cap vs hz hc hf hn hx hl (fun p j x h1 h2=>h _ _ _ (hm p j x h1 h2)) ih
 | ui sz f A=>exact .ui sz f A
def Gv {α β:Type} (f:α→List β) (d:α) (n:Nat) (l:List α):List β:=(List.range n).flatMap fun i=>f (nth d l i)
def dh:(t:Ty)→t.T→List D
 | .int k,x=>[.v (.int k x)]
 | .bool,x=>[.v (.bool x)]
 | .unit,_=>[]
 | .pair a b,x=>dh a x.1++dh b x.2
 | .arr n t,l=>Gv (dh t) t.cQ n l
 | .aF t,l=>[.sl t.size false (List.map (dh t) l)]
 | _,_=>[.v undef]
inductive Ref where
 | loc (o:Nat)
 | eH (r j:Nat)
def cI:Nat:=16777216
def mq (i:Nat):Nat:=(i-cI)%64
def Av (i:Nat):Nat:=(i-cI) / 64
theorem Jr (m L:Nat):m+L=64*(m / 64)+(m%64+L):=by have:=Nat.div_add_mod m 64;omega
theorem rq:∃f:Nat→Nat→Nat,(∀r j,cI≤f r j)∧(∀r j,r<64→mq (f r j)=r∧Av (f r j)=j)∧∀i,¬i<cI→i=f (mq i) (Av i):=by
 unfold mq Av
 generalize cI=L
 refine ⟨fun r j=>64*j+(r+L),fun r j=>by show L≤64*j+(r+L);omega,fun r j h=>by show (64*j+(r+L)-L)%64=r∧(64*j+(r+L)-L) / 64=j;omega,fun i h=>?_⟩
 have h2:=Jr (i-L) L
 rw [Nat.sub_add_cancel (Nat.le_of_not_lt h)] at h2
 exact h2
def fE:Nat→Nat→Nat:=Classical.choose rq
theorem oi (r j:Nat):cI≤fE r j:=(Classical.choose_spec rq).1 r j
theorem lO {r j:Nat} (h:r<64):mq (fE r j)=r:=((Classical.choose_spec rq).2.1 r j h).1
theorem jZ {r j:Nat} (h:r<64):Av (fE r j)=j:=((Classical.choose_spec rq).2.1 r j h).2
theorem rp {i:Nat} (h:¬i<cI):i=fE (mq i) (Av i):=(Classical.choose_spec rq).2.2 i h
def Ref.id:Ref→Nat
 | .loc o=>o
 | .eH r j=>fE r j
inductive Sp where
 | fst
 | snd (c:Nat)
 | ix (i z:Nat)
 | ai (i n z:Nat)
def dE:List Sp→Nat
 | []=>0
 | .fst::π=>dE π
 | .snd c::π=>c+dE π
 | .ix i z::π=>i*z+dE π
 | .ai i _ z::π=>i*z+dE π
def Df (s:Nat):List Sp→Prop
 | []=>True
 | .ix i z::π=>(i+1)*z≤s∧Df s π
 | .ai i n _::π=>i<n∧Df s π
 | _::π=>Df s π
inductive A where
 | v (x:Value)
 | agg (cs:List A)
 | jy (cs:List A)
 | ptr (o off:Nat)
 | tp (x:Ref) (π:List Sp)
 | sl (o off z n:Nat)
 | ts (x:Ref) (z off n:Nat)
 | tf (x:Ref) (z off n:Nat)
 | tw (x:Ref) (z:Nat)
 | aa (x:Ref) (π:List Sp) (n z:Nat)
 | e0
 | tl (t:Ty) (full:Bool) (l:List t.T)
 | nn (t:Ty) (l:List t.T)
 | dp (t:Ty) (x:t.T)
 | mp (x:Ref)
 | op (r:Nat) (o:Option Nat)
 | os (r z:Nat) (o:Option Nat)
 | om (r:Nat) (o:Option Nat)
 | fn (f:FuncId) (fi ca:List A)
 | sH (q n:Nat) (F:Tr A) (ps:List Tmp) (h:LH) (aa bd:av)
 | un
 | cG
instance:Inhabited A:=⟨.cG⟩
def aX (F:Nat→Option A) (i:Nat):A:=match F i with
 | some p=>p
 | none=>.un
structure Lp where
 tmps:Array Value
 params:List Tmp
 assign:Code
 body:Code
def uJ (r:Loop):Lp:=⟨r.tmps,r.params.toList,r.assign,r.body⟩
def aA:(t:Ty)→t.T→List A
 | .int k,x=>[.v (.int k x)]
 | .bool,x=>[.v (.bool x)]
 | .unit,_=>[]
 | .pair a b,x=>aA a x.1++aA b x.2
 | .arr n t,l=>Gv (aA t) t.cQ n l
 | .aF t,l=>[.tl t false l]
 | .ptr r,x=>[.op r x]
 | .cY r,j=>[.tp (.eH r j) []]
 | .je r z,x=>[.os r z x]
 | .pM r z,j=>[.tw (.eH r j) z]
 | .mp r,x=>[.om r x]
theorem pG {α β:Type} {f:α→List β} {d:α} {s:Nat} (h:∀x,(f x).length=s) (n:Nat) (l:List α):(Gv f d n l).length=n*s:=by
 have:∀m:List Nat,(m.flatMap fun i=>f (nth d l i)).length=m.length*s:=fun m=>by
  induction m with
  | nil=>simp
  | cons a m ih=>rw [List.flatMap_cons,zY,ih,h,zR,Nat.succ_mul,Nat.add_comm]
 have:=this (List.range n)
 rwa [List.length_range] at this
theorem dY:∀(t:Ty) (x:t.T),(dh t x).length=t.size
 | .int _,_=>rfl
 | .bool,_=>rfl
 | .unit,_=>rfl
 | .pair a b,x=>by simp [dh,Ty.size,dY a,dY b]
 | .arr n t,l=>pG (dY t) n l
 | .aF _,_=>rfl
 | .ptr _,_=>rfl
 | .cY _,_=>rfl
 | .je _ _,_=>rfl
 | .pM _ _,_=>rfl
 | .mp _,_=>rfl
theorem bI:∀(t:Ty) (x:t.T),(aA t x).length=t.size
 | .int _,_=>rfl
 | .bool,_=>rfl
 | .unit,_=>rfl
 | .pair a b,x=>by simp [aA,Ty.size,bI a,bI b]
 | .arr n t,l=>pG (bI t) n l
 | .aF _,_=>rfl
 | .ptr _,_=>rfl
 | .cY _,_=>rfl
 | .je _ _,_=>rfl
 | .pM _ _,_=>rfl
 | .mp _,_=>rfl
structure G where
 bm:Nat→Option (Option Nat×(Nat×Nat))
 mem:Mem
 lp:Nat→Option Lp
inductive V (g:G):A→Value→Prop
 | v (x:Value):V g (.v x) x
 | agg (cs:List A) (vs:Array Value) (hl:cs.length=vs.size) (h1:∀v∈vs.toList,v.oneCell'=true) (h:∀(i:Nat) (c:A) (x:Value),cs[i]?=some c→vs[i]?=some x→V g c x):V g (.agg cs) (.agg vs)
 | jy (cs:List A) (vs:Array Value) (hl:cs.length=vs.size) (h:∀(i:Nat) (c:A) (x:Value),cs[i]?=some c→vs[i]?=some x→V g c x):V g (.jy cs) (.tuple vs)
 | ptr (o off b:Nat) (s:Nat×Nat) (h:g.bm o=some (some b,s)):V g (.ptr o off) (.pointer (some ⟨b,off,none⟩))
 | tp (x:Ref) (π:List Sp) (b:Nat) (s:Nat×Nat) (h:g.bm x.id=some (some b,s)) (hk:Df s.1 π):V g (.tp x π) (.pointer (some ⟨b,dE π,none⟩))
 | sl (o off z n b cap:Nat) (s:Nat×Nat) (h:g.bm o=some (some b,s)) (hn:n≤cap) (hx:cap≤maxLen) (hs:off+n*z≤s.1):V g (.sl o off z n) (.slice (some ⟨b,off,none⟩) n cap)
 | ts (x:Ref) (z off n b cap:Nat) (s:Nat×Nat) (h:g.bm x.id=some (some b,s)) (hn:n≤cap) (hx:cap≤maxLen) (hs:(off+n)*z≤s.1) (hp:(off+cap)*z≤s.2) (d:Nat) (hd:cap≠0→d=off*z) (hq:s.1≤(off+cap)*z):V g (.ts x z off n) (.slice (some ⟨b,d,none⟩) n cap)
 | tj (x:Ref) (z off n:Nat) (ad:Option Addr) (h:g.bm x.id=some (none,(0,0))) (hn:off+n=0):V g (.ts x z off n) (.slice ad 0 0)
 | tf (x:Ref) (z off n b:Nat) (s:Nat×Nat) (h:g.bm x.id=some (some b,s)) (hx:n≤maxLen) (hs:(off+n)*z≤s.1) (d:Nat) (hd:n≠0→d=off*z):V g (.tf x z off n) (.slice (some ⟨b,d,none⟩) n n)
 | Dz (x:Ref) (z off n:Nat) (ad:Option Addr) (h:g.bm x.id=some (none,(0,0))) (hn:off+n=0):V g (.tf x z off n) (.slice ad 0 0)
 | te (x:Ref) (z:Nat) (ad:Option Addr) (h:g.bm x.id=some (none,(0,0))):V g (.tw x z) (.slice ad 0 0)
 | tw (x:Ref) (z n b cap t:Nat) (h:g.bm x.id=some (some b,(n*z,t))) (hn:n≤cap) (hx:cap≤maxLen) (hp:cap*z≤t) (d:Nat) (hd:cap≠0→d=0):V g (.tw x z) (.slice (some ⟨b,d,none⟩) n cap)
 | aa (x:Ref) (π:List Sp) (n z b cap:Nat) (s:Nat×Nat) (h:g.bm x.id=some (some b,s)) (hk:Df s.1 π) (hn:n≤cap) (hx:cap≤maxLen):V g (.aa x π n z) (.slice (some ⟨b,dE π,none⟩) n cap)
 | e0 (ad:Option Addr):V g .e0 (.slice ad 0 0)
 | tl (t:Ty) (full:Bool) (l:List t.T) (v:Value) (h:VD g.mem (.sl t.size full (l.map (dh t))) v):V g (.tl t full l) v
 | nn (t:Ty) (l:List t.T) (a:Addr) (n c:Nat) (h:VD g.mem (.sl t.size false (l.map (dh t))) (.slice (some a) n c)):V g (.nn t l) (.slice (some a) n c)
 | dp (t:Ty) (x:t.T) (b off:Nat) (f:Nat→Value) (hm:∀(j:Nat) (c:D),(dh t x)[j]?=some c→g.mem b (off+j)=some (f j)∧VD g.mem c (f j)):V g (.dp t x) (.pointer (some ⟨b,off,none⟩))
 | mp (x:Ref) (b:Nat) (s:Nat×Nat) (h:g.bm x.id=some (some b,s)):V g (.mp x) (.map (some b))
 | op (r:Nat) (o:Option Nat) (v:Value) (h0:o=none→v = .pointer none) (h1:∀j,o=some j→V g (.tp (.eH r j) []) v):V g (.op r o) v
 | os (r z:Nat) (o:Option Nat) (v:Value) (h0:o=none→V g .e0 v) (h1:∀j,o=some j→V g (.tw (.eH r j) z) v):V g (.os r z o) v
 | om (r:Nat) (o:Option Nat) (v:Value) (h0:o=none→v = .map none) (h1:∀j,o=some j→V g (.mp (.eH r j)) v):V g (.om r o) v
 | fn (f:FuncId) (fi ca:List A) (fv cv:Array Value) (hf:fi.length=fv.size) (hc:ca.length=cv.size) (h1:∀(i:Nat) (c:A) (x:Value),fi[i]?=some c→fv[i]?=some x→V g c x) (h2:∀(i:Nat) (c:A) (x:Value),ca[i]?=some c→cv[i]?=some x→V g c x) :
   V g (.fn f fi ca) (.func (.func f) fv cv)
 | sH (q n:Nat) (F:Tr A) (ps:List Tmp) (j:LH) (aa bd:av) (b:Nat) (s:Nat×Nat) (l:Lp) (h:g.bm q=some (some b,s)) (hl:g.lp b=some l) (h1:l.params=ps) (h2:l.assign=aa.code) (h3:l.body=bd.code) (h4:l.tmps.size=n) (h5:∀i,i<n→V g (aX F.get i) (l.tmps.getD i undef)):V g (.sH q n F ps j aa bd) (.func (.yield b) #[] #[])
 | un:V g .un undef
 | cG (v:Value):V g .cG v
structure Le (g g':G):Prop where
 bm:∀o p,g.bm o=some p→g'.bm o=some p
 mem:∀b o x,g.mem b o=some x→g'.mem b o=some x
 lp:∀b l,g.lp b=some l→g'.lp b=some l
theorem Le.refl (g:G):Le g g:=⟨fun _ _ h=>h,fun _ _ _ h=>h,fun _ _ h=>h⟩
theorem Le.trans {a b c:G} (h:Le a b) (k:Le b c):Le a c:=⟨fun _ _ e=>k.bm _ _ (h.bm _ _ e),fun _ _ _ e=>k.mem _ _ _ (h.mem _ _ _ e),fun _ _ e=>k.lp _ _ (h.lp _ _ e)⟩
theorem V.mono {g g':G} (h:Le g g') {p:A} {v:Value} (hv:V g p v):V g' p v:=by
 induction hv with
 | v x=>exact .v x
 | agg cs vs hl h1 _ ih=>exact .agg cs vs hl h1 ih
 | jy cs vs hl _ ih=>exact .jy cs vs hl ih
 | ptr o off b s h1=>exact .ptr o off b s (h.bm _ _ h1)
 | tp x π b s h1 hk=>exact .tp x π b s (h.bm _ _ h1) hk
 | sl o off z n b cap s h1 hn hx hs=>exact .sl o off z n b cap s (h.bm _ _ h1) hn hx hs
 | ts x z off n b cap s h1 hn hx hs hp d hd hq=>exact .ts x z off n b cap s (h.bm _ _ h1) hn hx hs hp d hd hq
 | tj x z off n ad h1 hn=>exact .tj x z off n ad (h.bm _ _ h1) hn
 | Dz x z off n ad h1 hn=>exact .Dz x z off n ad (h.bm _ _ h1) hn
 | tf x z off n b s h1 hx hs d hd=>exact .tf x z off n b s (h.bm _ _ h1) hx hs d hd
 | te x z ad h1=>exact .te x z ad (h.bm _ _ h1)
 | tw x z n b cap t h1 hn hx hp d hd=>exact .tw x z n b cap t (h.bm _ _ h1) hn hx hp d hd
 | aa x π n z b cap s h1 hk hn hx=>exact .aa x π n z b cap s (h.bm _ _ h1) hk hn hx
 | e0 ad=>exact .e0 ad
 | tl t f l v h1=>exact .tl t f l v (h1.mono h.mem)
 | nn t l a n c h1=>exact .nn t l a n c (h1.mono h.mem)
 | dp t x b off f hm=>exact .dp t x b off f (fun j c e=>⟨h.mem _ _ _ (hm j c e).1,(hm j c e).2.mono h.mem⟩)
 | mp x b s h1=>exact .mp x b s (h.bm _ _ h1)
 | op r o v h0 _ ih=>exact .op r o v h0 ih
 | os r z o v _ _ ih0 E4=>exact .os r z o v ih0 E4
 | om r o v h0 _ ih=>exact .om r o v h0 ih
 | fn f fi ca fv cv hf hc _ _ E4 ID=>exact .fn f fi ca fv cv hf hc E4 ID
 | sH q n F ps j aa bd b s l h0 hl h1 h2 h3 h4 _ ih=>exact .sH q n F ps j aa bd b s l (h.bm _ _ h0) (h.lp _ _ hl) h1 h2 h3 h4 ih
 | un=>exact .un
 | cG v=>exact .cG v
def Vs (g:G) (ps:List A) (vs:List Value):Prop:=ps.length=vs.length∧∀(j:Nat) (c:A) (x:Value),ps[j]?=some c→vs[j]?=some x→V g c x∧x.oneCell'=true
def lg (M:Mem) (ds:List D) (vs:List Value):Prop:=ds.length=vs.length∧∀(j:Nat) (c:D) (x:Value),ds[j]?=some c→vs[j]?=some x→VD M c x
theorem VD.one {M:Mem} {c:D} {x:Value} (h:VD M c x):x.oneCell'=true:=by cases h<;>first | assumption | rfl
theorem Vs.mono {g g':G} (h:Le g g') {ps:List A} {vs:List Value} (k:Vs g ps vs):Vs g' ps vs:=⟨k.1,fun j c x e1 e2=>⟨(k.2 j c x e1 e2).1.mono h,(k.2 j c x e1 e2).2⟩⟩
theorem Vs.one {g:G} {ps:List A} {vs:List Value} (h:Vs g ps vs):∀u∈vs,u.oneCell'=true:=fun u hu=>by
 obtain ⟨j,hj,rfl⟩:=List.getElem_of_mem hu
 exact (h.2 j _ _ (zD (by rw [h.1];exact hj)) (zD hj)).2
theorem Vs.nil {g:G}:Vs g [] []:=⟨rfl,fun j c x h=>by simp at h⟩
theorem Vs.append {g:G} {ds es:List A} {vs us:List Value} (h:Vs g ds vs) (k:Vs g es us):Vs g (ds++es) (vs++us):=by
 refine ⟨by simp [h.1,k.1],fun j c x e1 e2=>?_⟩
 by_cases hj:j<ds.length
 ·rw [zK hj] at e1
  rw [zK (by rw [←h.1];exact hj)] at e2
  exact h.2 j c x e1 e2
 ·rw [zJ (by omega)] at e1
  rw [zJ (by rw [←h.1];omega),←h.1] at e2
  exact k.2 _ c x e1 e2
theorem Vs.part {g:G} {cs:List A} {xs:List Value} (h:Vs g cs xs) (off n:Nat):Vs g ((cs.drop off).take n) ((xs.drop off).take n):=by
 refine ⟨by simp [h.1],fun j c x h1 h2=>?_⟩
 rw [List.getElem?_take] at h1 h2
 split at h1
 ·rename_i hj
  rw [if_pos hj] at h2
  rw [List.getElem?_drop] at h1 h2
  exact h.2 _ c x h1 h2
 ·cases h1
theorem Vs.cons {g:G} {c:A} {x:Value} {cs:List A} {xs:List Value} (h:V g c x) (h1:x.oneCell'=true) (k:Vs g cs xs):Vs g (c::cs) (x::xs):=
 Vs.append (ds:=[c]) (vs:=[x]) ⟨rfl,fun j c' x' e1 e2=>by
  cases j with
  | zero=>simp at e1 e2;subst e1 e2;exact ⟨h,h1⟩
  | succ j=>simp at e1⟩ k
theorem lg.append {M:Mem} {ds es:List D} {vs us:List Value} (h:lg M ds vs) (k:lg M es us):lg M (ds++es) (vs++us):=by
 refine ⟨by simp [h.1,k.1],fun j c x e1 e2=>?_⟩
 by_cases hj:j<ds.length
 ·rw [zK hj] at e1
  rw [zK (by rw [←h.1];exact hj)] at e2
  exact h.2 j c x e1 e2
 ·rw [zJ (by omega)] at e1
  rw [zJ (by rw [←h.1];omega),←h.1] at e2
  exact k.2 _ c x e1 e2
theorem Vs.split {g:G} {ds es:List A} {vs:List Value} (h:Vs g (ds++es) vs):Vs g ds (vs.take ds.length)∧Vs g es (vs.drop ds.length):=by
 have hl:=h.1
 rw [zY] at hl
 refine ⟨⟨by simp;omega,fun j c x e1 e2=>?_⟩,⟨by simp;omega,fun j c x e1 e2=>?_⟩⟩
 ·have hj:=(zB.1 e1).1
  rw [List.getElem?_take,if_pos hj] at e2
  exact h.2 j c x (by rw [zK hj];exact e1) e2
 ·rw [List.getElem?_drop] at e2
  exact h.2 (ds.length+j) c x (by rw [zJ (by omega),Nat.add_sub_cancel_left];exact e1) e2
theorem lg.split {M:Mem} {ds es:List D} {vs:List Value} (h:lg M (ds++es) vs):lg M ds (vs.take ds.length)∧lg M es (vs.drop ds.length):=by
 have hl:=h.1
 rw [zY] at hl
 refine ⟨⟨by simp;omega,fun j c x e1 e2=>?_⟩,⟨by simp;omega,fun j c x e1 e2=>?_⟩⟩
 ·have hj:=(zB.1 e1).1
  rw [List.getElem?_take,if_pos hj] at e2
  exact h.2 j c x (by rw [zK hj];exact e1) e2
 ·rw [List.getElem?_drop] at e2
  exact h.2 (ds.length+j) c x (by rw [zJ (by omega),Nat.add_sub_cancel_left];exact e1) e2
theorem Ew {g:G} {c:A} {d:D} (h1:∀x,V g c x→x.oneCell'=true→VD g.mem d x) {vs:List Value} (h:Vs g [c] vs):lg g.mem [d] vs:=by
 obtain ⟨x,rfl⟩:∃x,vs=[x]:=by
  match vs,h.1 with
  | [x],_=>exact ⟨x,rfl⟩
 refine ⟨rfl,fun j c' x' e1 e2=>?_⟩
 cases j with
 | zero=>simp at e1 e2;subst e1 e2;have:=h.2 0 c x rfl rfl;exact h1 x this.1 this.2
 | succ j=>simp at e1
theorem Ex {g:G} {c:A} {d:D} (h1:∀x,VD g.mem d x→V g c x) {vs:List Value} (h:lg g.mem [d] vs):Vs g [c] vs:=by
 obtain ⟨x,rfl⟩:∃x,vs=[x]:=by
  match vs,h.1 with
  | [x],_=>exact ⟨x,rfl⟩
 exact .cons (h1 x (h.2 0 d x rfl rfl)) (h.2 0 d x rfl rfl).one .nil
theorem FH {α:Type} {g:G} {f:α→List A} {f':α→List D} (h:∀x vs,Vs g (f x) vs→lg g.mem (f' x) vs) (hl:∀x,(f x).length=(f' x).length):∀(l:List α) (vs:List Value),Vs g (l.flatMap f) vs→lg g.mem (l.flatMap f') vs
 | [],vs,hv=>⟨by simpa using hv.1,fun j c x e=>by simp at e⟩
 | a::l,vs,hv=>by
  rw [List.flatMap_cons] at hv ⊢
  obtain ⟨h1,h2⟩:=hv.split
  have:=(h a _ h1).append (FH h hl l _ h2)
  rwa [zP] at this
theorem FI {α:Type} {g:G} {f:α→List A} {f':α→List D} (h:∀x vs,lg g.mem (f' x) vs→Vs g (f x) vs) (hl:∀x,(f x).length=(f' x).length):∀(l:List α) (vs:List Value),lg g.mem (l.flatMap f') vs→Vs g (l.flatMap f) vs
 | [],vs,hv=>⟨by simpa using hv.1,fun j c x e=>by simp at e⟩
 | a::l,vs,hv=>by
  rw [List.flatMap_cons] at hv ⊢
  obtain ⟨h1,h2⟩:=hv.split
  have:=(h a _ h1).append (FI h hl l _ h2)
  rwa [zP] at this
theorem Vs.data {g:G}:∀(t:Ty) (x:t.T) (vs:List Value),t.data=true→Vs g (aA t x) vs→lg g.mem (dh t x) vs
 | .int k,x,vs,_,h=>Ew (fun y hy h1=>by cases hy;exact .v _ rfl) h
 | .bool,x,vs,_,h=>Ew (fun y hy h1=>by cases hy;exact .v _ rfl) h
 | .unit,_,vs,_,h=>⟨h.1,fun j c x e=>by simp [dh] at e⟩
 | .pair a b,x,vs,hd,h=>by
  simp only [Ty.data,zC] at hd
  obtain ⟨h1,h2⟩:=Vs.split (show Vs g (aA a x.1++aA b x.2) vs from h)
  have:=(Vs.data a x.1 _ hd.1 h1).append (Vs.data b x.2 _ hd.2 h2)
  rwa [zP] at this
 | .arr n t,l,vs,hd,h=>FH (fun i us hu=>Vs.data t _ us hd hu) (fun i=>by rw [bI,dY]) _ vs h
 | .aF t,l,vs,_,h=>Ew (fun y hy h1=>by cases hy;assumption) h
 | .ptr _,_,_,hd,_=>by cases hd
 | .cY _,_,_,hd,_=>by cases hd
 | .je _ _,_,_,hd,_=>by cases hd
 | .pM _ _,_,_,hd,_=>by cases hd
 | .mp _,_,_,hd,_=>by cases hd
theorem lg.cells {g:G}:∀(t:Ty) (x:t.T) (vs:List Value),t.data=true→lg g.mem (dh t x) vs→Vs g (aA t x) vs
 | .int k,x,vs,_,h=>Ex (fun y hy=>by cases hy;exact .v _) h
 | .bool,x,vs,_,h=>Ex (fun y hy=>by cases hy;exact .v _) h
 | .unit,_,vs,_,h=>⟨h.1,fun j c x e=>by simp [aA] at e⟩
 | .pair a b,x,vs,hd,h=>by
  simp only [Ty.data,zC] at hd
  obtain ⟨h1,h2⟩:=lg.split (show lg g.mem (dh a x.1++dh b x.2) vs from h)
  have:=(lg.cells a x.1 _ hd.1 h1).append (lg.cells b x.2 _ hd.2 h2)
  rwa [zP] at this
 | .arr n t,l,vs,hd,h=>FI (fun i us hu=>lg.cells t _ us hd hu) (fun i=>by rw [bI,dY]) _ vs h
 | .aF t,l,vs,_,h=>Ex (fun y hy=>.tl t false l y hy) h
 | .ptr _,_,_,hd,_=>by cases hd
 | .cY _,_,_,hd,_=>by cases hd
 | .je _ _,_,_,hd,_=>by cases hd
 | .pM _ _,_,_,hd,_=>by cases hd
 | .mp _,_,_,hd,_=>by cases hd
end
set_option linter.unusedVariables false
set_option linter.unusedSimpArgs false
section
open Go.RowKit
inductive O8 where
 | map (es:List (A×A))
 | AV
 | loop (st:LoopState) (pe:Option Code)
inductive Ob where
 | cells (cs:List A)
 | cX (x:O8)
structure Hp where
 ob:Nat→Option Ob
 fr:Nat→Prop
def sF (g:G) (jO:Array MapEntry) (es:List (A×A)):Prop:=es.length=jO.size∧∀(i:Nat) (e:MapEntry) (q:A×A),jO[i]?=some e→es[i]?=some q→V g q.1 e.key∧V g q.2 e.val
theorem sF.mono {g g':G} (h:Le g g') {jO:Array MapEntry} {es:List (A×A)} (k:sF g jO es):sF g' jO es:=⟨k.1,fun i e q e1 e2=>⟨(k.2 i e q e1 e2).1.mono h,(k.2 i e q e1 e2).2.mono h⟩⟩
def pJ (g:G):O8→Obj→Prop
 | .map es,ob=>∃jO clock,ob = .map jO clock∧sF g jO es
 | .AV,ob=>ob = .deferred (some [])
 | .loop st pe,ob=>∃r:Loop,ob = .loop r∧r.state=st∧r.pending=pe
def IA:Ob→Bool
 | .cX (.loop _ _)=>true
 | _=>false
theorem pJ.mono {g g':G} (h:Le g g') {x:O8} {ob:Obj} (k:pJ g x ob):pJ g' x ob:=by
 cases x with
 | map es=>obtain ⟨jO,clock,k1,k2⟩:=k;exact ⟨jO,clock,k1,k2.mono h⟩
 | AV=>exact k
 | loop=>exact k
def m9 (g:G) (w:World) (b t:Nat) (cs:List A):Prop:=∃cur ty,w.heap[b]?=some (.cells cur ty (0,0))∧cur.size=t∧Vs g cs (cur.toList.take cs.length)
def GM (g:G) (w:World) (b:Nat) (s:Nat×Nat):Ob→Prop
 | .cells cs=>s.1=cs.length∧m9 g w b s.2 cs
 | .cX x=>∃ob,w.heap[b]?=some ob∧pJ g x ob
structure Inv (g:G) (S:Hp) (w:World):Prop where
 cells:∀(o:Nat) (cs:List A),S.ob o=some (.cells cs)→(g.bm o=some (none,(0,0))∧cs=[])∨∃b t,g.bm o=some (some b,(cs.length,t))∧m9 g w b t cs
 cX:∀(o:Nat) (x:O8),S.ob o=some (.cX x)→∃b s ob,g.bm o=some (some b,s)∧w.heap[b]?=some ob∧pJ g x ob
 fresh:∀o:Nat,S.fr o→g.bm o=none
 lt:∀(o b:Nat) (s:Nat×Nat),g.bm o=some (some b,s)→b<w.heap.size
 inj:∀(o o':Nat) (x x':Ob) (b:Nat) (s s':Nat×Nat),S.ob o=some x→S.ob o'=some x'→g.bm o=some (some b,s)→g.bm o'=some (some b,s')→o=o'
 mem:∀(b i:Nat) (x:Value),g.mem b i=some x→∃cur ty fz,w.heap[b]?=some (.cells cur ty fz)∧cur[i]?=some x
 ly:∀(o b:Nat) (s:Nat×Nat) (i:Nat) (x:Ob),S.ob o=some x→g.bm o=some (some b,s)→g.mem b i=none
 lp:∀(b:Nat) (l:Lp),g.lp b=some l→∃r,w.heap[b]?=some (.loop r)∧uJ r=l
def ml (S:Hp) (g:G) (k:Nat):Prop:=∃o s x,S.ob o=some x∧g.bm o=some (some k,s)
structure Ext (S:Hp) (g:G) (w:World) (S':Hp) (g':G) (w':World):Prop where
 le:Le g g'
 os:w'.os=w.os
 tape:w'.tape=w.tape
 output:w'.output=w.output
 size:w.heap.size≤w'.heap.size
 frame:∀k,k<w.heap.size→¬ml S g k→w'.heap[k]?=w.heap[k]?
 own:∀k,ml S' g' k→ml S g k∨w.heap.size≤k
 Jd:∀o p,g'.bm o=some p→g.bm o=some p∨(g.bm o=none∧S.fr o)
 fr:∀o,S'.fr o→S.fr o
 rR:∀b i x,g'.mem b i=some x→g.mem b i=some x∨ml S g b∨w.heap.size≤b
 lpo:∀b l,g'.lp b=some l→g.lp b=some l∨w.heap.size≤b
theorem Ext.refl (S:Hp) (g:G) (w:World):Ext S g w S g w:=⟨.refl g,rfl,rfl,rfl,Nat.le_refl _,fun _ _ _=>rfl,fun _ h=>.inl h,fun _ _ h=>.inl h,fun _ h=>h,fun _ _ _ h=>.inl h,fun _ _ h=>.inl h⟩
theorem Ext.trans {S1 S2 S3:Hp} {g1 g2 g3:G} {w1 w2 w3:World} (h:Ext S1 g1 w1 S2 g2 w2) (k:Ext S2 g2 w2 S3 g3 w3):Ext S1 g1 w1 S3 g3 w3 where
 le:=h.le.trans k.le
 os:=k.os.trans h.os
 tape:=k.tape.trans h.tape
 output:=k.output.trans h.output
 size:=Nat.le_trans h.size k.size
 frame:=fun i hi hn=>by
  rw [k.frame i (Nat.lt_of_lt_of_le hi h.size) (fun ho=>(h.own i ho).elim hn (fun hh=>absurd hi (by omega)))]
  exact h.frame i hi hn
 own:=fun i ho=>(k.own i ho).elim (fun ho=>h.own i ho) (fun hh=>.inr (Nat.le_trans h.size hh))
 Jd:=fun o p e=>by
  rcases k.Jd o p e with e1 | ⟨e1,e2⟩
  ·exact h.Jd o p e1
  ·refine .inr ⟨?_,h.fr o e2⟩
   cases hg:g1.bm o with
   | none=>rfl
   | some q=>rw [h.le.bm _ _ hg] at e1;cases e1
 fr:=fun o e=>h.fr o (k.fr o e)
 rR:=fun b i x e=>by
  rcases k.rR b i x e with e1 | e1 | e1
  ·exact h.rR b i x e1
  ·exact .inr (h.own b e1)
  ·exact .inr (.inr (Nat.le_trans h.size e1))
 lpo:=fun b l e=>by
  rcases k.lpo b l e with e1 | e1
  ·exact h.lpo b l e1
  ·exact .inr (Nat.le_trans h.size e1)
theorem Inv.less {g:G} {S S':Hp} {w:World} (h:Inv g S w) (hs:∀o x,S'.ob o=some x→S.ob o=some x) (hf:∀o,S'.fr o→S.fr o):Inv g S' w where
 cells:=fun o cs e=>h.cells o cs (hs _ _ e)
 cX:=fun o x e=>h.cX o x (hs _ _ e)
 fresh:=fun o e=>h.fresh o (hf o e)
 lt:=h.lt
 inj:=fun o o' x x' b s s' e1 e2=>h.inj o o' x x' b s s' (hs _ _ e1) (hs _ _ e2)
 mem:=h.mem
 ly:=fun o b s i x e=>h.ly o b s i x (hs _ _ e)
 lp:=h.lp
theorem Ext.less {S S':Hp} {g:G} {w:World} (hs:∀o x,S'.ob o=some x→S.ob o=some x) (hf:∀o,S'.fr o→S.fr o):Ext S g w S' g w where
 le:=.refl g
 os:=rfl
 tape:=rfl
 output:=rfl
 size:=Nat.le_refl _
 frame:=fun _ _ _=>rfl
 own:=fun k ⟨o,s,x,e1,e2⟩=>.inl ⟨o,s,x,hs _ _ e1,e2⟩
 Jd:=fun _ _ e=>.inl e
 fr:=hf
 rR:=fun _ _ _ e=>.inl e
 lpo:=fun _ _ e=>.inl e
theorem Inv.world {g:G} {S:Hp} {w w':World} (h:Inv g S w) (hs:w.heap.size≤w'.heap.size) (hh:∀k,k<w.heap.size→w'.heap[k]?=w.heap[k]?):Inv g S w' where
 cells:=fun o cs e=>(h.cells o cs e).imp id fun ⟨b,t,k1,cur,ty,k2,k3⟩=>⟨b,t,k1,cur,ty,by rw [hh b (h.lt _ _ _ k1)];exact k2,k3⟩
 cX:=fun o x e=>let ⟨b,s,ob,k1,k2,k3⟩:=h.cX o x e;⟨b,s,ob,k1,by rw [hh b (h.lt _ _ _ k1)];exact k2,k3⟩
 fresh:=h.fresh
 lt:=fun o b s e=>Nat.lt_of_lt_of_le (h.lt o b s e) hs
 inj:=h.inj
 mem:=fun b i x e=>let ⟨cur,ty,fz,k1,k2⟩:=h.mem b i x e;⟨cur,ty,fz,by rw [hh b (Array.getElem?_eq_some_iff.1 k1).1];exact k1,k2⟩
 ly:=h.ly
 lp:=fun b l e=>let ⟨r,k1,k2⟩:=h.lp b l e;⟨r,by rw [hh b (Array.getElem?_eq_some_iff.1 k1).1];exact k1,k2⟩
theorem Inv.drew {g:G} {S:Hp} {w:World} (h:Inv g S w):Inv g S w.drew:=⟨h.cells,h.cX,h.fresh,h.lt,h.inj,h.mem,h.ly,h.lp⟩
theorem Inv.mlt {g:G} {S:Hp} {w:World} (h:Inv g S w) {b i:Nat} {x:Value} (e:g.mem b i=some x):b<w.heap.size:=let ⟨_,_,_,k,_⟩:=h.mem b i x e;(Array.getElem?_eq_some_iff.1 k).1
def Hp.set (S:Hp) (o:Nat) (x:Ob):Hp:=⟨fun i=>if i=o then some x else S.ob i,S.fr⟩
def Hp.new (S:Hp) (o:Nat) (x:Ob):Hp:=⟨fun i=>if i=o then some x else S.ob i,fun i=>S.fr i∧i≠o⟩
def Hp.del (S:Hp) (o:Nat):Hp:=⟨fun i=>if i=o then none else S.ob i,S.fr⟩
def j5 (g:G) (o:Nat) (p:Option Nat×(Nat×Nat)):G:=⟨fun i=>if i=o then some p else g.bm i,g.mem,g.lp⟩
theorem l4 {g:G} {o:Nat} {p:Option Nat×(Nat×Nat)} (h:g.bm o=none):Le g (j5 g o p):=⟨fun i q e=>by
 show (if i=o then some p else g.bm i)=some q
 split
 ·rename_i hh;subst hh;rw [h] at e;cases e
 ·exact e,fun _ _ _ e=>e,fun _ _ e=>e⟩
theorem cg {g:G} {o:Nat} {p:Option Nat×(Nat×Nat)}:(j5 g o p).bm o=some p:=if_pos rfl
theorem kO {g:G} {o i:Nat} {p:Option Nat×(Nat×Nat)} (h:i≠o):(j5 g o p).bm i=g.bm i:=if_neg h
theorem Inv.upd {g g':G} {S S':Hp} {w w':World} {o b:Nat} {s:Nat×Nat} {x:Ob} (h:Inv g S w) (hle:Le g g') (Ct:g'.mem=g.mem) (IM:g'.lp=g.lp) (hlb:∀l,g.lp b=some l→∃r,w'.heap[b]?=some (.loop r)∧uJ r=l) (bK:∀i p,i≠o→g'.bm i=some p→g.bm i=some p) (hg:g'.bm o=some (some b,s))
  (fe:S'.ob o=some x) (hS:∀i y,i≠o→S'.ob i=some y→S.ob i=some y) (oH:∀i,S'.fr i→S.fr i∧g'.bm i=none) (pa:w.heap.size≤w'.heap.size) (hb:b<w'.heap.size)
  (kM:∀k,k≠b→k<w.heap.size→w'.heap[k]?=w.heap[k]?) (IS:∀i y s',i≠o→S'.ob i=some y→g.bm i=some (some b,s')→False) (hmb:∀i,g.mem b i=none)
  (C_:GM g' w' b s x):Inv g' S' w' where
 cells:=fun i cs e=>by
  by_cases hi:i=o
  ·subst hi
   rw [fe] at e
   obtain rfl:=Option.some.inj e
   obtain ⟨h1,h2⟩:s.1=cs.length∧m9 g' w' b s.2 cs:=C_
   exact .inr ⟨b,s.2,by rw [←h1];exact hg,h2⟩
  ·rcases h.cells i cs (hS i _ hi e) with ⟨k1,k2⟩ | ⟨b',t,k1,cur,ty,k2,pO,k3⟩
   ·exact .inl ⟨hle.bm _ _ k1,k2⟩
   ·exact .inr ⟨b',t,hle.bm _ _ k1,cur,ty,by rw [kM b' (fun hh=>IS i _ _ hi e (hh▸k1)) (h.lt _ _ _ k1)];exact k2,pO,k3.mono hle⟩
 cX:=fun i y e=>by
  by_cases hi:i=o
  ·subst hi
   rw [fe] at e
   obtain rfl:=Option.some.inj e
   obtain ⟨ob,h1,h2⟩:∃ob,w'.heap[b]?=some ob∧pJ g' y ob:=C_
   exact ⟨b,s,ob,hg,h1,h2⟩
  ·obtain ⟨b',s',ob,k1,k2,k3⟩:=h.cX i y (hS i _ hi e)
   exact ⟨b',s',ob,hle.bm _ _ k1,by rw [kM b' (fun hh=>IS i _ _ hi e (hh▸k1)) (h.lt _ _ _ k1)];exact k2,k3.mono hle⟩
 fresh:=fun i e=>(oH i e).2
 lt:=fun i b' s' e=>by
  by_cases hi:i=o
  ·subst hi;rw [hg] at e;simp at e;omega
  ·exact Nat.lt_of_lt_of_le (h.lt i b' s' (bK i _ hi e)) pa
 inj:=fun i j y z b' s1 s2 e1 e2 k1 k2=>by
  by_cases hi:i=o
  ·by_cases hj:j=o
   ·exact hi.trans hj.symm
   ·subst hi;rw [hg] at k1;simp at k1
    exact (IS j z s2 hj e2 (by rw [k1.1];exact bK j _ hj k2)).elim
  ·by_cases hj:j=o
   ·subst hj;rw [hg] at k2;simp at k2
    exact (IS i y s1 hi e1 (by rw [k2.1];exact bK i _ hi k1)).elim
   ·exact h.inj i j y z b' s1 s2 (hS i _ hi e1) (hS j _ hj e2) (bK i _ hi k1) (bK j _ hj k2)
 mem:=fun b' i y e=>by
  rw [Ct] at e
  obtain ⟨cur,ty,fz,k1,k2⟩:=h.mem b' i y e
  exact ⟨cur,ty,fz,by rw [kM b' (fun hh=>by subst hh;rw [hmb] at e;cases e) (h.mlt e)];exact k1,k2⟩
 ly:=fun i b' s' j y e k=>by
  rw [Ct]
  by_cases hi:i=o
  ·subst hi;rw [hg] at k;simp at k;rw [←k.1];exact hmb j
  ·exact h.ly i b' s' j y (hS i _ hi e) (bK i _ hi k)
 lp:=fun b' l e=>by
  rw [IM] at e
  by_cases L6:b'=b
  ·subst L6;exact hlb l e
  ·obtain ⟨r,k1,k2⟩:=h.lp b' l e
   exact ⟨r,by rw [kM b' L6 (Array.getElem?_eq_some_iff.1 k1).1];exact k1,k2⟩
theorem Inv.nlp {g:G} {S:Hp} {w:World} (h:Inv g S w) {o b:Nat} {s:Nat×Nat} {x:Ob} (ho:S.ob o=some x) (hg:g.bm o=some (some b,s)) (hx:IA x=false):g.lp b=none:=by
 cases hl:g.lp b with
 | none=>rfl
 | some l=>
  obtain ⟨r,k1,k2⟩:=h.lp b l hl
  cases x with
  | cells cs=>
   rcases h.cells o cs ho with ⟨q,_⟩ | ⟨b',t,q1,cur,ty,q2,_⟩
   ·rw [q] at hg;cases hg
   ·rw [q1] at hg;simp at hg;rw [hg.1,k1] at q2;cases q2
  | cX y=>
   obtain ⟨b',s',ob,q1,q2,q3⟩:=h.cX o y ho
   rw [q1] at hg;simp at hg;rw [hg.1,k1] at q2
   cases q2
   cases y with
   | map es=>obtain ⟨jO,clock,k,_⟩:=q3;cases k
   | AV=>cases q3
   | loop=>cases hx
theorem Inv.alloc {g:G} {S:Hp} {w:World} (h:Inv g S w) {o:Nat} {s:Nat×Nat} (ho:S.fr o) {x:Ob} {ob:Obj} (C_:GM (j5 g o (some w.heap.size,s)) (w.alloc ob) w.heap.size s x) :
  Inv (j5 g o (some w.heap.size,s)) (S.new o x) (w.alloc ob)∧Ext S g w (S.new o x) (j5 g o (some w.heap.size,s)) (w.alloc ob):=by
 have hg:=h.fresh o ho
 have hle:=l4 (p:=(some w.heap.size,s)) hg
 have pa:(w.alloc ob).heap.size=w.heap.size+1:=Array.size_push _
 have hold:∀i,i≠o→(j5 g o (some w.heap.size,s)).bm i=g.bm i:=fun i hi=>kO hi
 have hs:∀i y,i≠o→(S.new o x).ob i=some y→S.ob i=some y:=fun i y hi e=>by
  have e:(if i=o then some x else S.ob i)=some y:=e
  rwa [if_neg hi] at e
 refine ⟨h.upd hle rfl rfl (fun l e=>by obtain ⟨r,k1,_⟩:=h.lp _ l e;have:=(Array.getElem?_eq_some_iff.1 k1).1;omega) (fun i p hi e=>by rwa [hold i hi] at e) cg (show (if o=o then _ else _)=_ from if_pos rfl) hs (fun i hi=>⟨hi.1,by rw [hold i hi.2];exact h.fresh i hi.1⟩) (by omega) (by omega)
  (fun k _ hk=>Below.heap_alloc w _ k hk) (fun i y s' _ _ e=>by have:=h.lt _ _ _ e;omega) (fun i=>?_) C_,
  ⟨hle,rfl,rfl,rfl,by omega,fun k hk _=>Below.heap_alloc w _ k hk,fun k ⟨i,s',y,e1,e2⟩=>?_,fun i p e=>?_,fun i hi=>hi.1,fun _ _ _ e=>.inl e,fun _ _ e=>.inl e⟩⟩
 ·cases hm:g.mem w.heap.size i with
  | none=>rfl
  | some x=>have:=h.mlt hm;omega
 ·by_cases hi:i=o
  ·subst hi;rw [cg] at e2;simp at e2;exact .inr (by omega)
  ·rw [hold i hi] at e2;exact .inl ⟨i,s',y,hs i y hi e1,e2⟩
 ·by_cases hi:i=o
  ·subst hi;exact .inr ⟨hg,ho⟩
  ·rw [hold i hi] at e;exact .inl e
theorem Inv.Dl {g:G} {S:Hp} {w w':World} (h:Inv g S w) {o b:Nat} {s:Nat×Nat} {x y:Ob} (ho:S.ob o=some x) (hg:g.bm o=some (some b,s)) (pa:w'.heap.size=w.heap.size) (kM:∀k,k≠b→w'.heap[k]?=w.heap[k]?)
  (Fh:w'.os=w.os) (rU:w'.tape=w.tape) (yJ:w'.output=w.output) (C_:GM g w' b s y) (hlb:∀l,g.lp b=some l→∃r,w'.heap[b]?=some (.loop r)∧uJ r=l):Inv g (S.set o y) w'∧Ext S g w (S.set o y) g w':=by
 have hs:∀i z,i≠o→(S.set o y).ob i=some z→S.ob i=some z:=fun i z hi e=>by
  have e:(if i=o then some y else S.ob i)=some z:=e
  rwa [if_neg hi] at e
 refine ⟨h.upd (.refl g) rfl rfl hlb (fun i p _ e=>e) hg (show (if o=o then _ else _)=_ from if_pos rfl) hs (fun i hi=>⟨hi,h.fresh i hi⟩) (by omega) (by rw [pa];exact h.lt _ _ _ hg)
  (fun k hk _=>kM k hk) (fun i z s' hi e k=>hi (h.inj i o z x b s' s (hs i z hi e) ho k hg)) (fun i=>h.ly o b s i x ho hg) C_,
  ⟨.refl g,Fh,rU,yJ,by omega,fun k _ hn=>kM k (fun hh=>hn ⟨o,s,x,ho,hh▸hg⟩),fun k ⟨i,s',z,e1,e2⟩=>?_,fun i p e=>.inl e,fun i hi=>hi,fun _ _ _ e=>.inl e,fun _ _ e=>.inl e⟩⟩
 by_cases hi:i=o
 ·subst hi;exact .inl ⟨i,s',x,ho,e2⟩
 ·exact .inl ⟨i,s',z,hs i z hi e1,e2⟩
theorem Inv.write {g:G} {S:Hp} {w w':World} (h:Inv g S w) {o b:Nat} {s:Nat×Nat} {x y:Ob} (ho:S.ob o=some x) (hg:g.bm o=some (some b,s)) (pa:w'.heap.size=w.heap.size) (kM:∀k,k≠b→w'.heap[k]?=w.heap[k]?)
  (Fh:w'.os=w.os) (rU:w'.tape=w.tape) (yJ:w'.output=w.output) (C_:GM g w' b s y) (hx:IA x=false:=by rfl):Inv g (S.set o y) w'∧Ext S g w (S.set o y) g w':=
 h.Dl ho hg pa kM Fh rU yJ C_ (fun l e=>by rw [h.nlp ho hg hx] at e;cases e)
theorem Inv.mvw {g:G} {S:Hp} {w w':World} (h:Inv g S w) {o o' b:Nat} {s s':Nat×Nat} {x x':Ob} (ho:S.ob o=some x) (hf:S.fr o') (hg:g.bm o=some (some b,s)) (pa:w'.heap.size=w.heap.size) (kM:∀k,k≠b→w'.heap[k]?=w.heap[k]?)
  (Fh:w'.os=w.os) (rU:w'.tape=w.tape) (yJ:w'.output=w.output) (C_:GM (j5 g o' (some b,s')) w' b s' x') (hx:IA x=false:=by rfl) :
  Inv (j5 g o' (some b,s')) ((S.del o).new o' x') w'∧Ext S g w ((S.del o).new o' x') (j5 g o' (some b,s')) w':=by
 have hg':=h.fresh o' hf
 have lf:o≠o':=fun e=>by rw [e,hg'] at hg;cases hg
 have hle:=l4 (p:=(some b,s')) hg'
 have hs:∀i z,i≠o'→((S.del o).new o' x').ob i=some z→i≠o∧S.ob i=some z:=fun i z hi e=>by
  have e:(if i=o' then some x' else if i=o then none else S.ob i)=some z:=e
  rw [if_neg hi] at e
  split at e
  ·cases e
  ·exact ⟨by assumption,e⟩
 refine ⟨h.upd (o:=o') (b:=b) (s:=s') hle rfl rfl (fun l e=>by rw [h.nlp ho hg hx] at e;cases e) (fun i p hi e=>by rwa [kO hi] at e) cg (show (if o'=o' then _ else _)=_ from if_pos rfl) (fun i y hi e=>(hs i y hi e).2) (fun i hi=>⟨hi.1,by rw [kO hi.2];exact h.fresh i hi.1⟩) (by omega) (by rw [pa];exact h.lt _ _ _ hg) (fun k hk _=>kM k hk) ?_ (fun i=>h.ly o b s i _ ho hg) C_,⟨hle,Fh,rU,yJ,by omega,fun k _ hn=>kM k (fun hh=>hn ⟨o,s,x,ho,hh▸hg⟩),fun k ⟨i,s',y,e1,e2⟩=>?_,fun i p e=>?_,fun i hi=>hi.1,fun _ _ _ e=>.inl e,fun _ _ e=>.inl e⟩⟩
 ·intro i y s' hi e k
  obtain ⟨Hc,e'⟩:=hs i y hi e
  exact Hc (h.inj i o y _ b s' s e' ho k hg)
 ·by_cases hi:i=o'
  ·subst hi;rw [cg] at e2;simp at e2;exact .inl ⟨o,s,_,ho,e2.1▸hg⟩
  ·rw [kO hi] at e2;exact .inl ⟨i,s',y,(hs i y hi e1).2,e2⟩
 ·by_cases hi:i=o'
  ·subst hi;exact .inr ⟨hg',hf⟩
  ·rw [kO hi] at e;exact .inl e
theorem Inv.grow {g:G} {S:Hp} {w w':World} (h:Inv g S w) {o o' b:Nat} {s:Nat×Nat} {x:Ob} {cs':List A} (ho:S.ob o=some x) (hf:S.fr o') (hg:g.bm o=some (some b,s)) (pa:w'.heap.size=w.heap.size) (kM:∀k,k≠b→w'.heap[k]?=w.heap[k]?)
  (Fh:w'.os=w.os) (rU:w'.tape=w.tape) (yJ:w'.output=w.output) (C_:m9 g w' b s.2 cs') (hx:IA x=false:=by rfl) :
  Inv (j5 g o' (some b,(cs'.length,s.2))) ((S.del o).new o' (.cells cs')) w'∧Ext S g w ((S.del o).new o' (.cells cs')) (j5 g o' (some b,(cs'.length,s.2))) w':=by
 obtain ⟨cur,ty,k2,pO,k3⟩:=C_
 exact h.mvw ho hf hg pa kM Fh rU yJ ⟨rfl,cur,ty,k2,pO,k3.mono (l4 (h.fresh o' hf))⟩ hx
theorem Inv.ren {g:G} {S:Hp} {w:World} (h:Inv g S w) {o o' b m:Nat} {s:Nat×Nat} {cs:List A} (ho:S.ob o=some (.cells cs)) (hf:S.fr o') (hg:g.bm o=some (some b,s)) (hm:m≤cs.length) :
  Inv (j5 g o' (some b,(m,s.2))) ((S.del o).new o' (.cells (cs.take m))) w∧Ext S g w ((S.del o).new o' (.cells (cs.take m))) (j5 g o' (some b,(m,s.2))) w:=by
 have hl:(cs.take m).length=m:=by simp;omega
 have aaL:m9 g w b s.2 (cs.take m):=by
  rcases h.cells o cs ho with ⟨k1,_⟩ | ⟨b',t,k1,cur,ty,k2,pO,k3⟩
  ·rw [k1] at hg;cases hg
  ·rw [k1] at hg;simp at hg
   obtain ⟨rfl,rfl⟩:=hg
   refine ⟨cur,ty,k2,pO,?_⟩
   have:=k3.part 0 m
   simp only [List.drop_zero] at this
   rw [hl]
   rwa [List.take_take,Nat.min_eq_left hm] at this
 have:=h.grow ho hf hg rfl (fun _ _=>rfl) rfl rfl rfl aaL rfl
 rwa [hl] at this
theorem Inv.emp {g:G} {S:Hp} {w:World} (h:Inv g S w) {o:Nat} (hf:S.fr o):Inv (j5 g o (none,(0,0))) (S.new o (.cells [])) w∧Ext S g w (S.new o (.cells [])) (j5 g o (none,(0,0))) w:=by
 have hg:=h.fresh o hf
 have hle:=l4 (p:=(none,(0,0))) hg
 have hs:∀i z,i≠o→(S.new o (.cells [])).ob i=some z→S.ob i=some z:=fun i z hi e=>by
  have e:(if i=o then some (.cells []) else S.ob i)=some z:=e
  rwa [if_neg hi] at e
 have ho:(S.new o (.cells [])).ob o=some (.cells []):=if_pos rfl
 have hn:∀i b s,(j5 g o (none,(0,0))).bm i=some (some b,s)→i≠o∧g.bm i=some (some b,s):=fun i b s e=>by
  have hi:i≠o:=by rintro rfl;rw [cg] at e;simp at e
  exact ⟨hi,by rwa [kO hi] at e⟩
 refine ⟨⟨fun i cs e=>?_,fun i x e=>?_,fun i hi=>by rw [kO hi.2];exact h.fresh i hi.1,fun i b s e=>h.lt i b s (hn i b s e).2,fun i j x x' b s s' e1 e2 k1 k2=>?_,h.mem,fun i b s j x e k=>?_,h.lp⟩,
  ⟨hle,rfl,rfl,rfl,Nat.le_refl _,fun _ _ _=>rfl,fun k ⟨i,s',y,e1,e2⟩=>?_,fun i p e=>?_,fun i hi=>hi.1,fun _ _ _ e=>.inl e,fun _ _ e=>.inl e⟩⟩
 ·by_cases hi:i=o
  ·subst hi;rw [ho] at e;simp at e;subst e;exact .inl ⟨cg,rfl⟩
  ·rcases h.cells i cs (hs i _ hi e) with ⟨k1,k2⟩ | ⟨b',t,k1,cur,ty,k2,pO,k3⟩
   ·exact .inl ⟨hle.bm _ _ k1,k2⟩
   ·exact .inr ⟨b',t,hle.bm _ _ k1,cur,ty,k2,pO,k3.mono hle⟩
 ·have hi:i≠o:=by rintro rfl;rw [ho] at e;cases e
  obtain ⟨b',s',ob,k1,k2,k3⟩:=h.cX i x (hs i _ hi e)
  exact ⟨b',s',ob,hle.bm _ _ k1,k2,k3.mono hle⟩
 ·exact h.inj i j x x' b s s' (hs i _ (hn _ _ _ k1).1 e1) (hs j _ (hn _ _ _ k2).1 e2) (hn _ _ _ k1).2 (hn _ _ _ k2).2
 ·exact h.ly i b s j x (hs i _ (hn _ _ _ k).1 e) (hn _ _ _ k).2
 ·exact .inl ⟨i,s',y,hs i y (hn _ _ _ e2).1 e1,(hn _ _ _ e2).2⟩
 ·by_cases hi:i=o
  ·subst hi;exact .inr ⟨hg,hf⟩
  ·rw [kO hi] at e;exact .inl e
def FB (g:G) (b:Nat) (f:Nat→Option Value):G:=⟨g.bm,fun b' i=>if b'=b then f i else g.mem b' i,g.lp⟩
theorem I0 {g:G} {b:Nat} {f:Nat→Option Value} (h:∀i,g.mem b i=none):Le g (FB g b f):=⟨fun _ _ e=>e,fun b' i x e=>by
 show (if b'=b then f i else g.mem b' i)=some x
 split
 ·rename_i hh;subst hh;rw [h] at e;cases e
 ·exact e,fun _ _ e=>e⟩
theorem Inv.NI {g:G} {S:Hp} {w:World} (h:Inv g S w) {o b:Nat} {s:Nat×Nat} {cs:List A} (ho:S.ob o=some (.cells cs)) (hg:g.bm o=some (some b,s)) :
  ∃cur:Array Value,∃ty,w.heap[b]?=some (.cells cur ty (0,0))∧s.1=cs.length∧Vs g cs (cur.toList.take cs.length)∧Le g (FB g b fun i=>if i<cs.length then cur[i]? else none) ∧
   Inv (FB g b fun i=>if i<cs.length then cur[i]? else none) (S.del o) w∧Ext S g w (S.del o) (FB g b fun i=>if i<cs.length then cur[i]? else none) w:=by
 rcases h.cells o cs ho with ⟨k1,_⟩ | ⟨b',t,k1,cur,ty,k2,pO,k3⟩
 ·rw [k1] at hg;cases hg
 rw [k1] at hg;simp at hg
 obtain ⟨rfl,rfl⟩:=hg
 have hle:Le g (FB g b' fun i=>if i<cs.length then cur[i]? else none):=I0 (fun i=>h.ly o b' _ i _ ho k1)
 have hs:∀i z,(S.del o).ob i=some z→i≠o∧S.ob i=some z:=fun i z e=>by
  have e:(if i=o then none else S.ob i)=some z:=e
  split at e
  ·cases e
  ·exact ⟨by assumption,e⟩
 refine ⟨cur,ty,k2,rfl,k3,hle,⟨fun i cs' e=>?_,fun i x e=>?_,h.fresh,h.lt,fun i j x x' b s s' e1 e2=>h.inj i j x x' b s s' (hs _ _ e1).2 (hs _ _ e2).2,fun b i x e=>?_,fun i b s j x e k=>?_,h.lp⟩,
  ⟨hle,rfl,rfl,rfl,Nat.le_refl _,fun _ _ _=>rfl,fun k ⟨i,s',y,e1,e2⟩=>.inl ⟨i,s',y,(hs i y e1).2,e2⟩,fun i p e=>.inl e,fun i hi=>hi,fun b i x e=>?_,fun _ _ e=>.inl e⟩⟩
 ·rcases h.cells i cs' (hs i _ e).2 with ⟨k1,k2⟩ | ⟨b',t,k1,cur,ty,k2,pO,k3⟩
  ·exact .inl ⟨k1,k2⟩
  ·exact .inr ⟨b',t,k1,cur,ty,k2,pO,k3.mono hle⟩
 ·obtain ⟨b',s',ob,k1,k2,k3⟩:=h.cX i x (hs i _ e).2
  exact ⟨b',s',ob,k1,k2,k3.mono hle⟩
 ·have e:(if b=b' then (if i<cs.length then cur[i]? else none) else g.mem b i)=some x:=e
  by_cases hb:b=b'
  ·rw [if_pos hb] at e
   by_cases hi:i<cs.length
   ·rw [if_pos hi] at e;rw [hb];exact ⟨cur,ty,_,k2,e⟩
   ·rw [if_neg hi] at e;cases e
  ·rw [if_neg hb] at e;exact h.mem b i x e
 ·show (if b=b' then (if j<cs.length then cur[j]? else none) else g.mem b j)=none
  have lf:b≠b':=fun hb=>by
   subst hb
   exact (hs i x e).1 (h.inj i o x _ b s _ (hs i x e).2 ho k k1)
  rw [if_neg lf]
  exact h.ly i b s j x (hs i x e).2 k
 ·have e:(if b=b' then (if i<cs.length then cur[i]? else none) else g.mem b i)=some x:=e
  split at e
  ·rename_i hb;exact .inr (.inl ⟨o,_,_,ho,hb▸k1⟩)
  ·exact .inl e
end
set_option linter.unusedVariables false
set_option linter.unusedSimpArgs false
section
open Go.RowKit
section
variable {P:Program}
theorem xe {α:Type} {sz:Nat}:∀{es:List (List α)},(∀e,e∈es→e.length=sz)→es.flatten.length=es.length*sz
 | [],_=>by simp
 | d::es,hz=>by
  rw [List.flatten_cons,zY,hz d (zV ..),xe (fun e he=>hz e (zT _ he)),zR,Nat.add_mul]
  omega
theorem flat_get {α:Type} {sz:Nat}:∀{es:List (List α)} (_:∀e,e∈es→e.length=sz) {i j:Nat} {e:List α} {c:α},es[i]?=some e→e[j]?=some c→es.flatten[i*sz+j]?=some c
 | [],_,i,j,e,c,h1,_=>by simp at h1
 | d::es,hz,0,j,e,c,h1,h2=>by
  simp at h1
  subst h1
  rw [List.flatten_cons,Nat.zero_mul,Nat.zero_add,zK (zB.1 h2).1]
  exact h2
 | d::es,hz,i+1,j,e,c,h1,h2=>by
  have hd:=hz d (zV ..)
  rw [List.flatten_cons,zJ (by rw [hd,Nat.add_mul];omega)]
  rw [show (i+1)*sz+j-d.length=i*sz+j from by rw [hd,Nat.add_mul];omega]
  exact flat_get (fun e he=>hz e (zT _ he)) (by simpa using h1) h2
def eQ (P:Program) (t:TypeId) (n:Nat):Prop:=∃i,P.info? t=some i∧i.size=n
theorem eQ.run {t:TypeId} {n:Nat} (h:eQ P t n) (w:World):(sizeOf t).run P w = .ok n w:=by
 obtain ⟨i,hi,rfl⟩:=h
 simp [sizeOf,typeInfo,hi]
def j7:TypeDesc→Bool
 | .struct _ | .array _ _=>true
 | _=>false
theorem ln {t:TypeId} {d:TypeDesc} (h:P.underlying t=some d) (w:World):(isAgg t).run P w = .ok (j7 d) w:=by
 simp only [isAgg,Sem.run_bind,run_underlying h,Result.andThen_ok]
 cases d<;>rfl
def IF:BinOp→IntKind→Int→Int→Option Value
 | .add,k,a,b=>some (.int k (k.wrap (a+b)))
 | .sub,k,a,b=>some (.int k (k.wrap (a-b)))
 | .mul,k,a,b=>some (.int k (k.wrap (a*b)))
 | .quo,k,a,b=>if b=0 then none else some (.int k (k.wrap (a.tdiv b)))
 | .rem,k,a,b=>if b=0 then none else some (.int k (a.tmod b))
 | .and,k,a,b=>some (.int k (bits .and k a b))
 | .or,k,a,b=>some (.int k (bits .or k a b))
 | .xor,k,a,b=>some (.int k (bits .xor k a b))
 | .andNot,k,a,b=>some (.int k (bits .andNot k a b))
 | .eql,_,a,b=>some (.bool (decide (a=b)))
 | .neq,_,a,b=>some (.bool (!decide (a=b)))
 | .lss,_,a,b=>some (.bool (decide (a<b)))
 | .leq,_,a,b=>some (.bool (decide (a≤b)))
 | .gtr,_,a,b=>some (.bool (decide (b<a)))
 | .geq,_,a,b=>some (.bool (decide (b≤a)))
 | _,_,_,_=>none
theorem DS {op:BinOp} {k:IntKind} {a b:Int} {r:Value} (h:IF op k a b=some r) (T:TypeId) (w:World):(binOp op T (.int k a) (.int k b)).run P w = .ok r w:=by
 cases op<;>simp only [IF] at h<;>(try (split at h))<;>simp at h<;>subst h <;>
  simp_all [binOp,Op.intArith,Op.intDiv,Op.intBits,Op.intCmp,bits,bne]<;>(rw [Bool.eq_iff_iff];simp)
def yD:BinOp→IntKind→Int→Int→Option Value
 | .shl,k,a,b=>if b<0 then none else some (.int k (k.wrap (a*2^(min b.toNat k.bits))))
 | .shr,k,a,b=>if b<0 then none else some (.int k (a.fdiv (2^(min b.toNat k.bits))))
 | _,_,_,_=>none
theorem run_equalIn_bool (d:Nat) {T:TypeId} (hT:P.underlying T=some .bool) (m n:Bool) (w:World):(Op.equalIn (d+1) T (.bool m) (.bool n)).run P w = .ok (m == n) w:=by
 simp [Op.equalIn,run_underlying hT]
theorem run_equal_bool {T:TypeId} (hT:P.underlying T=some .bool) (m n:Bool) (w:World):(Op.equal T (.bool m) (.bool n)).run P w = .ok (m == n) w:=
 run_equalIn_bool 9999 hT m n w
theorem v_ {T:TypeId} {fs:Array Field} {f:Nat} {fd:Field} {s:Nat} (hT:P.underlying T=some (.struct fs)) (hf:fs[f]?=some fd) (hs:eQ P fd.type s) (h0:s≠0) (b off:Nat) (w:World) :
  (Instr.fieldAt T (.pointer (some ⟨b,off,none⟩)) f).run P w = .ok (.pointer (some ⟨b,off+fd.offset,none⟩)) w:=by
 simp [Instr.fieldAt,run_underlying hT,hf,Instr.sureAddr,fieldPlace,hs.run w,h0,Addr.add_lit]
def TI (P:Program) (T:TypeId) (sz bytes:Nat) (z:Value):Prop:=∃i,P.info? T=some i∧i.zero=some z∧i.size=sz∧i.bytes=bytes∧z.cells.size=sz∧(z.cells.toList.all (·.oneCell'))=true
theorem aN {T:TypeId} {sz bytes:Nat} {z:Value} (h:(P.info? T).map (fun i=>(i.zero,i.size,i.bytes))=some (some z,sz,bytes)) (h1:z.cells.size=sz) (h2:(z.cells.toList.all (·.oneCell'))=true):TI P T sz bytes z:=by
 cases hi:P.info? T with
 | none=>simp [hi] at h
 | some i=>
  simp [hi] at h
  exact ⟨i,hi,h.1,h.2.1,h.2.2,h1,h2⟩
theorem TI.size {T:TypeId} {sz bytes:Nat} {z:Value} (h:TI P T sz bytes z):eQ P T sz:=let ⟨i,h1,_,h2,_⟩:=h;⟨i,h1,h2⟩
def pX {α:Type} (n:Nat) (zs:List α):List α:=(List.replicate n zs).flatten
theorem ko {α:Type} (n:Nat) (zs:List α):(pX n zs).length=n*zs.length:=by
 unfold pX;rw [xe (sz:=zs.length) (fun e he=>by rw [(List.mem_replicate.1 he).2])];simp
theorem wh {α:Type} {n:Nat} {zs:List α} {j:Nat} (h:j<n*zs.length):(pX n zs)[j]?=zs[j%zs.length]?:=by
 have h0:0<zs.length:=by
  rcases Nat.eq_zero_or_pos zs.length with h1 | h1
  ·rw [h1] at h;omega
  ·exact h1
 have hd:j / zs.length<n:=Nat.div_lt_of_lt_mul (by rw [Nat.mul_comm];exact h)
 have hm:=Nat.mod_lt j h0
 have:=flat_get (sz:=zs.length) (es:=List.replicate n zs) (i:=j / zs.length) (j:=j%zs.length) (e:=zs) (c:=zs[j%zs.length]) (fun e he=>by rw [(List.mem_replicate.1 he).2]) (by simp [hd]) (by simp [hm])
 unfold pX
 rw [show j / zs.length*zs.length+j%zs.length=j by rw [Nat.mul_comm];exact Nat.div_add_mod j zs.length] at this
 rw [this];simp [hm]
theorem sX {z:Array Value} {n j:Nat} (h0:0<z.size) (h:j<n*z.size):(madeCells z (n*z.size))[j]?=z[j%z.size]?:=by
 have hm:=Nat.mod_lt j h0
 simp [madeCells,h,hm]
theorem CC (off:Nat) (l:List Value) (cs:Array Value) (h:off+l.length≤cs.size) :
  ((l.zipIdx 0).foldl (fun cs (x:Value×Nat)=>cs.setIfInBounds (off+x.2) x.1) cs).toList=cs.toList.take off++l++cs.toList.drop (off+l.length):=by
 obtain ⟨h1,h2⟩:=Go.Great.foldl_set off l 0 cs
 generalize (l.zipIdx 0).foldl (fun cs (x:Value×Nat)=>cs.setIfInBounds (off+x.2) x.1) cs=r at *
 apply List.ext_getElem?
 intro k
 have h3:=h2 k
 simp only [Nat.add_zero] at h3
 rw [Array.getElem?_toList,h3]
 by_cases hk:k<off
 ·rw [if_neg (by omega),List.append_assoc,zK (by simp;omega),List.getElem?_take,if_pos hk,Array.getElem?_toList]
 ·by_cases Fm:k<off+l.length
  ·rw [if_pos ⟨by omega,Fm,by omega⟩,List.append_assoc,zJ (by simp;omega),zK (by simp;omega)]
   simp [Nat.min_eq_left (show off≤cs.size by omega)]
  ·rw [if_neg (by omega),zJ (by simp;omega),List.getElem?_drop]
   simp only [zY,List.length_take,Array.length_toList,Nat.min_eq_left (show off≤cs.size by omega)]
   rw [Array.getElem?_toList]
   congr 1;omega
theorem BD {x:Value} {k:IntKind} {n:Int} (hx:x = .int k n) {y:Nat} (c:BoundsCode) (h:0≤n∧n≤y) (w:World):(Instr.sliceBound x y c).run P w = .ok n.toNat w:=by
 subst hx
 simp [Instr.sliceBound,asIntOf,h]
theorem g7 (w:World) (T E ty:TypeId) (hT:P.underlying T=some (.slice E)) {sz:Nat} (hE:eQ P E sz) (A:Option Addr) (b:Option Addr) (n cap c:Nat) (h:n≤cap) :
  (Builtin.append_ #[T,T] ty #[.slice A n cap,.slice b 0 c]).run P w = .ok (.slice A n cap) w:=by
 have hf:(Builtin.firstCells sz 0 (.slice b 0 c)).run P w = .ok #[] w:=by
  cases b<;>simp [Builtin.firstCells,loadCells,loadCellsFrom]
 cases A<;>simp [Builtin.append_,run_underlying hT,hE.run,Builtin.lenOf,h,hf,storeCells]
theorem BC (w:World) {T T' ty E t:TypeId} {sz Dd off n cap m c2:Nat} {q:Addr} {cur:Array Value} {us:List Value} (hT:P.underlying T=some (.slice E)) (hE:eQ P E sz) (hg:w.heap[Dd]?=some (.cells cur t (0,0)))
  (o_:us.length=m*sz) (hq:∀j v,us[j]?=some v→w.cell? (q.add j)=some v) (h1:∀v∈us,v.oneCell'=true) (hm:m≤n) (Nu:off+us.length≤cur.size) :
  (Builtin.copy_ #[T,T'] ty #[.slice (some ⟨Dd,off,none⟩) n cap,.slice (some q) m c2]).run P w = .ok (.int .i64 ((m:Nat):Int)) (w.setRow Dd (cur.toList.take off++us++cur.toList.drop (off+us.length)).toArray):=by
 have hl:=run_loadCells_list (P:=P) w q us hq
 rw [o_] at hl
 have qL:=run_storeCells_at P Dd off t us 0 cur w hg (by simpa using Nu) h1
 simp only [Nat.add_zero] at qL
 have aaX:Nat.min m n=m:=Nat.min_eq_left hm
 simp only [Builtin.copy_,List.getElem?_toArray,List.getElem?_cons_zero,List.getElem?_cons_succ,Sem.run_bind,run_underlying hT,Result.andThen_ok,Builtin.lenOf,Sem.run_pure,aaX,hE.run w,Builtin.firstCells,hl]
 simp only [qL,Result.andThen_ok,Sem.run_pure,goInt]
theorem sO (w:World) {T T' ty E:TypeId} {sz n cap c2:Nat} {A B:Option Addr} (hT:P.underlying T=some (.slice E)) (hE:eQ P E sz) :
  (Builtin.copy_ #[T,T'] ty #[.slice A n cap,.slice B 0 c2]).run P w = .ok (.int .i64 ((0:Nat):Int)) w:=by
 have hl:∀(x:Addr),(loadCells x 0).run P w = .ok #[] w:=fun x=>by simpa using run_loadCells_list (P:=P) w x [] (by simp)
 cases A<;>cases B<;>simp [Builtin.copy_,run_underlying hT,Builtin.lenOf,Builtin.firstCells,hE.run w,storeCells,hl,goInt]
def wc (rv:ResultVar) (tmps:Array Value):Sem Value:=
 match rv with
 | .tmp t=>pure (tmps.getD t undef)
 | .cell a t=>do loadVar t (←asAddr (tmps.getD a undef))
theorem kI {fn:Func} {tmps:Array Value} {w:World} {vs:List Value} (h:(fn.results.toList.mapM (fun rv=>wc rv tmps)).run P w = .ok vs w) :
  (results fn tmps).run P w = .ok (if h:vs.toArray.size=1 then vs.toArray[0] else .tuple vs.toArray) w:=by
 show (do
  let vs ←fn.results.mapM (fun rv=>wc rv tmps)
  pure (if h:vs.size=1 then vs[0] else .tuple vs):Sem Value).run P w=_
 rw [Array.mapM_eq_mapM_toList]
 simp only [Sem.run_bind,Sem.run_map,h,Result.andThen_ok,Sem.run_pure]
structure vG (P:Program) (f:FuncId):Prop where
 out : ∃ fn, P.funcs[f]? = some fn ∧ (fn.name == "runtime.NumGoroutine") = false ∧ fn.body.isSome = true
theorem vG.run {f:FuncId} (h:vG P f) (args:Array Value) (w:World):(callFunc f args).run P w = .ok (.enter f args) w:=by
 obtain ⟨fn,h1,h2,h3⟩:=h.out
 have h4:fn.body.isNone=false:=by cases hb:fn.body<;>simp_all
 simp only [callFunc,Sem.run_bind,run_program,Result.andThen_ok,h1,h2,h4,Bool.false_eq_true,if_false,Sem.run_pure]
theorem lq (w:World) (t ty e e':TypeId) (i:TypeInfo) (ht:P.underlying t=some (.slice e)) (hi:P.info? e=some i)
  (g yg MC:Nat) (cur:Array Value) (hg:w.heap[g]?=some (.cells cur e' (0,0)))
  (a:Addr) (m c:Nat) (news:List Value) (hl:news.length=m*i.size) (mO:∀j u,news[j]?=some u→w.cell? (a.add j)=some u) (h1:∀u∈news,u.oneCell'=true)
  (qB:yg+m≤MC) (Nu:yg*i.size+news.length≤cur.size) :
  (Builtin.append_ #[t,t] ty #[.slice (some ⟨g,0,none⟩) yg MC,.slice (some a) m c]).run P w =
   .ok (.slice (some ⟨g,0,none⟩) (yg+m) MC) (w.setRow g (cur.toList.take (yg*i.size)++news++cur.toList.drop (yg*i.size+news.length)).toArray):=by
 have hf:=run_firstCells_some (P:=P) w i.size m a m c news hl mO
 have qL:=run_storeCells_at P g (yg*i.size) e' news 0 cur w hg (by simpa using Nu) h1
 simp only [Nat.add_zero] at qL
 simp [Builtin.append_,run_underlying ht,sizeOf,typeInfo,hi,Builtin.lenOf,qB,hf,Addr.add_lit,qL]
end
end
set_option linter.unusedVariables false
set_option linter.unusedSimpArgs false
section
open Go.RowKit
def fc (P:Program) (o:Oper) (ρ:Operand→A) (S S':Hp) (pv:A):Prop:=
  ∀(g:G) (w:World) (a:Act) (next:Act→World→Prop) (Q:Exit→Act→World→Prop),Inv g S w→(∀x∈o.op.operands,V g (ρ x) (a.eval x)) →
   (∀v g' w',V g' pv v→Inv g' S' w'→Ext S g w S' g' w'→next (a.put o.dst v) w')→o.wp P a w next Q
def GL (P:Program) (o:Oper) (ρ:Operand→A) (S:Hp) (pv:A):Prop:=
 ∀(g:G) (w:World) (a:Act),Inv g S w→(∀x∈o.op.operands,V g (ρ x) (a.eval x))→∃v,(execOp a.eval o).run P w = .ok (.value v) w∧V g pv v
theorem GL.bm {P:Program} {o:Oper} {ρ:Operand→A} {S:Hp} {pv:A} (h:∀(g:G) (w:World) (a:Act),Inv g S w→(∀x∈o.op.operands,V g (ρ x) (a.eval x))→GL P o ρ S pv):GL P o ρ S pv:=fun g w a hI hv=>h g w a hI hv g w a hI hv
theorem fc.value {P:Program} {o:Oper} {ρ:Operand→A} {S:Hp} {pv:A}
  (h:∀(g:G) (w:World) (a:Act),Inv g S w→(∀x∈o.op.operands,V g (ρ x) (a.eval x))→∃v,(execOp a.eval o).run P w = .ok (.value v) w∧V g pv v):fc P o ρ S S pv:=by
 intro g w a next Q hI hx K
 obtain ⟨v,hr,hv⟩:=h g w a hI hx
 unfold Oper.wp
 rw [hr]
 exact K v g w hv hI (.refl S g w)
section
variable {P:Program} {o:Oper} {ρ:Operand→A} {S:Hp}
def A.cells:A→Option (List A)
 | .agg cs=>some cs
 | .v x=>bif x.oneCell' then some [.v x] else none
 | .jy _ | .cG | .un=>none
 | p=>some [p]
theorem tE {v:Value} (h1:v.oneCell'=true):v.cells = #[v]:=by cases v<;>first | rfl | (cases h1)
theorem qn {g:G} {p:A} {v:Value} (h:V g p v) (h1:v.oneCell'=true):Vs g [p] v.cells.toList:=by
 rw [tE h1]
 exact .cons h h1 .nil
theorem V.B6 {g:G} {p:A} {v:Value} (h:V g p v) (hp:match p with | .op _ _ | .os _ _ _ | .om _ _=>True | _=>False:=by trivial):v.oneCell'=true:=by
 cases h with
 | op r o v h0 h1=>cases o with
  | none=>rw [h0 rfl];rfl
  | some j=>have:=h1 j rfl;cases this;rfl
 | os r z o v h0 h1=>cases o with
  | none=>have:=h0 rfl;cases this;rfl
  | some j=>have:=h1 j rfl;cases this<;>rfl
 | om r o v h0 h1=>cases o with
  | none=>rw [h0 rfl];rfl
  | some j=>have:=h1 j rfl;cases this;rfl
 | _=>exact hp.elim
theorem V.cells {g:G} {p:A} {v:Value} {ps:List A} (h:V g p v) (hp:p.cells=some ps):Vs g ps v.cells.toList:=by
 cases p with
 | v y=>
  cases h
  have hp:(bif v.oneCell' then some [A.v v] else none)=some ps:=hp
  cases hy:v.oneCell' with
  | true=>rw [hy] at hp;cases hp;exact qn (.v v) hy
  | false=>rw [hy] at hp;cases hp
 | agg cs=>
  cases hp
  cases h with
  | agg _ vs hl h1 h=>exact ⟨by simp [Value.cells,hl],fun j c x h2 h3=>⟨h j c x h2 (by simpa [Value.cells] using h3),h1 x (zG h3)⟩⟩
 | jy _=>cases hp
 | cG=>cases hp
 | un=>cases hp
 | tl t f l=>cases hp;refine qn h ?_;cases h with | tl _ _ _ _ h1=>exact h1.one
 | op r o=>cases hp;exact qn h h.B6
 | os r z o=>cases hp;exact qn h h.B6
 | om r o=>cases hp;exact qn h h.B6
 | _=>cases hp;refine qn h ?_;cases h<;>rfl
def kh (z:Value):List A:=z.cells.toList.map .v
theorem oJ {z:Value} (h:(z.cells.toList.all (·.oneCell'))=true) (g:G):Vs g (kh z) z.cells.toList:=by
 refine ⟨by simp [kh],fun j c x h1 h2=>?_⟩
 simp only [kh,zL,h2,Option.map_some,zI] at h1
 subst h1
 exact ⟨.v x,List.all_eq_true.1 h x (zG h2)⟩
theorem V.gw {g:G} {x v:Value} (h:V g (.v x) v):v=x:=by cases h;rfl
theorem wD {x:Operand} (ho:o.op = .move x):fc P o ρ S S (ρ x):=
 .value fun g w a _ hx=>⟨a.eval x,by simp [execOp,ho],hx x (by simp [ho,Op.operands])⟩
theorem yq {x:Operand} (ho:o.op = .assign x):fc P o ρ S S (ρ x):=
 .value fun g w a _ hx=>⟨a.eval x,by simp [execOp,ho],hx x (by simp [ho,Op.operands])⟩
theorem wF {x:Operand} {ix:Nat} {cs:List A} {p:A} (ho:o.op = .extract x ix) (hx:ρ x = .jy cs) (hp:cs[ix]?=some p):fc P o ρ S S p:=
 .value fun g w a _ hv=>by
  have e1:=hv x (by simp [ho,Op.operands])
  rw [hx] at e1
  generalize hu:a.eval x=u at e1
  cases e1 with
  | jy _ vs hl h=>
   have eO:ix<vs.size:=by rw [←hl];exact (zB.1 hp).1
   exact ⟨vs[ix],by simp [execOp,ho,hu,Instr.extract,eO],h ix p vs[ix] hp (by simp [eO])⟩
theorem wC {x y z:Operand} {b:Bool} (ho:o.op = .pick x y z) (hx:ρ x = .v (.bool b)):fc P o ρ S S (if b then ρ y else ρ z):=
 .value fun g w a _ hv=>by
  have e1:=(hx▸hv x (by simp [ho,Op.operands])).gw
  refine ⟨if b then a.eval y else a.eval z,by simp [execOp,ho,e1,asBool],?_⟩
  cases b
  ·exact hv z (by simp [ho,Op.operands])
  ·exact hv y (by simp [ho,Op.operands])
theorem H_ {op:BinOp} {T T':TypeId} {x y:Operand} {k:IntKind} {m n:Int} {r:Value} (ho:o.op = .binOp op T x y T') (hx:ρ x = .v (.int k m)) (hy:ρ y = .v (.int k n)) (h:IF op k m n=some r):fc P o ρ S S (.v r):=
 .value fun g w a _ hv=>by
  have e1:=(hx▸hv x (by simp [ho,Op.operands])).gw
  have e2:=(hy▸hv y (by simp [ho,Op.operands])).gw
  exact ⟨r,by simp only [execOp,ho,e1,e2,eqGuard_at_int,pure_bind,Sem.run_bind,DS h,Result.andThen_ok,Sem.run_pure],.v r⟩
theorem BY {op:BinOp} {T T':TypeId} {x y:Operand} {k k':IntKind} {m n:Int} {r:Value} (ho:o.op = .binOp op T x y T') (hx:ρ x = .v (.int k m)) (hy:ρ y = .v (.int k' n)) (h:yD op k m n=some r):fc P o ρ S S (.v r):=
 .value fun g w a _ hv=>by
  have k1:=(hx▸hv x (by simp [ho,Op.operands])).gw
  have k2:=(hy▸hv y (by simp [ho,Op.operands])).gw
  cases op<;>simp only [yD] at h<;>(try (split at h))<;>simp at h
  all_goals
   subst h
   refine ⟨_,?_,.v _⟩
   clear hv
   simp only [execOp,ho,k1,k2,eqGuard_at_int,pure_bind,Sem.run_bind,binOp,Op.shift]
   rw [if_neg (by assumption)]
   simp
theorem H9 {op:BinOp} {T T':TypeId} {x y:Operand} {m n:Bool} (ho:o.op = .binOp op T x y T') (hT:P.underlying T=some .bool) (hx:ρ x = .v (.bool m)) (hy:ρ y = .v (.bool n))
  (h:op = .eql∨op = .neq):fc P o ρ S S (.v (.bool (if op = .eql then m == n else m != n))):=
 .value fun g w a _ hv=>by
  have k1:=(hx▸hv x (by simp [ho,Op.operands])).gw
  have k2:=(hy▸hv y (by simp [ho,Op.operands])).gw
  refine ⟨_,?_,.v _⟩
  rcases h with rfl | rfl
  ·simp only [execOp,ho,k1,k2,eqGuard_at_bool,pure_bind,Sem.run_bind,binOp,run_equal_bool hT,Result.andThen_ok,Sem.run_pure,if_true]
  ·simp only [execOp,ho,k1,k2,eqGuard_at_bool,pure_bind,Sem.run_bind,binOp,run_equal_bool hT,Result.andThen_ok,Sem.run_pure]
   simp [bne]
theorem H3 {T:TypeId} {x:Operand} {b:Bool} (ho:o.op = .unOp .not T x) (hx:ρ x = .v (.bool b)):fc P o ρ S S (.v (.bool (!b))):=
 .value fun g w a _ hv=>⟨_,by simp [execOp,ho,(hx▸hv x (by simp [ho,Op.operands])).gw,Op.unary],.v _⟩
theorem Eu {s t:TypeId} {x:Operand} {k k':IntKind} {n:Int} (ho:o.op = .convert s t x) (hs:(P.underlying s).isSome=true) (ht:P.underlying t=some (.int k')) (hx:ρ x = .v (.int k n)) :
  fc P o ρ S S (.v (.int k' (k'.wrap n))):=
 .value fun g w a _ hv=>by
  have e1:=(hx▸hv x (by simp [ho,Op.operands])).gw
  obtain ⟨d,hd⟩:=Option.isSome_iff_exists.mp hs
  exact ⟨_,by simp [execOp,ho,e1,convert,run_underlying hd,run_underlying ht,Conv.intToInt],.v _⟩
def Pl:A→Option (Nat×Nat)
 | .ptr o off=>some (o,off)
 | .tp x π=>some (x.id,dE π)
 | _=>none
theorem V.pl {g:G} {p:A} {v:Value} {i off:Nat} (h:V g p v) (hp:Pl p=some (i,off)):∃b s,g.bm i=some (some b,s)∧v = .pointer (some ⟨b,off,none⟩):=by
 cases h<;>simp only [Pl,zI,zU,reduceCtorEq] at hp
 ·obtain ⟨rfl,rfl⟩:=hp;exact ⟨_,_,by assumption,rfl⟩
 ·obtain ⟨rfl,rfl⟩:=hp;exact ⟨_,_,by assumption,rfl⟩
def E1:A→Bool
 | .ptr _ _=>true
 | .tp _ _=>true
 | .dp _ _=>true
 | _=>false
theorem V.E1 {g:G} {p:A} {v:Value} (h:V g p v) (hp:E1 p=true):∃ad,v = .pointer (some ad):=by
 cases h<;>first | exact ⟨_,rfl⟩ | cases hp
theorem uB {x:Operand} (ho:o.op = .nilCheck x) (hx:E1 (ρ x)=true):fc P o ρ S S (ρ x):=
 .value fun g w a _ hv=>by
  have e1:=hv x (by simp [ho,Op.operands])
  obtain ⟨ad,hu⟩:=e1.E1 hx
  exact ⟨a.eval x,by simp [execOp,ho,hu],e1⟩
theorem BZ {T:TypeId} {fs:Array Field} {f s:Nat} {fd:Field} {x:Operand} {r:A} (ho:o.op = .fieldAddr T x f) (hT:P.underlying T=some (.struct fs)) (hf:fs[f]?=some fd) (hs:eQ P fd.type s) (h0:s≠0)
  (hr:∀g v,V g (ρ x) v→∃b off,v = .pointer (some ⟨b,off,none⟩)∧V g r (.pointer (some ⟨b,off+fd.offset,none⟩))):fc P o ρ S S r:=
 .value fun g w a _ hv=>by
  obtain ⟨b,off,hu,h1⟩:=hr g _ (hv x (by simp [ho,Op.operands]))
  exact ⟨_,by simp only [execOp,ho,hu,Sem.run_bind,v_ hT hf hs h0,Result.andThen_ok,Sem.run_pure],h1⟩
theorem sU {T E:TypeId} {x y:Operand} {len sz:Nat} {k:IntKind} {n:Int} {r:A} (ho:o.op = .indexAddr T x y) (hT:P.underlying T=some (.array len E)) (hE:eQ P E sz)
  (hy:ρ y = .v (.int k n)) (hn:0≤n∧n<len) (hr:∀g v,V g (ρ x) v→∃b off,v = .pointer (some ⟨b,off,none⟩)∧V g r (.pointer (some ⟨b,off+n.toNat*sz,none⟩))):fc P o ρ S S r:=
 .value fun g w a _ hv=>by
  obtain ⟨b,off,hu,h1⟩:=hr g _ (hv x (by simp [ho,Op.operands]))
  have k2:=(hy▸hv y (by simp [ho,Op.operands])).gw
  refine ⟨_,?_,h1⟩
  simp only [execOp,ho,hu,k2,Sem.run_bind,run_indexAt_array (P:=P) w T ⟨b,off,none⟩ k n (by simp [Program.elem,Program.arrayLen,hT])]
  simp only [Program.elem,Program.arrayLen,hT,if_pos hn,hE.run w,Result.andThen_ok,Addr.add_lit,Sem.run_pure]
theorem uD {T E:TypeId} {x y:Operand} {z:Nat} {k:IntKind} {n:Int} {r:A} (ho:o.op = .indexAddr T x y) (hT:P.underlying T=some (.slice E)) (hE:eQ P E z)
  (hy:ρ y = .v (.int k n)) (hr:∀g w v,Inv g S w→V g (ρ x) v→∃b off m cap,v = .slice (some ⟨b,off,none⟩) m cap∧(0≤n∧n<m)∧V g r (.pointer (some ⟨b,off+n.toNat*z,none⟩))):fc P o ρ S S r:=
 .value fun g w a hI hv=>by
  obtain ⟨b,off,m,cap,hu,hn,h1⟩:=hr g w _ hI (hv x (by simp [ho,Op.operands]))
  have k2:=(hy▸hv y (by simp [ho,Op.operands])).gw
  refine ⟨_,?_,h1⟩
  simp only [execOp,ho,hu,k2,Sem.run_bind,run_indexAt_slice (P:=P) w T ⟨b,off,none⟩ m cap k n (by simp [Program.elem,hT]),if_pos hn]
  simp only [Program.elem,hT,hE.run w,Result.andThen_ok,Addr.add_lit,Sem.run_pure]
theorem oV {g:G} {w:World} {b off n:Nat} {cur:Array Value} {ty:TypeId} {cs:List A} (k2:w.heap[b]?=some (.cells cur ty (0,0))) (k3:Vs g cs (cur.toList.take cs.length)) (hn:off+n≤cs.length) :
  ∃us:List Value,Vs g ((cs.drop off).take n) us∧us.length=n∧∀j x,us[j]?=some x→w.cell? ((⟨b,off,none⟩:Addr).add j)=some x:=by
 have h1:=k3.part off n
 have hl:=h1.1
 have hl0:=k3.1
 simp only [List.length_take,List.length_drop,Array.length_toList] at hl hl0
 generalize C9:((cur.toList.take cs.length).drop off).take n=us at h1
 refine ⟨us,h1,by have:=h1.1;simp at this;omega,fun j x hj=>?_⟩
 rw [Addr.add_lit,cell_of_row w b _ cur ty _ k2]
 rw [←C9,List.getElem?_take] at hj
 split at hj
 ·rw [List.getElem?_drop,List.getElem?_take] at hj
  split at hj
  ·simpa using hj
  ·cases hj
 ·cases hj
theorem yy {g:G} {w:World} {b off n:Nat} {cur:Array Value} {ty:TypeId} {cs:List A} (k2:w.heap[b]?=some (.cells cur ty (0,0))) (k3:Vs g cs (cur.toList.take cs.length)) (hn:off+n≤cs.length) :
  ∃us:List Value,(loadCells ⟨b,off,none⟩ n).run P w = .ok us.toArray w∧Vs g ((cs.drop off).take n) us∧us.length=n∧∀j x,us[j]?=some x→w.cell? ((⟨b,off,none⟩:Addr).add j)=some x:=by
 obtain ⟨us,h1,h2,h3⟩:=oV k2 k3 hn
 have:=run_loadCells_list (P:=P) w ⟨b,off,none⟩ us h3
 rw [h2] at this
 exact ⟨us,this,h1,h2,h3⟩
theorem wB {T:TypeId} {d:TypeDesc} {x:Operand} {p off:Nat} {cs:List A} {q:A} (ho:o.op = .load T x) (hT:P.underlying T=some d) (hd:j7 d=false) (hx:Pl (ρ x)=some (p,off))
  (hp:S.ob p=some (.cells cs)) (hq:cs[off]?=some q):GL P o ρ S q:=
 fun g w a hI hv=>by
  obtain ⟨b',s,h,hu⟩:=(hv x (by simp [ho,Op.operands])).pl hx
  rcases hI.cells p cs hp with ⟨k1,_⟩ | ⟨b,t,k1,cur,ty,k2,pO,k3⟩
  ·rw [k1] at h;cases h
  rw [k1] at h;simp at h
  obtain ⟨rfl,_⟩:=h
  have eO:off<cs.length:=(zB.1 hq).1
  have hl:=k3.1
  simp only [List.length_take,Array.length_toList] at hl
  have hc:w.cell? ⟨b,off,none⟩=some cur[off]:=by rw [cell_of_row w b off cur ty _ k2];simp [show off<cur.size by omega]
  have:=k3.2 off q cur[off] hq (by rw [List.getElem?_take,if_pos eO];simp [show off<cur.size by omega])
  exact ⟨cur[off],by simp [execOp,ho,hu,Instr.loadAt,Instr.sureAddr,loadVar,ln hT,hd,hc],this.1⟩
theorem Vs.agg {g:G} {cs:List A} {us:List Value} (h:Vs g cs us):V g (.agg cs) (.agg us.toArray):=
 .agg _ _ (by simpa using h.1) (by simpa using h.one) (fun i c x e1 e2=>(h.2 i c x e1 (by simpa using e2)).1)
theorem oZ {T:TypeId} {d:TypeDesc} {x:Operand} {p off n:Nat} {cs:List A} (ho:o.op = .load T x) (hT:P.underlying T=some d) (hd:j7 d=true) (hs:eQ P T n) (hx:Pl (ρ x)=some (p,off))
  (hp:S.ob p=some (.cells cs)) (hn:off+n≤cs.length):GL P o ρ S (.agg ((cs.drop off).take n)):=
 fun g w a hI hv=>by
  obtain ⟨b',s,h,hu⟩:=(hv x (by simp [ho,Op.operands])).pl hx
  rcases hI.cells p cs hp with ⟨k1,_⟩ | ⟨b,t,k1,cur,ty,k2,pO,k3⟩
  ·rw [k1] at h;cases h
  rw [k1] at h;simp at h
  obtain ⟨rfl,_⟩:=h
  obtain ⟨us,h1,h2,_⟩:=yy (P:=P) k2 k3 hn
  exact ⟨.agg us.toArray,by simp [execOp,ho,hu,Instr.loadAt,Instr.sureAddr,loadVar,ln hT,hd,hs.run w,h1],h2.agg⟩
theorem V.Xk {g:G} {S:Hp} {w:World} (hI:Inv g S w) {t:Ty} {x:t.T} {v:Value} (hd:t.data=true) (h:V g (.dp t x) v):∃b off us,v = .pointer (some ⟨b,off,none⟩)∧Vs g (aA t x) us∧us.length=t.size∧∀j y,us[j]?=some y→w.cell? ((⟨b,off,none⟩:Addr).add j)=some y:=by
 cases h with
 | dp _ _ b off f hm=>
  have hl:=dY t x
  refine ⟨b,off,(List.range t.size).map f,rfl,lg.cells t x _ hd ⟨by simp [hl],fun j c y e1 e2=>?_⟩,by simp,fun j y e=>?_⟩
  ·have:=(hm j c e1).2
   simp only [zL,Option.map_eq_some_iff] at e2
   obtain ⟨k,hk,rfl⟩:=e2
   have hj:j<t.size:=by rw [←hl];exact (zB.1 e1).1
   rw [List.getElem?_range hj] at hk
   obtain rfl:=Option.some.inj hk
   exact this
  ·simp only [zL,Option.map_eq_some_iff] at e
   obtain ⟨k,hk,rfl⟩:=e
   have hj:j<t.size:=by
    rcases Nat.lt_or_ge j t.size with h | h
    ·exact h
    ·rw [zb (by simpa using h)] at hk;cases hk
   rw [List.getElem?_range hj] at hk
   obtain rfl:=Option.some.inj hk
   have hc : (dh t x)[j]? = some ((dh t x)[j]'(by rw [hl]; exact hj)) := zD _
   obtain ⟨cur,ty,fz,q1,q2⟩:=hI.mem _ _ _ (hm j _ hc).1
   rw [Addr.add_lit,cell_of_row w b _ cur ty _ q1];exact q2
theorem qv {T:TypeId} {d:TypeDesc} {x:Operand} {t:Ty} {y:t.T} {r:A} (ho:o.op = .load T x) (hT:P.underlying T=some d) (hs:eQ P T t.size) (hx:ρ x = .dp t y) (hd:t.data=true) (hr:if j7 d=true then r = .agg (aA t y) else aA t y=[r]):GL P o ρ S r:=
 fun g w a hI hv=>by
  obtain ⟨b,off,us,hu,h1,h2,h3⟩:=V.Xk hI hd (hx▸hv x (by simp [ho,Op.operands]))
  cases ha:j7 d with
  | true=>
   rw [ha,if_pos rfl] at hr;subst hr
   have:=run_loadCells_list (P:=P) w ⟨b,off,none⟩ us h3
   rw [h2] at this
   exact ⟨.agg us.toArray,by simp [execOp,ho,hu,Instr.loadAt,Instr.sureAddr,loadVar,ln hT,ha,hs.run w,this],h1.agg⟩
  | false=>
   rw [ha,if_neg (by simp)] at hr
   rw [hr] at h1
   match us,h1 with
   | [u],h1=>
    have:=h3 0 u rfl
    rw [Addr.add_lit,Nat.add_zero] at this
    exact ⟨u,by simp [execOp,ho,hu,Instr.loadAt,Instr.sureAddr,loadVar,ln hT,ha,this],(h1.2 0 r u rfl rfl).1⟩
   | [],h1=>exact absurd h1.1 (by simp)
   | _::_::_,h1=>exact absurd h1.1 (by simp)
def put (cs:List A) (off:Nat) (ps:List A):List A:=cs.take off++(ps++cs.drop (off+ps.length))
theorem uu {cs ps:List A} {off:Nat} (h:off+ps.length≤cs.length):(put cs off ps).length=cs.length:=by simp [put];omega
theorem Vs.put {g:G} {cs ps:List A} {vs us:List Value} (h:Vs g cs vs) (k:Vs g ps us) {off:Nat} (ho:off+ps.length≤cs.length):Vs g (put cs off ps) (vs.take off++(us++vs.drop (off+us.length))):=by
 unfold Bm.put
 have h1:=h.part 0 off
 have h2:=h.part (off+ps.length) (cs.length-(off+ps.length))
 simp only [List.drop_zero] at h1
 refine h1.append (k.append ?_)
 have e1:(cs.drop (off+ps.length)).take (cs.length-(off+ps.length))=cs.drop (off+ps.length):=za (by simp)
 have e2:(vs.drop (off+ps.length)).take (cs.length-(off+ps.length))=vs.drop (off+us.length):=by rw [k.1];exact za (by rw [List.length_drop,h.1];omega)
 rwa [e1,e2] at h2
theorem Inv.store {g:G} {S:Hp} {w:World} (h:Inv g S w) {p b off:Nat} {s:Nat×Nat} {cs ps:List A} {us:List Value} (hp:S.ob p=some (.cells cs)) (hg:g.bm p=some (some b,s)) (hv:Vs g ps us) (hn:off+ps.length≤cs.length) :
  ∃cur ty,w.heap[b]?=some (.cells cur ty (0,0))∧off+us.length≤cur.size∧Inv g (S.set p (.cells (put cs off ps))) (w.setRow b (cur.toList.take off++us++cur.toList.drop (off+us.length)).toArray) ∧
   Ext S g w (S.set p (.cells (put cs off ps))) g (w.setRow b (cur.toList.take off++us++cur.toList.drop (off+us.length)).toArray):=by
 rcases h.cells p cs hp with ⟨k1,_⟩ | ⟨b',t,k1,cur,ty,k2,pO,k3⟩
 ·rw [k1] at hg;cases hg
 have OV:=hg
 rw [k1] at hg;simp at hg
 obtain ⟨rfl,rfl⟩:=hg
 have hl:=k3.1
 simp only [List.length_take,Array.length_toList] at hl
 have o_:=hv.1
 obtain ⟨h1,h2⟩:=h.write (w':=w.setRow b' (cur.toList.take off++us++cur.toList.drop (off+us.length)).toArray) (y:=.cells (put cs off ps)) hp k1 (size_setRow ..) (fun k hk=>setRow_other w b' k _ hk) rfl rfl rfl
  ⟨(uu hn).symm,_,ty,setRow_heap w b' cur _ ty _ k2,by simp;omega,by
   rw [uu hn]
   have:=k3.put hv hn
   have e:((cur.toList.take off++us++cur.toList.drop (off+us.length)).toArray.toList).take cs.length=(cur.toList.take cs.length).take off++(us++(cur.toList.take cs.length).drop (off+us.length)):=by
    apply List.ext_getElem?
    intro j
    have OT:cur.toList.length=cur.size:=Array.length_toList
    simp only [List.append_assoc,List.getElem?_take,List.getElem?_append,List.length_take,List.getElem?_drop]
    have m1:min off cur.toList.length=off:=by omega
    have m2:min off (min cs.length cur.toList.length)=off:=by omega
    rw [m1,m2]
    by_cases c1:j<off
    ·simp [c1,show j<cs.length by omega]
    ·by_cases c2:j-off<us.length
     ·simp [c1,c2,show j<cs.length by omega]
     ·simp only [c1,c2,if_false,show off+us.length+(j-off-us.length)=j by omega]
   rw [e];exact this⟩
 exact ⟨cur,ty,k2,by omega,h1,h2⟩
theorem BW {T:TypeId} {x y:Operand} {p off n:Nat} {cs ps:List A} (ho:o.op = .store T x y) (hs:eQ P T n) (hx:Pl (ρ x)=some (p,off)) (hy:(ρ y).cells=some ps) (hl:ps.length=n)
  (hp:S.ob p=some (.cells cs)) (hn:off+n≤cs.length):fc P o ρ S (S.set p (.cells (put cs off ps))) .cG:=by
 intro g w a next Q hI hv K
 obtain ⟨b,s,h,hu⟩:=(hv x (by simp [ho,Op.operands])).pl hx
 have e2:=(hv y (by simp [ho,Op.operands])).cells hy
 obtain ⟨cur,ty,k2,pO,h3,h4⟩:=hI.store (off:=off) hp h e2 (by omega)
 unfold Oper.wp
 have pa:(a.eval y).cells.size=n:=by have:=e2.1;simp at this;omega
 have qL:=run_storeCells_at P b off ty (a.eval y).cells.toList 0 cur w k2 (by simpa using pO) e2.one
 simp only [execOp,ho,hu,Instr.storeAt,Instr.sureAddr,pure_bind,storeVar,Sem.run_bind,hs.run w,Result.andThen_ok,pa,ne_eq,not_true_eq_false,if_false]
 simp only [Nat.add_zero] at qL
 simp only [qL,Result.andThen_ok,Sem.run_pure]
 exact K _ g _ (.cG _) h3 h4
theorem Vs.all {g:G} {cs:List A} {vs:Array Value} (h:Vs g cs vs.toList):Vs g cs (vs.toList.take cs.length):=by
 rw [za (by rw [h.1];exact Nat.le_refl _)];exact h
theorem Inv.l7 {g:G} {S:Hp} {w:World} (h:Inv g S w) {q:Nat} (hf:S.fr q) {cs:List A} {vs:Array Value} (ty:TypeId) (hl:cs.length≤vs.size) (hv:Vs g cs (vs.toList.take cs.length)) :
  Inv (j5 g q (some w.heap.size,(cs.length,vs.size))) (S.new q (.cells cs)) (w.alloc (.cells vs ty))∧Ext S g w (S.new q (.cells cs)) (j5 g q (some w.heap.size,(cs.length,vs.size))) (w.alloc (.cells vs ty)):=
 h.alloc hf ⟨rfl,vs,ty,heap_alloc_new w _,rfl,hv.mono (l4 (h.fresh q hf))⟩
end
end
set_option linter.unusedVariables false
set_option linter.unusedSimpArgs false
section
open Go.RowKit
section
variable {P:Program} {o:Oper} {ρ:Operand→A} {S:Hp}
def Zs (zs:List A) (z:Value):Prop:=∀g,Vs g zs z.cells.toList
theorem Dg {z:Value} (h:(z.cells.toList.all (·.oneCell'))=true):Zs (kh z) z:=fun g=>oJ h g
def sh (ρ:Operand→A) (place:Nat→Option (Nat×Nat)):List A→List (Nat×Operand)→Option (List A)
 | cs,[]=>some cs
 | cs,(i,x)::r=>match place i,(ρ x).cells with
  | some (off,size),some ps=>bif Nat.beq ps.length size && Nat.ble (off+size) cs.length then sh ρ place (put cs off ps) r else none
  | _,_=>none
theorem sf {g:G} {a:Act} {place:Nat→Option (Nat×Nat)}:∀(l:List (Nat×Operand)) (cs cs':List A) (cells:Array Value),(∀x∈l,V g (ρ x.2) (a.eval x.2))→Vs g cs cells.toList→sh ρ place cs l=some cs' →
  ∃mY,Instr.fill place cells (l.map fun (i,x)=>(i,a.eval x))=some mY∧Vs g cs' mY.toList
 | [],cs,cs',cells,_,hc,h=>by cases h;exact ⟨cells,rfl,hc⟩
 | (i,x)::r,cs,cs',cells,hv,hc,h=>by
  unfold sh at h
  split at h
  ·rename_i off size ps h1 h2
   cases h3:(Nat.beq ps.length size && Nat.ble (off+size) cs.length) with
   | false=>rw [h3] at h;cases h
   | true=>
    rw [h3] at h;simp only [cond_true] at h
    simp only [zC] at h3
    have h31:=Nat.eq_of_beq_eq_true h3.1
    have h32:=Nat.le_of_ble_eq_true h3.2
    have hx:=(hv (i,x) (zV ..)).cells h2
    have pa:(a.eval x).cells.size=size:=by have:=hx.1;rw [h31] at this;simpa using this.symm
    have hle:off+(a.eval x).cells.size≤cells.size:=by have:=hc.1;simp at this;omega
    have YU:=hc.put hx (off:=off) (by omega)
    rw [←List.append_assoc] at YU
    have hf:=CC off (a.eval x).cells.toList cells (by simpa using hle)
    have yN:(a.eval x).cells.zipIdx.foldl (fun cs (y:Value×Nat)=>cs.setIfInBounds (off+y.2) y.1) cells=(cells.toList.take off++(a.eval x).cells.toList++cells.toList.drop (off+(a.eval x).cells.toList.length)).toArray:=by
     apply Array.ext'
     rw [←Array.foldl_toList,Array.toList_zipIdx,hf]
    obtain ⟨mY,h4,h5⟩:=sf r (Bm.put cs off ps) cs' (cells.toList.take off++(a.eval x).cells.toList++cells.toList.drop (off+(a.eval x).cells.toList.length)).toArray (fun y hy=>hv y (zT _ hy)) (by simpa using YU) h
    refine ⟨mY,?_,h5⟩
    simp only [List.map_cons,Instr.fill,h1,pa,ne_eq,not_true_eq_false,decide_false,Bool.false_or,decide_eq_true_eq]
    rw [if_neg (by omega)]
    rw [←h4]
    congr 1
  ·cases h
theorem B4 {T:TypeId} {fs:Array Field} {it:TypeInfo} {z:Value} {cs:List A} {pl:Array (Nat×Nat)} {parts:Array (Nat×Operand)} (ho:o.op = .build T parts) (hT:P.underlying T=some (.struct fs))
  (hi:P.info? T=some it) (hz:it.zero=some z) (UJ:(z.cells.toList.all (·.oneCell'))=true) (sJ:∀w:World,(fs.mapM fun f=>(do pure (f.offset,←sizeOf f.type):Sem (Nat×Nat))).run P w = .ok pl w)
  (hf:sh ρ (pl[·]?) (kh z) parts.toList=some cs):fc P o ρ S S (.agg cs):=
 .value fun g w a _ hv=>by
  obtain ⟨mY,h1,h2⟩:=sf (g:=g) (a:=a) parts.toList (kh z) cs z.cells (fun x hx=>hv x.2 (by
   simp only [ho,Op.operands]
   rw [List.mem_toArray]
   exact List.mem_map.2 ⟨x,hx,rfl⟩)) (oJ UJ g) hf
  have rW:(parts.map fun (i,x)=>(i,a.eval x)).toList=parts.toList.map fun (i,x)=>(i,a.eval x):=by simp
  refine ⟨.agg mY,?_,.agg _ _ (by have:=h2.1;simpa using this) h2.one (fun i c x e1 e2=>(h2.2 i c x e1 (by simpa using e2)).1)⟩
  simp only [execOp,ho,Instr.build,Sem.run_bind,zeroValue,typeInfo,run_program,Result.andThen_ok,hi,hz,Sem.run_pure,run_underlying hT,sJ,rW,h1]
theorem sV {T El:TypeId} {n es sz b:Nat} {z:Value} {cs:List A} {parts:Array (Nat×Operand)} (ho:o.op = .build T parts) (hT:P.underlying T=some (.array n El)) (hti:TI P T sz b z) (hE:eQ P El es)
  (hf:sh ρ (fun i=>some (i*es,es)) (kh z) parts.toList=some cs):fc P o ρ S S (.agg cs):=
 .value fun g w a _ hv=>by
  obtain ⟨it,hi,hz,_,_,_,h6⟩:=hti
  obtain ⟨mY,h1,h2⟩:=sf (g:=g) (a:=a) parts.toList (kh z) cs z.cells (fun x hx=>hv x.2 (by
   simp only [ho,Op.operands]
   rw [List.mem_toArray]
   exact List.mem_map.2 ⟨x,hx,rfl⟩)) (oJ h6 g) hf
  have rW:(parts.map fun (i,x)=>(i,a.eval x)).toList=parts.toList.map fun (i,x)=>(i,a.eval x):=by simp
  refine ⟨.agg mY,?_,.agg _ _ (by have:=h2.1;simpa using this) h2.one (fun i c x e1 e2=>(h2.2 i c x e1 (by simpa using e2)).1)⟩
  simp only [execOp,ho,Instr.build,Sem.run_bind,zeroValue,typeInfo,run_program,Result.andThen_ok,hi,hz,Sem.run_pure,run_underlying hT,hE.run w,rW,h1]
def FZ (ρ:Operand→A) (z:Nat):List (Nat×Operand)→Nat→Option (List A)
 | [],_=>some []
 | (i,x)::r,k=>bif Nat.beq i k then match (ρ x).cells,FZ ρ z r (k+1) with
   | some e,some es=>bif Nat.beq e.length z then some (e++es) else none
   | _,_=>none
  else none
theorem qY {g:G} {a:Act} {z:Nat}:∀(l:List (Nat×Operand)) (k:Nat) (es:List A),(∀x∈l,V g (ρ x.2) (a.eval x.2))→FZ ρ z l k=some es →
  (l.map fun (i,x)=>(i,a.eval x))=((l.map fun x=>a.eval x.2).zipIdx k).map (fun x=>(x.2,x.1))∧es.length=l.length*z ∧
   (∀v∈l.map fun x=>a.eval x.2,v.cells.size=z)∧Vs g es ((l.map fun x=>a.eval x.2).flatMap fun v=>v.cells.toList)
 | [],k,es,_,h=>by cases h;exact ⟨rfl,by simp,by simp,⟨rfl,fun j c x h=>by simp at h⟩⟩
 | (i,x)::r,k,es,hv,h=>by
  unfold FZ at h
  cases IN:Nat.beq i k with
  | false=>rw [IN] at h;cases h
  | true=>
   rw [IN] at h;simp only [cond_true] at h
   split at h
   ·rename_i e oC h1 h2
    cases hl:Nat.beq e.length z with
    | false=>rw [hl] at h;cases h
    | true=>
     rw [hl] at h;simp only [cond_true,zI] at h;subst h
     have IN:=Nat.eq_of_beq_eq_true IN
     have hl:=Nat.eq_of_beq_eq_true hl
     have hx:=(hv (i,x) (zV ..)).cells h1
     obtain ⟨e2,e1,e3,e4⟩:=qY r (k+1) oC (fun y hy=>hv y (zT _ hy)) h2
     have pa:(a.eval x).cells.size=z:=by have:=hx.1;rw [hl] at this;simpa using this.symm
     refine ⟨?_,by rw [zY,e1,hl,zR,Nat.add_mul];omega,?_,?_⟩
     ·simp only [List.map_cons,List.zipIdx_cons,IN,e2]
     ·intro v hm
      simp only [List.map_cons,List.mem_cons] at hm
      rcases hm with rfl | hm
      ·exact pa
      ·exact e3 v hm
     ·simp only [List.map_cons,List.flatMap_cons]
      exact hx.append e4
   ·cases h
theorem Ho {zs:List A} {z:Value} {sz n:Nat} (hz:Zs zs z) (hl:z.cells.size=sz) (h0:0<sz) (g:G):Vs g (pX n zs) (madeCells z.cells (n*sz)).toList:=by
 have G4:zs.length=sz:=by have:=(hz g).1;simp at this;omega
 subst hl
 refine ⟨by rw [ko,G4];simp [size_madeCells],fun j c x q1 q2=>?_⟩
 have hj:j<n*zs.length:=by have:=(zB.1 q1).1;rwa [ko] at this
 rw [wh hj] at q1
 rw [Array.getElem?_toList,sX h0 (by rw [←G4];exact hj),←G4] at q2
 exact (hz g).2 _ c x q1 (by simpa using q2)
theorem sT {T E:TypeId} {z b n q:Nat} {zv:Value} {zs:List A} {x y:Operand} {k k':IntKind} (ho:o.op = .makeSlice T x y) (hT:P.underlying T=some (.slice E)) (hE:TI P E z b zv) (h0:0<z)
  (hx:ρ x = .v (.int k ((n:Nat):Int))) (hy:ρ y = .v (.int k' ((n:Nat):Int))) (hb:n*b≤281474976710656) (hm:n≤9223372036854775807) (hf:S.fr q) (hz:Zs zs zv) :
  fc P o ρ S (S.new q (.cells (pX n zs))) (.tw (.loc q) z):=by
 intro g w a next Q hI hv K
 obtain ⟨i,t1,t2,t3,t4,t5,t6⟩:=hE
 subst t3 t4
 have e1:=(hx▸hv x (by simp [ho,Op.operands])).gw
 have e2:=(hy▸hv y (by simp [ho,Op.operands])).gw
 have hr:=run_make (P:=P) w T E i zv hT t1 t2 k k' ((n:Nat):Int) ((n:Nat):Int) (by omega) (by omega) (by rw [←Int.natCast_mul,Nat.mul_comm];omega) (by omega)
 simp only [zE] at hr
 have G4:zs.length=i.size:=by have:=(hz g).1;simp at this;omega
 have pa:(madeCells zv.cells (n*i.size)).size=n*i.size:=size_madeCells _ _
 obtain ⟨h1,h2⟩:=hI.l7 hf (cs:=pX n zs) (vs:=madeCells zv.cells (n*i.size)) E (by rw [ko,G4,pa];exact Nat.le_refl _) (Vs.all (Ho hz t5 h0 g))
 unfold Oper.wp
 simp only [execOp,ho,e1,e2,Sem.run_bind,hr,Result.andThen_ok,Sem.run_pure]
 refine K _ _ _ (.tw (.loc q) i.size n w.heap.size n _ (by rw [show (Ref.loc q).id=q from rfl,cg,ko,G4]) (Nat.le_refl _) (by simp only [maxLen];omega) (by omega) 0 (fun _=>rfl)) h1 h2
def Bd (ρ:Operand→A) (d:Nat):Option Operand→Nat→Prop
 | none,n=>n=d
 | some x,n=>∃k,ρ x = .v (.int k ((n:Nat):Int))
theorem Bd.run {g:G} {a:Act} {x:Operand} {d n:Nat} (hv:V g (ρ x) (a.eval x)) (h:Bd ρ d (some x) n) {y:Nat} (c:BoundsCode) (hn:n≤y) (w:World):(Instr.sliceBound (a.eval x) y c).run P w = .ok n w:=by
 obtain ⟨k,h⟩:=h
 have:=BD (P:=P) (h▸hv).gw c ⟨by omega,by omega⟩ w (y:=y)
 simpa using this
theorem BX {T E:TypeId} {x:Operand} {lo hi:Option Operand} {z l h:Nat} {r:A} (ho:o.op = .slice T x lo hi none) (hT:P.underlying T=some (.slice E)) (hE:eQ P E z) (uX:Bd ρ 0 lo l) (h1:l≤h)
  (hr:∀g w v,Inv g S w→V g (ρ x) v→∃ad n cap,v = .slice ad n cap∧Bd ρ n hi h∧h≤cap∧V g r (.slice (if cap=l then ad else ad.map (·.add (l*z))) (h-l) (cap-l))):fc P o ρ S S r:=
 .value fun g w a hI hv=>by
  obtain ⟨ad,n,cap,hu,uY,h2,hV⟩:=hr g w _ hI (hv x (by simp [ho,Op.operands]))
  refine ⟨_,?_,hV⟩
  have Vm:(Instr.sliceBounds true n cap (lo.map a.eval) (hi.map a.eval) none).run P w = .ok (l,h,cap) w:=by
   have hh:∀y,hi=some y→(Instr.sliceBound (a.eval y) cap .sliceAcap).run P w = .ok h w:=fun y hy=>by
    subst hy;exact Bd.run (hv y (by simp [ho,Op.operands])) uY _ (by omega) w
   have hl:∀y,lo=some y→(Instr.sliceBound (a.eval y) h .sliceB).run P w = .ok l w:=fun y hy=>by
    subst hy;exact Bd.run (hv y (by simp [ho,Op.operands])) uX _ h1 w
   cases hi with
   | none=>
    have hhn:h=n:=uY
    subst hhn
    cases lo with
    | none=>
     have:l=0:=uX
     subst this
     simp [Instr.sliceBounds]
    | some y=>simp [Instr.sliceBounds,hl y rfl]
   | some y=>
    cases lo with
    | none=>
     have:l=0:=uX
     subst this
     simp [Instr.sliceBounds,hh y rfl]
    | some y'=>simp [Instr.sliceBounds,hh y rfl,hl y' rfl]
  simp only [execOp,ho,hu,Option.map_none,Sem.run_bind,Instr.sliceAt,run_underlying hT,Result.andThen_ok,Instr.slice,Vm,hE.run w,Sem.run_pure]
theorem rK {T E:TypeId} {x hi mx:Operand} {lo:Option Operand} {z l h m:Nat} {r:A} (ho:o.op = .slice T x lo (some hi) (some mx)) (hT:P.underlying T=some (.slice E)) (hE:eQ P E z)
  (uX:Bd ρ 0 lo l) (uY:Bd ρ 0 (some hi) h) (YW:Bd ρ 0 (some mx) m) (h1:l≤h) (h2:h≤m)
  (hr:∀g w v,Inv g S w→V g (ρ x) v→∃ad n cap,v = .slice ad n cap∧m≤cap∧V g r (.slice (if m=l then ad else ad.map (·.add (l*z))) (h-l) (m-l))):fc P o ρ S S r:=
 .value fun g w a hI hv=>by
  obtain ⟨ad,n,cap,hu,h3,hV⟩:=hr g w _ hI (hv x (by simp [ho,Op.operands]))
  refine ⟨_,?_,hV⟩
  have q1:=Bd.run (P:=P) (hv mx (by simp [ho,Op.operands])) YW (y:=cap) BoundsCode.slice3Acap (by omega) w
  have q2:=Bd.run (P:=P) (hv hi (by simp [ho,Op.operands])) uY (y:=m) BoundsCode.slice3B h2 w
  have Vm:(Instr.sliceBounds true n cap (lo.map a.eval) (some (a.eval hi)) (some (a.eval mx))).run P w = .ok (l,h,m) w:=by
   cases lo with
   | none=>
    have:l=0:=uX
    subst this
    simp [Instr.sliceBounds,q1,q2]
   | some y=>
    have q3:=Bd.run (P:=P) (hv y (by simp [ho,Op.operands])) uX (y:=h) BoundsCode.slice3C h1 w
    simp [Instr.sliceBounds,q1,q2,q3]
  simp only [execOp,ho,hu,Option.map_some,Sem.run_bind,Instr.sliceAt,run_underlying hT,Result.andThen_ok,Instr.slice,Vm,hE.run w,Sem.run_pure]
theorem nS {T E:TypeId} {x:Operand} {n:Nat} {r:A} (ho:o.op = .slice T x none none none) (hT:P.underlying T=some (.array n E)) (hE:∃z,eQ P E z)
  (hr:∀g w v,Inv g S w→V g (ρ x) v→∃b off,v = .pointer (some ⟨b,off,none⟩)∧V g r (.slice (some ⟨b,off,none⟩) n n)):fc P o ρ S S r:=
 .value fun g w a hI hv=>by
  obtain ⟨b,off,hu,hV⟩:=hr g w _ hI (hv x (by simp [ho,Op.operands]))
  obtain ⟨z,hE⟩:=hE
  have Cs:=run_sliceAt_array_all (P:=P) w T ⟨b,off,none⟩ (by simp [Program.arrayLen,Program.elem,hT])
  have Nw:P.elem T=E:=by simp [Program.elem,hT]
  have hal:P.arrayLen T=n:=by simp [Program.arrayLen,hT]
  rw [Nw,hE.run w,hal] at Cs
  refine ⟨.slice (some ⟨b,off,none⟩) n n,?_,hV⟩
  simp only [execOp,ho,hu,Sem.run_bind,Option.map_none,Cs,Result.andThen_ok,slicedAt,Sem.run_pure]
  simp [Addr.add_lit]
def Given (g:G) (w:World) (v:Value) (sz m:Nat) (ps:List A):Prop:=∃(A2:Option Addr) (mB:Nat) (us:List Value),v = .slice A2 m mB∧Vs g ps us∧us.length=m*sz∧(0<m→∃q,A2=some q∧∀j x,us[j]?=some x→w.cell? (q.add j)=some x)
theorem Given.zero {g:G} {w:World} {v:Value} {sz:Nat} (h:∃ad c,v = .slice ad 0 c):Given g w v sz 0 []:=let ⟨ad,c,h⟩:=h;⟨ad,c,[],h,.nil,by simp,fun h=>absurd h (Nat.lt_irrefl _)⟩
theorem Inv.given {g:G} {S:Hp} {w:World} (h:Inv g S w) {i b off sz m cap:Nat} {s:Nat×Nat} {cs:List A} (hp:S.ob i=some (.cells cs)) (hg:g.bm i=some (some b,s)) (hn:off+m*sz≤cs.length) :
  Given g w (.slice (some ⟨b,off,none⟩) m cap) sz m ((cs.drop off).take (m*sz)):=by
 rcases h.cells i cs hp with ⟨k1,_⟩ | ⟨b',t,k1,cur,ty,k2,pO,k3⟩
 ·rw [k1] at hg;cases hg
 rw [k1] at hg;simp at hg
 obtain ⟨rfl,_⟩:=hg
 obtain ⟨us,h2,h3,h4⟩:=oV k2 k3 hn
 exact ⟨_,cap,us,rfl,h2,h3,fun _=>⟨_,rfl,h4⟩⟩
theorem fc.app {T:TypeId} {x y:Operand} {S':Hp} {pv:A} (ho:o.op = .call { callee:=.builtin .append,args:=#[x,y],argTypes:=#[T,T] })
  (h:∀(g:G) (w:World) (a:Act),Inv g S w→V g (ρ x) (a.eval x)→V g (ρ y) (a.eval y)→∃v g' w',(Builtin.append_ #[T,T] o.type #[a.eval x,a.eval y]).run P w = .ok v w'∧V g' pv v∧Inv g' S' w'∧Ext S g w S' g' w'):fc P o ρ S S' pv:=by
 intro g w a next Q hI hv K
 obtain ⟨v,g',w',h1,h2,h3,h4⟩:=h g w a hI (hv x (by simp [ho,Op.operands,Call.operands])) (hv y (by simp [ho,Op.operands,Call.operands]))
 unfold Oper.wp
 simp only [execOp,ho,resolve,invoke,builtin,Sem.run_bind,Sem.run_pure,Result.andThen_ok,List.map_toArray,List.map_cons,List.map_nil,h1]
 exact K v g' w' h2 h3 h4
theorem Inv.ub {g:G} {S S':Hp} {g':G} {w w':World} (h:Ext S g w.drew S' g' w'):Ext S g w S' g' w':=⟨h.le,h.os,h.tape,h.output,h.size,h.frame,h.own,h.Jd,h.fr,h.rR,h.lpo⟩
theorem nw {g:G} {ps olds:List A} {us os:List Value} {ex:List Value} (h:Vs g olds os) (k:Vs g ps us):Vs g (olds++ps) ((os++us++ex).take (olds++ps).length):=by
 have:=h.append k
 rw [List.take_append_of_le_length (by rw [this.1];exact Nat.le_refl _),za (by rw [this.1];exact Nat.le_refl _)]
 exact this
theorem ir {S:Hp} {T E ty:TypeId} {z b m q:Nat} {zv:Value} {ps:List A} {g:G} {w:World} {vy:Value} (ad:Option Addr) (hT:P.underlying T=some (.slice E)) (hE:TI P E z b zv) (hI:Inv g S w)
  (hy:Given g w vy z m ps) (hf:S.fr q) (hb:m*b≤140737488355328) (pg:m≤maxLen):∃v g' w',(Builtin.append_ #[T,T] ty #[.slice ad 0 0,vy]).run P w = .ok v w'∧V g' (.tw (.loc q) z) v∧Inv g' (S.new q (.cells ps)) w'∧Ext S g w (S.new q (.cells ps)) g' w':=by
  obtain ⟨i,t1,t2,t3,t4,t5,t6⟩:=hE
  subst t3 t4
  obtain ⟨A2,mB,us,wW,qe,o_,yQ⟩:=hy
  rw [wW]
  rcases Nat.eq_zero_or_pos m with rfl | hm
  ·have sZ:ps=[]:=zZ (by rw [qe.1,o_];simp)
   subst sZ
   obtain ⟨q1,q2⟩:=hI.emp hf
   exact ⟨_,_,w,g7 w T E ty hT ⟨i,t1,rfl⟩ ad A2 0 0 mB (Nat.le_refl _),.te (.loc q) i.size ad cg,q1,q2⟩
  ·obtain ⟨Hk,rfl,mO⟩:=yQ hm
   have vM:=grownCap_ge w m 0 E
   have OW:=grownCap_le_maxLen w m 0 E pg
   have kZ:(us.toArray++Builtin.zeroCells zv.cells (grownCap w m 0 E-m)).size=grownCap w m 0 E*i.size:=by
    simp only [Array.size_append,List.size_toArray,size_zeroCells,t5,o_,←Nat.add_mul]
    congr 1;omega
   have hle:m*i.size≤grownCap w m 0 E*i.size:=zW _ vM
   have hr:∃w',(Builtin.append_ #[T,T] ty #[.slice ad 0 0,.slice (some Hk) m mB]).run P w = .ok (.slice (some ⟨w.heap.size,0,none⟩) m (grownCap w m 0 E)) w'∧w'=w.drew.alloc (.cells (us.toArray++Builtin.zeroCells zv.cells (grownCap w m 0 E-m)) E):=by
    cases ad with
    | none=>exact ⟨_,run_append_nil (P:=P) w T ty E i zv hT t1 t2 Hk m mB us o_ mO hm (by simp only [maxLen] at pg;omega) (by omega),rfl⟩
    | some ad=>
     have:=run_append_grow (P:=P) w T ty E i zv hT t1 t2 ad 0 0 [] (by simp) (fun j v hj=>by simp at hj) Hk m mB us o_ mO (by omega) (by simp only [maxLen] at pg;omega) (growslice_fits (by omega) (by simpa using hb))
     simp only [Nat.zero_add] at this
     exact ⟨_,this,by simp⟩
   obtain ⟨w',hr,rfl⟩:=hr
   obtain ⟨q1,q2⟩:=hI.drew.l7 hf (cs:=ps) (vs:=us.toArray++Builtin.zeroCells zv.cells (grownCap w m 0 E-m)) E (by rw [kZ,qe.1,o_];exact hle)
    (by have:=nw (g:=g) (olds:=[]) (os:=[]) (ex:=(Builtin.zeroCells zv.cells (grownCap w m 0 E-m)).toList) .nil qe;simpa using this)
   refine ⟨_,_,_,hr,?_,q1,Inv.ub q2⟩
   refine .tw (.loc q) i.size m _ _ _ ?_ vM OW (Nat.le_of_eq kZ.symm) 0 (fun _=>rfl)
   rw [show (Ref.loc q).id=q from rfl,cg,qe.1,o_];rfl
theorem mJ {T E:TypeId} {z b m q:Nat} {zv:Value} {ps:List A} {x y:Operand} (ho:o.op = .call { callee:=.builtin .append,args:=#[x,y],argTypes:=#[T,T] }) (hT:P.underlying T=some (.slice E)) (hE:TI P E z b zv)
  (hx:∀g v,V g (ρ x) v→∃ad,v = .slice ad 0 0) (hy:∀g w v,Inv g S w→V g (ρ y) v→Given g w v z m ps) (hf:S.fr q) (hb:m*b≤140737488355328) (pg:m≤maxLen):fc P o ρ S (S.new q (.cells ps)) (.tw (.loc q) z):=
 .app ho fun g w a hI e1 e2=>by
  obtain ⟨ad,hu⟩:=hx g _ e1
  rw [hu]
  exact ir ad hT hE hI (hy g w _ hI e2) hf hb pg
theorem rN {T E:TypeId} {z b m n p q:Nat} {zv:Value} {cs ps:List A} {x y:Operand} (ho:o.op = .call { callee:=.builtin .append,args:=#[x,y],argTypes:=#[T,T] }) (hT:P.underlying T=some (.slice E)) (hE:TI P E z b zv) (h0:0<z)
  (hp:S.ob p=some (.cells cs)) (hx:∀g w v,Inv g S w→V g (ρ x) v→(∃ad,v = .slice ad 0 0∧n=0)∨∃bk s cap d,g.bm p=some (some bk,s)∧v = .slice (some ⟨bk,d,none⟩) n cap∧(cap≠0→d=0)∧n≤cap∧cap≤maxLen∧cap*z≤s.2) (qC:n*z≤cs.length)
  (hy:∀g w v,Inv g S w→V g (ρ y) v→Given g w v z m ps) (hf:S.fr q) (hb:(n+m)*b≤140737488355328) (pg:n+m≤maxLen):fc P o ρ S ((S.del p).new q (.cells (cs.take (n*z)++ps))) (.tw (.loc q) z):=
 .app ho fun g w a hI e1 e2=>by
  obtain ⟨i,t1,t2,t3,t4,t5,t6⟩:=hE
  subst t3 t4
  have IU:eQ P E i.size:=⟨i,t1,rfl⟩
  obtain ⟨A2,mB,us,wW,qe,o_,yQ⟩:=hy g w _ hI e2
  rw [wW]
  have Fl:∀k,((S.del p).new q (.cells (cs.take (n*i.size)++ps))).fr k→(S.new q (.cells (cs.take (n*i.size)++ps))).fr k:=fun k hk=>hk
  have Fk:∀k y,((S.del p).new q (.cells (cs.take (n*i.size)++ps))).ob k=some y→(S.new q (.cells (cs.take (n*i.size)++ps))).ob k=some y:=fun k y hk=>by
   have hk:(if k=q then some (.cells (cs.take (n*i.size)++ps)) else if k=p then none else S.ob k)=some y:=hk
   show (if k=q then some (.cells (cs.take (n*i.size)++ps)) else S.ob k)=some y
   by_cases h1:k=q
   ·rwa [if_pos h1] at hk ⊢
   ·rw [if_neg h1] at hk ⊢
    split at hk
    ·cases hk
    ·exact hk
  have less:∀(w':World) (g':G) (v:Value),V g' (.tw (.loc q) i.size) v→Inv g' (S.new q (.cells (cs.take (n*i.size)++ps))) w'→Ext S g w (S.new q (.cells (cs.take (n*i.size)++ps))) g' w'→V g' (.tw (.loc q) i.size) v∧Inv g' ((S.del p).new q (.cells (cs.take (n*i.size)++ps))) w'∧Ext S g w ((S.del p).new q (.cells (cs.take (n*i.size)++ps))) g' w':=
   fun w' g' v k1 k2 k3=>⟨k1,k2.less Fk Fl,k3.trans (Ext.less Fk Fl)⟩
  rcases hx g w _ hI e1 with ⟨ad,hu,rfl⟩ | ⟨bk,s,cap,d,hg,hu,hd,YV,OW,No⟩
  ·rw [hu,←wW]
   simp only [Nat.zero_mul,List.take_zero,List.nil_append,Nat.zero_add] at less hb pg ⊢
   obtain ⟨v,g',w',k1,k2,k3,k4⟩:=ir (P:=P) (ty:=o.type) ad hT ⟨i,t1,t2,rfl,rfl,t5,t6⟩ hI (hy g w _ hI e2) hf hb pg
   obtain ⟨r1,r2,r3⟩:=less w' g' v k2 k3 k4
   exact ⟨v,g',w',k1,r1,r2,r3⟩
  ·rw [hu]
   rcases Nat.eq_zero_or_pos m with rfl | hm
   ·have sZ:ps=[]:=zZ (by rw [qe.1,o_];simp)
    subst sZ
    simp only [List.append_nil]
    obtain ⟨q1,q2⟩:=hI.ren (m:=n*i.size) hp hf hg qC
    exact ⟨_,_,w,g7 w T E o.type hT IU _ A2 n cap mB YV,.tw (.loc q) i.size n bk cap s.2 cg YV OW No d hd,q1,q2⟩
   ·obtain ⟨Hk,rfl,mO⟩:=yQ hm
    rcases hI.cells p cs hp with ⟨k1,_⟩ | ⟨b',t,k1,cur,ty,k2,pO,k3⟩
    ·rw [k1] at hg;cases hg
    rw [k1] at hg;simp at hg
    obtain ⟨rfl,rfl⟩:=hg
    have hl:=k3.1
    simp only [List.length_take,Array.length_toList] at hl
    by_cases qB:n+m≤cap
    ·obtain rfl:=hd (by omega)
     have OS:(n+m)*i.size≤cap*i.size:=zW _ qB
     rw [Nat.add_mul] at OS
     have eL:=lq (P:=P) w T o.type E ty i hT t1 b' n cap cur k2 Hk m mB us o_ mO qe.one qB (by rw [o_];omega)
     have abi:cur.toList.take (n*i.size)=(cur.toList.take cs.length).take (n*i.size):=by rw [List.take_take,Nat.min_eq_left qC]
     have hold:Vs g (cs.take (n*i.size)) (cur.toList.take (n*i.size)):=by
      have:=k3.part 0 (n*i.size)
      simp only [List.drop_zero] at this
      rw [abi];exact this
     have Fj:=nw (ex:=cur.toList.drop (n*i.size+us.length)) hold qe
     obtain ⟨q1,q2⟩:=hI.grow (w':=w.setRow b' (cur.toList.take (n*i.size)++us++cur.toList.drop (n*i.size+us.length)).toArray) (cs':=cs.take (n*i.size)++ps) hp hf k1 (size_setRow ..) (fun k hk=>setRow_other w b' k _ hk) rfl rfl rfl
      ⟨_,ty,setRow_heap w b' cur _ ty _ k2,by simp;omega,Fj⟩
     refine ⟨_,_,_,eL,.tw (.loc q) i.size (n+m) b' cap t ?_ qB OW No 0 (fun _=>rfl),q1,q2⟩
     rw [show (Ref.loc q).id=q from rfl,cg,zY,List.length_take,Nat.min_eq_left qC,qe.1,o_,Nat.add_mul]
    ·have vM:=grownCap_ge w (n+m) cap E
     have Nz:=grownCap_le_maxLen w (n+m) cap E pg
     obtain ⟨os,h1,h2,h3⟩:=oV (off:=0) (n:=n*i.size) k2 k3 (by omega)
     rw [List.drop_zero] at h1
     have Fh:∀j v,os[j]?=some v→w.cell? ((⟨b',d,none⟩:Addr).add j)=some v:=fun j v hj=>by
      by_cases Hg:cap=0
      ·have:n=0:=by omega
       subst this
       have Np:os=[]:=zZ (by rw [h2];simp)
       rw [Np] at hj
       simp at hj
      ·obtain rfl:=hd Hg;exact h3 j v hj
     have hr:=run_append_grow (P:=P) w T o.type E i zv hT t1 t2 ⟨b',d,none⟩ n cap os h2 Fh Hk m mB us o_ mO (by omega) (by simp only [maxLen] at pg;omega) (growslice_fits (by omega) hb)
     have kZ:(os.toArray++us.toArray++Builtin.zeroCells zv.cells (grownCap w (n+m) cap E-(n+m))).size=grownCap w (n+m) cap E*i.size:=by
      simp only [Array.size_append,List.size_toArray,size_zeroCells,t5,h2,o_,←Nat.add_mul]
      congr 1;omega
     have hle:(n+m)*i.size≤grownCap w (n+m) cap E*i.size:=zW _ vM
     have hlen:(cs.take (n*i.size)++ps).length=(n+m)*i.size:=by rw [zY,List.length_take,Nat.min_eq_left qC,qe.1,o_,Nat.add_mul]
     obtain ⟨q1,q2⟩:=hI.drew.l7 hf (cs:=cs.take (n*i.size)++ps) (vs:=os.toArray++us.toArray++Builtin.zeroCells zv.cells (grownCap w (n+m) cap E-(n+m))) E (by rw [kZ,hlen];exact hle)
      (by have:=nw (ex:=(Builtin.zeroCells zv.cells (grownCap w (n+m) cap E-(n+m))).toList) h1 qe;simpa using this)
     obtain ⟨r1,r2,r3⟩:=less _ _ (.slice (some ⟨w.heap.size,0,none⟩) (n+m) (grownCap w (n+m) cap E)) (.tw (.loc q) i.size (n+m) _ _ _ (by rw [show (Ref.loc q).id=q from rfl,cg,hlen];rfl) vM Nz (Nat.le_of_eq kZ.symm) 0 (fun _=>rfl)) q1 (Inv.ub q2)
     exact ⟨_,_,_,hr,r1,r2,r3⟩
end
end
set_option linter.unusedVariables false
set_option linter.unusedSimpArgs false
section
open Go.RowKit
structure ct where
 d:TypeDesc
 size:Nat
 bytes:Nat
 zero:Value
 pl:List (Nat×Nat)
 t:Option Ty
 lt:Bool
inductive CZ where
 | nil
 | node (l:CZ) (v:Option ct) (r:CZ)
def cu (t:CZ):Nat→Option ct:=
 CZ.rec (motive:=fun _=>Nat→Option ct) (fun _=>none) (fun _ v _ gl gr n=>Nat.rec (motive:=fun _=>Option ct) v (fun n _=>Nat.rec (motive:=fun _=>Option ct) (gl (n / 2)) (fun _ _=>gr (n / 2)) (n%2)) n) t
theorem Bz (l:CZ) (v:Option ct) (r:CZ) (n:Nat):cu (.node l v r) (n+1)=bif Nat.beq (n%2) 0 then cu l (n / 2) else cu r (n / 2):=by
 show Nat.rec (motive:=fun _=>Option ct) (cu l (n / 2)) (fun _ _=>cu r (n / 2)) (n%2)=_
 cases n%2<;>rfl
structure ba (P:Program) (t:Nat) (e:ct):Prop where
 u:P.underlying t=some e.d
 ti:TI P t e.size e.bytes e.zero
 pl:∀fs,e.d = .struct fs→∀w:World,(fs.mapM fun f=>(do pure (f.offset,←sizeOf f.type):Sem (Nat×Nat))).run P w = .ok e.pl.toArray w
 ts:∀t,e.t=some t→t.size=e.size
 tz:∀t,e.t=some t→Zs (aA t t.cQ) e.zero
structure iA (P:Program) (t:Nat):Prop where
 held:P.stoodInHeld t=false
 guard:P.eqGuardType P.depth t=false
 names : ∀ fs, P.underlying t = some (.struct fs) → ∀ f ∈ fs.toList, f.name ≠ "_"
structure Env where
 dP:CZ
 eqs:List Nat
structure bT (P:Program) (E:Env):Prop where
 dP:∀t e,cu E.dP t=some e→ba P t e
 eqs:∀t,E.eqs.any (Nat.beq t)=true→iA P t
 mixed:P.follows .mixedOrders=true
def I_ (E:Env) (rec:Nat→List A→List A→Option Bool):List Field→List A→List A→Option Bool
 | [],_,_=>some true
 | fd::fs,cs,ds=>match cu E.dP fd.type with
  | some ef=>match rec fd.type ((cs.drop fd.offset).take ef.size) ((ds.drop fd.offset).take ef.size),I_ E rec fs cs ds with
   | some a,some b=>some (mZ a b)
   | _,_=>none
  | none=>none
def vN (E:Env):Nat→Nat→List A→List A→Option Bool
 | 0,_,_,_=>none
 | f+1,T,cs,ds=>match cu E.dP T with
  | some e=>match e.d with
   | .int _=>match cs,ds with
    | [.v (.int k m)],[.v (.int k' n)]=>if k=k' then some (ak m n) else none
    | _,_=>none
   | .bool=>match cs,ds with
    | [.v (.bool m)],[.v (.bool n)]=>some (qP m n)
    | _,_=>none
   | .struct fs=>bif E.eqs.any (Nat.beq T) then I_ E (vN E f) fs.toList cs ds else none
   | _=>none
  | none=>none
section
variable {P:Program} {E:Env}
def valOf (d:TypeDesc) (xs:List Value) (v:Value):Prop:=if j7 d=true then v = .agg xs.toArray else xs=[v]
theorem Vs.single {g:G} {c:A} {xs:List Value} (h:Vs g [c] xs):∃x,xs=[x]∧V g c x:=by
 have:=h.1
 match xs,this with
 | [x],_=>exact ⟨x,rfl,(h.2 0 c x rfl rfl).1⟩
theorem oT {t:TypeId} {e:ct} (hk:ba P t e) {xs:Array Value} {off:Nat} {v:Value} (hv:valOf e.d ((xs.toList.drop off).take e.size) v) (w:World):(part t xs off).run P w = .ok v w:=by
 unfold valOf at hv
 unfold part
 simp only [Sem.run_bind,ln hk.u,Result.andThen_ok]
 split at hv
 ·rename_i ha
  rw [if_pos ha]
  simp only [Sem.run_bind,hk.ti.size.run w,Result.andThen_ok,Sem.run_pure,hv]
  congr 2
  apply Array.ext'
  simp [List.extract_eq_take_drop]
 ·rename_i ha
  rw [if_neg ha]
  have h0:((xs.toList.drop off).take e.size)[0]?=some v:=by rw [hv];rfl
  rw [List.getElem?_take] at h0
  split at h0
  ·rw [List.getElem?_drop] at h0
   have h1:xs[off]?=some v:=by simpa using h0
   rw [h1];simp
  ·cases h0
theorem y8 (hE:bT P E):∀(f T:Nat) (cs ds:List A) (b:Bool),vN E f T cs ds=some b→∀(g:G) (xs ys:List Value) (k:Nat) (w:World) (e:ct) (v v':Value),cu E.dP T=some e→Vs g cs xs→Vs g ds ys→valOf e.d xs v→valOf e.d ys v' →
  (Op.equalIn (f+k) T v v').run P w = .ok b w
 | 0,_,_,_,_,h=>by cases h
 | f+1,T,cs,ds,b,h=>by
  intro g xs ys k w e v v' he hc hd hv xN
  have hk:=hE.dP T e he
  have hu:=hk.u
  unfold vN at h
  rw [he] at h
  simp only at h
  rw [show f+1+k=(f+k)+1 by omega]
  split at h
  ·rename_i kk nI
   rw [nI] at hv xN hu
   split at h
   ·split at h
    ·rename_i nH;subst nH
     cases h
     obtain ⟨x,rfl,hx⟩:=hc.single
     obtain ⟨y,rfl,hy⟩:=hd.single
     obtain rfl:x=v:=by simpa [valOf,j7] using hv
     obtain rfl:y=v':=by simpa [valOf,j7] using xN
     rw [hx.gw,hy.gw,run_equalIn_int w (f+k) T _ _ _ _ hu]
     congr 1
    ·cases h
   ·cases h
  ·rename_i nI
   rw [nI] at hv xN hu
   split at h
   ·cases h
    obtain ⟨x,rfl,hx⟩:=hc.single
    obtain ⟨y,rfl,hy⟩:=hd.single
    obtain rfl:x=v:=by simpa [valOf,j7] using hv
    obtain rfl:y=v':=by simpa [valOf,j7] using xN
    rw [hx.gw,hy.gw,run_equalIn_bool' w (f+k) T _ _ hu];rfl
   ·cases h
  ·rename_i fs nI
   rw [nI] at hv xN hu
   cases hq:E.eqs.any (Nat.beq T) with
   | false=>rw [hq] at h;cases h
   | true=>
    rw [hq] at h;simp only [cond_true] at h
    have hT:=hE.eqs T hq
    obtain rfl:v = .agg xs.toArray:=by simpa [valOf,j7] using hv
    obtain rfl:v' = .agg ys.toArray:=by simpa [valOf,j7] using xN
    have hfo:P.fieldsOf T=fs:=by simp [Program.fieldsOf,hu]
    rw [run_equalIn_agg w (f+k) T xs.toArray ys.toArray (by rw [hfo];exact hu) hT.held,hfo]
    have hn:=hT.names fs hu
    generalize fs.toList=l at h hn
    clear hu nI hv xN hfo
    induction l generalizing b with
    | nil=>simp only [I_,zI] at h;subst h;simp [Op.eqFields]
    | cons fd l ih=>
     unfold I_ at h
     split at h
     ·rename_i ef L2
      split at h
      ·rename_i a b' h1 h2
       cases h
       have Va:=hE.dP _ _ L2
       have pc:=hc.part fd.offset ef.size
       have pd:=hd.part fd.offset ef.size
       have ex:∀zs:List Value,∀ps:List A,Vs g ps zs→(∃b uy,vN E f fd.type ps uy=some b)∨(∃b uy,vN E f fd.type uy ps=some b)→∃v,valOf ef.d zs v:=by
        intro zs ps hz hex
        unfold valOf
        by_cases ha:j7 ef.d=true
        ·exact ⟨.agg zs.toArray,by rw [if_pos ha]⟩
        ·have:∃c,ps=[c]:=by
          rcases hex with ⟨b,uy,hb⟩ | ⟨b,uy,hb⟩
          ·cases f with
           | zero=>cases hb
           | succ f=>
            unfold vN at hb
            rw [L2] at hb
            simp only at hb
            split at hb<;>(try (split at hb))<;>first
             | exact ⟨_,rfl⟩
             | (cases hb;done)
             | (rename_i hx _;rw [hx] at ha;exact absurd rfl ha)
             | (rename_i hx;rw [hx] at ha;exact absurd rfl ha)
          ·cases f with
           | zero=>cases hb
           | succ f=>
            unfold vN at hb
            rw [L2] at hb
            simp only at hb
            split at hb<;>(try (split at hb))<;>first
             | exact ⟨_,rfl⟩
             | (cases hb;done)
             | (rename_i hx _;rw [hx] at ha;exact absurd rfl ha)
             | (rename_i hx;rw [hx] at ha;exact absurd rfl ha)
         obtain ⟨c,rfl⟩:=this
         obtain ⟨x,rfl,_⟩:=hz.single
         exact ⟨x,by rw [if_neg ha]⟩
       obtain ⟨u,hu1⟩:=ex _ _ pc (.inl ⟨_,_,h1⟩)
       obtain ⟨u',wW⟩:=ex _ _ pd (.inr ⟨_,_,h1⟩)
       have aaN:=y8 hE f fd.type _ _ a h1 g _ _ k w ef u u' L2 pc pd hu1 wW
       have G_:=oT Va (xs:=xs.toArray) (off:=fd.offset) (v:=u) (by simpa using hu1) w
       have hp2:=oT Va (xs:=ys.toArray) (off:=fd.offset) (v:=u') (by simpa using wW) w
       simp only [Op.eqFields]
       rw [if_pos (hn fd (zV ..))]
       simp only [Sem.run_bind,G_,hp2,aaN,Result.andThen_ok]
       cases a with
       | true=>
        simp only [Bool.not_true,Bool.false_eq_true,if_false,Bool.true_and,mZ]
        exact ih b' h2 (fun f hf=>hn f (zT _ hf))
       | false=>simp [mZ]
      ·cases h
     ·cases h
  ·cases h
def iO:A→Bool
 | .agg _=>true
 | _=>false
theorem V.xz {g:G} {p:A} {v:Value} (h:V g p v) (hp:iO p=true):∃vs,v = .agg vs:=by
 unfold iO at hp
 split at hp
 ·cases h;exact ⟨_,rfl⟩
 ·cases hp
theorem B1 (hE:bT P E) {o:Oper} {ρ:Operand→A} {S:Hp} {op:BinOp} {T T':TypeId} {x y:Operand} {cs ds:List A} {e:ct} {f:Nat} {b:Bool} (ho:o.op = .binOp op T x y T') (he:cu E.dP T=some e) (ha:j7 e.d=true)
  (hq:iA P T) (hax:iO (ρ x)=true) (hay:iO (ρ y)=true) (hx:(ρ x).cells=some cs) (hy:(ρ y).cells=some ds) (hb:vN E f T cs ds=some b) (hf:f≤10000) (mN:op = .eql∨op = .neq) :
  fc P o ρ S S (.v (.bool (if op = .eql then b else !b))):=
 .value fun g w a _ hv=>by
  have e1:=hv x (by simp [ho,Op.operands])
  have e2:=hv y (by simp [ho,Op.operands])
  obtain ⟨vs,h1⟩:=e1.xz hax
  obtain ⟨us,h2⟩:=e2.xz hay
  have c1:=e1.cells hx
  have c2:=e2.cells hy
  rw [h1] at c1
  rw [h2] at c2
  have eL:=y8 hE f T cs ds b hb g _ _ (10000-f) w e (.agg vs) (.agg us) he c1 c2 (by simp [valOf,ha,Value.cells]) (by simp [valOf,ha,Value.cells])
  rw [show f+(10000-f)=10000 from Nat.add_sub_cancel' hf] at eL
  refine ⟨.bool (if op = .eql then b else !b),?_,.v _⟩
  have kz:=run_eqGuard_agg (P:=P) w op T x y vs us hq.guard
  rcases mN with rfl | rfl
  ·simp only [execOp,ho,h1,h2,Sem.run_bind,kz,Result.andThen_ok,if_true,run_eql_struct,eL,Sem.run_pure]
  ·simp only [execOp,ho,h1,h2,Sem.run_bind,kz,Result.andThen_ok,run_neq_struct,eL,Sem.run_pure]
   rfl
theorem qD (d:Nat) {t el:TypeId} (b:Option Addr) (w:World) (hu:P.underlying t=some (.pointer el)):(Op.equalIn (d+1) t (.pointer none) (.pointer b)).run P w = .ok b.isNone w:=by
 simp [Op.equalIn,run_underlying hu]
theorem xk (d:Nat) {t el:TypeId} (a:Addr) (w:World) (hu:P.underlying t=some (.pointer el)):(Op.equalIn (d+1) t (.pointer (some a)) (.pointer none)).run P w = .ok false w:=by
 simp [Op.equalIn,run_underlying hu]
theorem DU (t:TypeId) (a b:Option Addr) (w:World):(binOp .eql t (.pointer a) (.pointer b)).run P w=((Op.equalIn 10000 t (.pointer a) (.pointer b)).run P w).andThen fun b w'=>.ok (.bool b) w':=by
 simp only [binOp]
 simp [Op.equal,Op.maxDepth]
theorem DR (t:TypeId) (a b:Option Addr) (w:World):(binOp .neq t (.pointer a) (.pointer b)).run P w=((Op.equalIn 10000 t (.pointer a) (.pointer b)).run P w).andThen fun b w'=>.ok (.bool (!b)) w':=by
 simp only [binOp]
 simp [Op.equal,Op.maxDepth]
def kX:A→Bool
 | .v (.pointer none)=>true
 | _=>false
def ED (p q:A):Option Bool:=bif kX p && kX q then some true else bif (kX p && E1 q) || (E1 p && kX q) then some false else none
theorem V.Ij {g:G} {p:A} {v:Value} (h:V g p v) (hp:kX p=true):v = .pointer none:=by
 unfold kX at hp
 split at hp
 ·exact h.gw
 ·cases hp
theorem B0 {o:Oper} {ρ:Operand→A} {S:Hp} {op:BinOp} {T T':TypeId} {x y:Operand} {el:Nat} {b:Bool} (ho:o.op = .binOp op T x y T') (hu:P.underlying T=some (.pointer el))
  (hb:ED (ρ x) (ρ y)=some b) (mN:op = .eql∨op = .neq):fc P o ρ S S (.v (.bool (if op = .eql then b else !b))):=
 .value fun g w a _ hv=>by
  have e1:=hv x (by simp [ho,Op.operands])
  have e2:=hv y (by simp [ho,Op.operands])
  have key:∃p q,a.eval x = .pointer p∧a.eval y = .pointer q∧(Op.equalIn 10000 T (.pointer p) (.pointer q)).run P w = .ok b w:=by
   unfold ED at hb
   cases h1:(kX (ρ x) && kX (ρ y)) with
   | true=>
    rw [h1] at hb;simp only [cond_true,zI] at hb;subst hb
    simp only [zC] at h1
    exact ⟨none,none,e1.Ij h1.1,e2.Ij h1.2,qD 9999 _ w hu⟩
   | false=>
    rw [h1] at hb;simp only [cond_false] at hb
    cases h2:((kX (ρ x) && E1 (ρ y)) || (E1 (ρ x) && kX (ρ y))) with
    | false=>rw [h2] at hb;cases hb
    | true=>
     rw [h2] at hb;simp only [cond_true,zI] at hb;subst hb
     simp only [Bool.or_eq_true,zC] at h2
     rcases h2 with ⟨h3,h4⟩ | ⟨h3,h4⟩
     ·obtain ⟨ad,h5⟩:=e2.E1 h4
      exact ⟨none,some ad,e1.Ij h3,h5,qD 9999 _ w hu⟩
     ·obtain ⟨ad,h5⟩:=e1.E1 h3
      exact ⟨some ad,none,h5,e2.Ij h4,xk 9999 _ w hu⟩
  obtain ⟨p,q,h1,h2,eL⟩:=key
  refine ⟨.bool (if op = .eql then b else !b),?_,.v _⟩
  have kz:(eqGuard op T x y (.pointer p) (.pointer q)).run P w = .ok () w:=by
   rcases mN with rfl | rfl<;>rfl
  rcases mN with rfl | rfl
  ·simp only [execOp,ho,h1,h2,Sem.run_bind,kz,Result.andThen_ok,if_true,DU,eL,Sem.run_pure]
  ·simp only [execOp,ho,h1,h2,Sem.run_bind,kz,Result.andThen_ok,DR,eL,Sem.run_pure]
   rfl
theorem H6 {o:Oper} {ρ:Operand→A} {S:Hp} {T:TypeId} {x:Operand} {n:Nat} (ho:o.op = .call { callee:=.builtin .len,args:=#[x],argTypes:=#[T] }) (hT:∃El,P.underlying T=some (.slice El)) (hx:∀g w v,Inv g S w→V g (ρ x) v→∃ad c,v = .slice ad n c):fc P o ρ S S (.v (.int .i64 ((n:Nat):Int))):=
 .value fun g w a hI hv=>by
  obtain ⟨El,hT⟩:=hT
  obtain ⟨A1,c,hu⟩:=hx g w _ hI (hv x (by simp [ho,Op.operands,Call.operands]))
  exact ⟨_,by simp [execOp,ho,resolve,invoke,builtin,hu,Builtin.len_,run_underlying hT,goInt],.v _⟩
theorem Et {o:Oper} {ρ:Operand→A} {S:Hp} {T T' E:TypeId} {x y:Operand} {z p off n m:Nat} {cs ps:List A} (ho:o.op = .call { callee:=.builtin .copy,args:=#[x,y],argTypes:=#[T,T'] }) (hT:P.underlying T=some (.slice E)) (hE:eQ P E z)
  (hx:∀g w v,Inv g S w→V g (ρ x) v→∃b s cap d,g.bm p=some (some b,s)∧v = .slice (some ⟨b,d,none⟩) n cap∧(n≠0→d=off)) (hp:S.ob p=some (.cells cs)) (qC:off+n*z≤cs.length) (hy:∀g w v,Inv g S w→V g (ρ y) v→Given g w v z m ps) (hm:m≤n):fc P o ρ S (S.set p (.cells (put cs off ps))) (.v (.int .i64 ((m:Nat):Int))):=by
 intro g w a next Q hI hv K
 obtain ⟨b,s,cap,d,hg,hu,hd⟩:=hx g w _ hI (hv x (by simp [ho,Op.operands,Call.operands]))
 obtain ⟨A2,c2,us,wW,qe,o_,hq⟩:=hy g w _ hI (hv y (by simp [ho,Op.operands,Call.operands]))
 have sJ:ps.length=m*z:=by rw [qe.1,o_]
 have hmz:m*z≤n*z:=zW _ hm
 obtain ⟨cur,ty,k1,k2,k3,k4⟩:=hI.store (off:=off) hp hg qe (by omega)
 unfold Oper.wp
 rcases Nat.eq_zero_or_pos m with rfl | Cu
 ·have sZ:ps=[]:=zZ (by rw [sJ];simp)
  have C9:us=[]:=zZ (by rw [o_];simp)
  subst sZ C9
  have eL:=sO (P:=P) w (T:=T) (T':=T') (ty:=o.type) (n:=n) (cap:=cap) (c2:=c2) (A:=some ⟨b,d,none⟩) (B:=A2) hT hE
  have Cr:put cs off []=cs:=by simp [put]
  have hS:S.set p (.cells (put cs off []))=S:=by
   rw [Cr]
   show (⟨fun i=>if i=p then some (.cells cs) else S.ob i,S.fr⟩:Hp)=S
   have:(fun i=>if i=p then some (.cells cs) else S.ob i)=S.ob:=by
    funext i
    by_cases hi:i=p
    ·subst hi;rw [if_pos rfl,hp]
    ·rw [if_neg hi]
   rw [this]
  rw [hS] at K
  simp only [execOp,ho,resolve,invoke,builtin,Sem.run_bind,Sem.run_pure,Result.andThen_ok,List.map_toArray,List.map_cons,List.map_nil,hu,wW,eL]
  exact K _ g w (.v _) hI (.refl S g w)
 ·obtain rfl:=hd (by omega)
  obtain ⟨q,rfl,E9⟩:=hq Cu
  have eL:=BC (P:=P) w (T:=T) (T':=T') (ty:=o.type) (n:=n) (cap:=cap) (c2:=c2) (off:=d) hT hE k1 o_ E9 qe.one hm (by omega)
  simp only [execOp,ho,resolve,invoke,builtin,Sem.run_bind,Sem.run_pure,Result.andThen_ok,List.map_toArray,List.map_cons,List.map_nil,hu,wW,eL]
  exact K _ g _ (.v _) k3 k4
end
end
set_option linter.unusedVariables false
set_option linter.unusedSimpArgs false
section
open Go.RowKit
def jC (E:Env) (T:Nat) (d:TypeDesc) (p q:A):Option Bool:=
 match d with
 | .int _=>match p,q with
  | .v (.int k m),.v (.int k' n)=>if k=k' then some (ak m n) else none
  | _,_=>none
 | .struct _=>bif iO p && iO q then (match p.cells,q.cells with
  | some a,some b=>vN E 2 T a b
  | _,_=>none) else none
 | _=>none
def mg (E:Env) (d:TypeDesc):Bool:=
 match d with
 | .int _=>true
 | .struct fs=>fs.toList.all fun f=>(match cu E.dP f.type with
  | some ef=>match ef.d with
   | .int _=>true
   | _=>false
  | none=>false)
 | _=>false
section
variable {P:Program} {E:Env}
def JB (P:Program) (w:World) (T:Nat) (v v':Value) (b:Bool):Prop:=
 (∃kd,P.underlying T=some (.int kd)∧∃k m n,v = .int k m∧v' = .int k n∧b=decide (m=n))∨((∃fs,P.underlying T=some (.struct fs))∧(∃vs,v = .agg vs)∧(Op.equal T v v').run P w = .ok b w)
theorem Au (hE:bT P E) {g:G} {T:Nat} {e:ct} {p q:A} {v v':Value} {b:Bool} (w:World) (he:cu E.dP T=some e) (h:jC E T e.d p q=some b) (hp:V g p v) (hq:V g q v'):JB P w T v v' b:=by
 have hk:=hE.dP T e he
 have hu:=hk.u
 unfold jC at h
 split at h
 ·rename_i kd hd
  split at h
  ·rename_i k m k' n
   split at h
   ·rename_i nH;subst nH;cases h
    exact .inl ⟨kd,by rw [hu,hd],k,m,n,hp.gw,hq.gw,rfl⟩
   ·cases h
  ·cases h
 ·rename_i fs hd
  cases Dc:(iO p && iO q) with
  | false=>rw [Dc] at h;cases h
  | true=>
   rw [Dc] at h;simp only [cond_true] at h
   simp only [zC] at Dc
   split at h
   ·rename_i a c ha hc
    obtain ⟨vs,h1⟩:=hp.xz Dc.1
    obtain ⟨us,h2⟩:=hq.xz Dc.2
    have c1:=hp.cells ha
    have c2:=hq.cells hc
    rw [h1] at c1
    rw [h2] at c2
    have haa:j7 e.d=true:=by rw [hd];rfl
    have eL:=y8 hE 2 T a c b h g _ _ 9998 w e (.agg vs) (.agg us) he c1 c2 (by simp [valOf,haa,Value.cells]) (by simp [valOf,haa,Value.cells])
    refine .inr ⟨⟨fs,by rw [hu,hd]⟩,⟨vs,h1⟩,?_⟩
    rw [h1,h2]
    exact eL
   ·cases h
 ·cases h
theorem CJ {T:Nat} {v:Value} {w:World}:∀(es:List MapEntry),(∀e∈es,JB P w T v e.key false)→(es=[]→∃d,P.underlying T=some d)→(Instr.findKey T v es).run P w = .ok none w
 | [],_,hd=>by
  obtain ⟨d,hd⟩:=hd rfl
  simp [Instr.findKey,run_underlying hd,Instr.findNow]
 | e::es,jk,_=>by
  rcases jk e (zV ..) with ⟨kd,hu,k,m,n,hv,xN,hb⟩ | ⟨⟨fs,hu⟩,⟨vs,hv⟩,hr⟩
  ·have hf:∀(l:List MapEntry) (i:Nat),(∀e∈l,JB P w T v e.key false)→Instr.findNow (.int kd) v l i=some none:=by
    intro l
    induction l with
    | nil=>intro i _;rfl
    | cons e l ih=>
     intro i hl
     rcases hl e (zV ..) with ⟨YL,sY,k',m',n',G7,Ni,L6⟩ | ⟨⟨fs,sY⟩,_⟩
     ·unfold Instr.findNow
      have lf:(m' == n')=false:=by
       have:¬m'=n':=of_decide_eq_false L6.symm
       simpa using this
      simp only [G7,Ni,Instr.sameNow,if_true,lf]
      rw [←G7]
      exact ih (i+1) (fun e he=>hl e (zT _ he))
     ·rw [hu] at sY;cases sY
   simp [Instr.findKey,run_underlying hu,hf (e::es) 0 jk]
  ·have hn:Instr.findNow (.struct fs) v (e::es) 0=none:=by
    unfold Instr.findNow
    rw [hv]
    cases e.key<;>rfl
   have hf:∀(l:List MapEntry) (i:Nat),(∀e∈l,JB P w T v e.key false)→(Instr.findAsking T v l i).run P w = .ok none w:=by
    intro l
    induction l with
    | nil=>intro i _;simp [Instr.findAsking]
    | cons e l ih=>
     intro i hl
     rcases hl e (zV ..) with ⟨YL,sY,_⟩ | ⟨_,_,Nn⟩
     ·rw [hu] at sY;cases sY
     ·simp only [Instr.findAsking,Sem.run_bind,Nn,Result.andThen_ok]
      exact ih (i+1) (fun e he=>hl e (zT _ he))
   simp [Instr.findKey,run_underlying hu,hn,hf (e::es) 0 jk]
theorem FN {T:Nat} {v:Value} {w:World} {es:List MapEntry} {j:Nat} {e:MapEntry} (hj:es[j]?=some e) (hb:∀(i:Nat) (e':MapEntry),i<j→es[i]?=some e'→JB P w T v e'.key false) (ht:JB P w T v e.key true) :
  (Instr.findKey T v es).run P w = .ok (some (j,e.val)) w:=by
 rcases ht with ⟨kd,hu,k,m,n,hv,xN,hbb⟩ | ⟨⟨fs,hu⟩,⟨vs,hv⟩,hr⟩
 ·have hf:∀(l:List MapEntry) (i j:Nat),l[j]?=some e→(∀(i:Nat) (e':MapEntry),i<j→l[i]?=some e'→JB P w T v e'.key false)→Instr.findNow (.int kd) v l i=some (some (i+j,e.val)):=by
   intro l
   induction l with
   | nil=>intro i j h;simp at h
   | cons a l ih=>
    intro i j h hl
    unfold Instr.findNow
    cases j with
    | zero=>
     obtain rfl:a=e:=by simpa using h
     have:(m == n)=true:=by simpa using (of_decide_eq_true hbb.symm)
     simp only [hv,xN,Instr.sameNow,if_true,this]
     simp
    | succ j=>
     rcases hl 0 a (by omega) rfl with ⟨YL,sY,k',m',n',G7,Ni,L6⟩ | ⟨⟨fs,sY⟩,_⟩
     ·have lf:(m' == n')=false:=by
       have:¬m'=n':=of_decide_eq_false L6.symm
       simpa using this
      simp only [G7,Ni,Instr.sameNow,if_true,lf]
      rw [←G7,ih (i+1) j (by simpa using h) (fun i' e' hi he=>hl (i'+1) e' (by omega) (by simpa using he))]
      congr 3;omega
     ·rw [hu] at sY;cases sY
  have:=hf es 0 j hj hb
  simp [Instr.findKey,run_underlying hu,this]
 ·have hn:Instr.findNow (.struct fs) v es 0=none:=by
   cases es with
   | nil=>simp at hj
   | cons a l=>
    unfold Instr.findNow
    rw [hv]
    cases a.key<;>rfl
  have hf:∀(l:List MapEntry) (i j:Nat),l[j]?=some e→(∀(i:Nat) (e':MapEntry),i<j→l[i]?=some e'→JB P w T v e'.key false)→(Instr.findAsking T v l i).run P w = .ok (some (i+j,e.val)) w:=by
   intro l
   induction l with
   | nil=>intro i j h;simp at h
   | cons a l ih=>
    intro i j h hl
    cases j with
    | zero=>
     obtain rfl:a=e:=by simpa using h
     simp [Instr.findAsking,hr]
    | succ j=>
     rcases hl 0 a (by omega) rfl with ⟨YL,sY,_⟩ | ⟨_,_,Nn⟩
     ·rw [hu] at sY;cases sY
     ·simp only [Instr.findAsking,Sem.run_bind,Nn,Result.andThen_ok,Bool.false_eq_true,if_false]
      rw [ih (i+1) j (by simpa using h) (fun i' e' hi he=>hl (i'+1) e' (by omega) (by simpa using he))]
      congr 3;omega
  have:=hf es 0 j hj hb
  simp [Instr.findKey,run_underlying hu,hn,this]
theorem nz (hE:bT P E) {g:G} {T:Nat} {e:ct} {p:A} {v:Value} {b:Bool} (w:World) (em:Bool) (he:cu E.dP T=some e) (ht:mg E e.d=true) (h:jC E T e.d p p=some b) (hp:V g p v):(Instr.checkKey em 10000 T v).run P w = .ok () w:=by
 have hk:=hE.dP T e he
 have hu:=hk.u
 unfold mg at ht
 split at ht
 ·rename_i kd hd
  rcases Au hE w he h hp hp with ⟨YL,sY,k,m,n,hv,_⟩ | ⟨⟨fs,sY⟩,_⟩
  ·rw [show 10000=9999+1 from rfl,Instr.checkKey]
   simp only [Sem.run_bind,run_underlying hu,Result.andThen_ok,hd,hv]
   rfl
  ·rw [hu,hd] at sY;cases sY
 ·rename_i fs hd
  have sY:P.underlying T=some (.struct fs):=by rw [hu,hd]
  have kZ:∃a,p.cells=some a∧iO p=true∧vN E 2 T a a=some b:=by
   unfold jC at h
   rw [hd] at h
   simp only at h
   cases Dc:(iO p && iO p) with
   | false=>rw [Dc] at h;cases h
   | true=>
    rw [Dc] at h;simp only [cond_true] at h
    simp only [Bool.and_self] at Dc
    split at h
    ·rename_i a c ha hc;rw [ha] at hc;cases hc;exact ⟨a,ha,Dc,h⟩
    ·cases h
  obtain ⟨a,ha,Dc,heq⟩:=kZ
  obtain ⟨vs,rfl⟩:=hp.xz Dc
  have c1:Vs g a vs.toList:=hp.cells ha
  unfold vN at heq
  rw [he] at heq
  simp only [hd] at heq
  cases hq:E.eqs.any (Nat.beq T) with
  | false=>rw [hq] at heq;cases heq
  | true=>
   rw [hq] at heq;simp only [cond_true] at heq
   have uW:=(hE.eqs T hq).names fs sY
   rw [show 10000=9999+1 from rfl,Instr.checkKey]
   simp only [Sem.run_bind,run_underlying sY,Result.andThen_ok]
   rw [←Array.forIn_toList]
   have jk:=List.all_eq_true.1 ht
   generalize fs.toList=L at heq jk uW
   clear sY hd ht h
   induction L generalizing b with
   | nil=>simp
   | cons f L ih=>
    have hf:=jk f (zV ..)
    have hn:=uW f (zV ..)
    unfold I_ at heq
    split at heq
    ·rename_i ef L2
     split at heq
     ·rename_i x y hx hy
      rw [L2] at hf
      simp only at hf
      split at hf
      ·rename_i kd hkd
       have Va:=hE.dP _ _ L2
       have huf:=Va.u
       have E_:∃k m,(part f.type vs f.offset).run P w = .ok (.int k m) w:=by
        unfold vN at hx
        rw [L2] at hx
        simp only [hkd] at hx
        split at hx
        ·rename_i k m k' n OZ Vl
         have c2:=c1.part f.offset ef.size
         rw [OZ] at c2
         obtain ⟨z,e1,e2⟩:=c2.single
         have e2:=e2.gw
         subst e2
         exact ⟨k,m,oT Va (by simp [valOf,hkd,j7,e1]) w⟩
        ·cases hx
       obtain ⟨k,m,UQ⟩:=E_
       have Db:(Instr.checkKey em 9999 f.type (.int k m)).run P w = .ok () w:=by
        rw [show 9999=9998+1 from rfl,Instr.checkKey]
        simp only [Sem.run_bind,run_underlying huf,Result.andThen_ok,hkd]
        rfl
       simp only [List.forIn_cons,Sem.run_bind,hn,ne_eq,not_false_eq_true,if_true,Result.andThen_ok,UQ,Db,Sem.run_pure]
       exact ih hy (fun y hy=>jk y (zT _ hy)) (fun y hy=>uW y (zT _ hy))
      ·cases hf
     ·cases heq
    ·cases heq
 ·cases ht
end
section
variable {P:Program} {E:Env} {o:Oper} {ρ:Operand→A} {S:Hp}
def lE (f:A→Option Bool):List (A×A)→Nat→Option (Option (Nat×A))
 | [],_=>some none
 | (k,v)::r,i=>match f k with
  | some true=>some (some (i,v))
  | some false=>lE f r (i+1)
  | none=>none
theorem sd {f:A→Option Bool}:∀(es:List (A×A)) (i:Nat) (r:Option (Nat×A)),lE f es i=some r →
  (r=none∧∀(j:Nat) (q:A×A),es[j]?=some q→f q.1=some false)∨∃n v k,r=some (i+n,v)∧es[n]?=some (k,v)∧f k=some true∧∀(j:Nat) (q:A×A),j<n→es[j]?=some q→f q.1=some false
 | [],i,r,h=>by cases h;exact .inl ⟨rfl,fun j q h=>by simp at h⟩
 | (k,v)::es,i,r,h=>by
  unfold lE at h
  split at h
  ·rename_i hk;cases h
   exact .inr ⟨0,v,k,rfl,rfl,hk,fun j q hj=>by omega⟩
  ·rename_i hk
   rcases sd es (i+1) r h with ⟨rfl,h2⟩ | ⟨n,v',k',rfl,h2,h3,h4⟩
   ·refine .inl ⟨rfl,fun j q hj=>?_⟩
    cases j with
    | zero=>simp at hj;subst hj;exact hk
    | succ j=>exact h2 j q (by simpa using hj)
   ·refine .inr ⟨n+1,v',k',by rw [show i+(n+1)=i+1+n by omega],by simpa using h2,h3,fun j q hj hq=>?_⟩
    cases j with
    | zero=>simp at hq;subst hq;exact hk
    | succ j=>exact h4 j q (by omega) (by simpa using hq)
  ·cases h
theorem sF.find {g:G} {w:World} {jO:Array MapEntry} {es:List (A×A)} (hE:bT P E) {K:Nat} {e:ct} {p:A} {v:Value} {r:Option (Nat×A)} (he:cu E.dP K=some e) (h:sF g jO es) (hp:V g p v) (hr:lE (jC E K e.d p) es 0=some r) :
  (r=none∧(Instr.findKey K v jO.toList).run P w = .ok none w)∨∃n q x,r=some (n,q)∧jO[n]?=some x∧V g q x.val∧n<es.length∧(Instr.findKey K v jO.toList).run P w = .ok (some (n,x.val)) w:=by
 have key:∀(j:Nat) (x:MapEntry) (q:A×A) (b:Bool),jO[j]?=some x→es[j]?=some q→jC E K e.d p q.1=some b→JB P w K v x.key b:=fun j x q b h1 h2 h3=>
  Au hE w he h3 hp (h.2 j x q h1 h2).1
 have bm:∀(j:Nat) (x:MapEntry),jO[j]?=some x→∃q,es[j]?=some q:=fun j x hx=>⟨_,zD (by have:=(Array.getElem?_eq_some_iff.1 hx).1;have:=h.1;omega)⟩
 rcases sd es 0 r hr with ⟨rfl,h2⟩ | ⟨n,q,k,rfl,h2,h3,h4⟩
 ·refine .inl ⟨rfl,CJ _ (fun x hx=>?_) (fun _=>⟨_,(hE.dP _ _ he).u⟩)⟩
  obtain ⟨j,hj,rfl⟩:=List.getElem_of_mem hx
  have oz:jO[j]?=some jO.toList[j]:=by simp at hj ⊢
  obtain ⟨q,hq⟩:=bm j _ oz
  exact key j _ q false oz hq (h2 j q hq)
 ·have hn:=(zB.1 h2).1
  have hx : jO[n]? = some (jO[n]'(by have := h.1; omega)) := by simp
  refine .inr ⟨n,q,_,by rw [Nat.zero_add],hx,(h.2 n _ _ hx h2).2,hn,?_⟩
  refine FN (by simp) (fun j x hj hjx=>?_) (key n _ (k,q) true hx h2 h3)
  have Vb:jO[j]?=some x:=by simpa using hjx
  obtain ⟨q',hq'⟩:=bm j _ Vb
  exact key j x q' false Vb hq' (h4 j q' hj hq')
theorem V.uI {g:G} {w:World} {x:Ref} {es:List (A×A)} {v:Value} (hI:Inv g S w) (hv:V g (.mp x) v) (ho:S.ob x.id=some (.cX (.map es))):∃b s jO clock,v = .map (some b)∧g.bm x.id=some (some b,s)∧w.heap[b]?=some (.map jO clock)∧sF g jO es:=by
 obtain ⟨b,s,ob,k1,k2,jO,clock,rfl,k3⟩:=hI.cX x.id _ ho
 cases hv with
 | mp _ b' s' h=>
  rw [k1] at h
  obtain ⟨rfl,_⟩:b=b'∧s=s':=by simpa using h
  exact ⟨b,s,jO,clock,rfl,k1,k2,k3⟩
theorem wE {T q:Nat} (ho:o.op = .makeMap T none) (hf:S.fr q):fc P o ρ S (S.new q (.cX (.map []))) (.mp (.loc q)):=by
 intro g w a next Q hI hv K
 obtain ⟨k1,k2⟩:=hI.alloc (s:=(0,0)) hf (x:=.cX (.map [])) (ob:=.map #[] 0) ⟨.map #[] 0,heap_alloc_new w _,#[],0,rfl,rfl,fun j e q h=>by simp at h⟩
 unfold Oper.wp
 simp only [execOp,ho,Instr.makeMap,Option.map_none,Sem.run_bind,Result.andThen_ok,Sem.run_pure,run_newObj,pure_bind]
 exact K _ _ _ (.mp (.loc q) w.heap.size _ cg) k1 k2
def Dk (z:Value):Option A:=match z with
 | .agg vs=>some (.agg (vs.toList.map .v))
 | .tuple _=>none
 | z=>some (.v z)
theorem Dj {z:Value} {p:A} (h:Dk z=some p) (h1:(z.cells.toList.all (·.oneCell'))=true) (g:G):V g p z:=by
 unfold Dk at h
 split at h
 ·rename_i vs
  cases h
  refine .agg _ vs (by simp) (fun v hv=>List.all_eq_true.1 h1 v (by simpa [Value.cells] using hv)) (fun i c x e1 e2=>?_)
  simp only [zL,Option.map_eq_some_iff,Array.getElem?_toList] at e1
  obtain ⟨y,hy,rfl⟩:=e1
  rw [e2] at hy
  obtain rfl:=Option.some.inj hy
  exact .v _
 ·cases h
 ·cases h;exact .v _
def Bx (z:A):Option (Nat×A)→A
 | some (_,v)=>v
 | none=>z
def FQ (es:List (A×A)):Option (Nat×A)→List (A×A)
 | some (n,_)=>es.eraseIdx n
 | none=>es
theorem rL (hE:bT P E) {T K T2:Nat} {X:Ref} {x y:Operand} {ok:Bool} {e e2:ct} {es:List (A×A)} {r:Option (Nat×A)} (ho:o.op = .lookup T x y ok) (hT:P.underlying T=some (.map K T2)) (he:cu E.dP K=some e) (Vh:cu E.dP T2=some e2) (ht:mg E e.d=true) {b:Bool} (hs:jC E K e.d (ρ y) (ρ y)=some b)
  (hx:ρ x = .mp X) (hm:S.ob X.id=some (.cX (.map es))) (hr:lE (jC E K e.d (ρ y)) es 0=some r) {z:A} (hz:∀g,V g z e2.zero):fc P o ρ S S (bif ok then .jy [Bx z r,.v (.bool r.isSome)] else Bx z r):=
 .value fun g w a hI hv=>by
  have e1:=hx▸hv x (by simp [ho,Op.operands])
  have Xj:=hv y (by simp [ho,Op.operands])
  obtain ⟨Dd,s,jO,clock,h1,h2,h3,h4⟩:=e1.uI hI hm
  have hc:=nz hE w jO.isEmpty he ht hs Xj
  obtain ⟨ti,t1,t2,t3,t4,t5,t6⟩:=(hE.dP _ _ Vh).ti
  have hzv:(zeroValue T2).run P w = .ok e2.zero w:=by simp [zeroValue,typeInfo,t1,t2]
  have pair:∀(p:A) (u:Value) (b:Bool),V g p u→V g (bif ok then .jy [p,.v (.bool b)] else p) (if ok then .tuple #[u,.bool b] else u):=by
   intro p u b hp
   cases ok with
   | true=>
    refine .jy _ _ rfl (fun k c x e3 e4=>?_)
    match k with
    | 0=>simp at e3 e4;subst e3 e4;exact hp
    | 1=>simp at e3 e4;subst e3 e4;exact .v _
    | k+2=>simp at e3
   | false=>exact hp
  rcases h4.find (w:=w) hE he Xj hr with ⟨rfl,hf⟩ | ⟨n,p,x',rfl,oz,qe,_,hf⟩
  ·refine ⟨if ok then .tuple #[e2.zero,.bool false] else e2.zero,?_,pair z e2.zero false (hz g)⟩
   simp only [execOp,ho,h1,Instr.lookup,Sem.run_bind,run_underlying hT,Result.andThen_ok,MapKept.run_getObj_map h3,hc,hf,hzv,Sem.run_pure]
  ·refine ⟨if ok then .tuple #[x'.val,.bool true] else x'.val,?_,pair p x'.val true qe⟩
   simp only [execOp,ho,h1,Instr.lookup,Sem.run_bind,run_underlying hT,Result.andThen_ok,MapKept.run_getObj_map h3,hc,hf,Sem.run_pure]
theorem Inv.uj {g:G} {w:World} (h:Inv g S w) {q b clock clock':Nat} {s:Nat×Nat} {es oC:List (A×A)} {jO EG:Array MapEntry} (ho:S.ob q=some (.cX (.map es))) (hg:g.bm q=some (some b,s)) (hh:w.heap[b]?=some (.map jO clock)) (hE:sF g EG oC) :
  Inv g (S.set q (.cX (.map oC))) { w with heap:=w.heap.setIfInBounds b (.map EG clock') }∧Ext S g w (S.set q (.cX (.map oC))) g { w with heap:=w.heap.setIfInBounds b (.map EG clock') }:=by
 have hb:b<w.heap.size:=(Array.getElem?_eq_some_iff.1 hh).1
 exact h.write ho hg (by simp) (fun k hk=>by simp [Array.getElem?_setIfInBounds,hk.symm]) rfl rfl rfl ⟨.map EG clock',by simp [hb],EG,clock',rfl,hE⟩
theorem Ak (hE:bT P E) {T K T2:Nat} {X:Ref} {x y z:Operand} {e:ct} {es:List (A×A)} {ky vz:A} (ho:o.op = .mapUpdate T x y z∨o.op = .insert T x y z) (hT:P.underlying T=some (.map K T2)) (he:cu E.dP K=some e) (ht:mg E e.d=true) {b:Bool} (hs:jC E K e.d (ρ y) (ρ y)=some b)
  (hx:ρ x = .mp X) (hm:S.ob X.id=some (.cX (.map es))) (hky:∀g v,V g (ρ y) v→V g ky v) (ON:∀g v,V g (ρ z) v→V g vz v) (hr:lE (jC E K e.d (ρ y)) es 0=some none):fc P o ρ S (S.set X.id (.cX (.map (es++[(ky,vz)])))) .cG:=by
 intro g w a next Q hI hv K'
 have oA:x∈o.op.operands∧y∈o.op.operands∧z∈o.op.operands:=by rcases ho with ho | ho<;>simp [ho,Op.operands]
 have e1:=hx▸hv x oA.1
 have e2:=hv y oA.2.1
 have e3:=hv z oA.2.2
 obtain ⟨Dd,s,jO,clock,h1,h2,h3,h4⟩:=e1.uI hI hm
 have hc:=nz hE w false he ht hs e2
 have hfn:(Instr.findKey K (a.eval y) jO.toList).run P w = .ok none w:=by
  rcases h4.find (w:=w) hE he e2 hr with ⟨_,hf⟩ | ⟨n,p,x',hh,_⟩
  ·exact hf
  ·cases hh
 have Fs:sF g (jO.push { key:=a.eval y,val:=a.eval z,born:=clock }) (es++[(ky,vz)]):=by
  refine ⟨by simp [h4.1],fun m x q hy hq=>?_⟩
  rw [Array.getElem?_push] at hy
  split at hy
  ·rename_i hm
   cases hy
   rw [zJ (by have:=h4.1;omega)] at hq
   rw [show m-es.length=0 by have:=h4.1;omega] at hq
   simp at hq;subst hq
   exact ⟨hky _ _ e2,ON _ _ e3⟩
  ·rw [zK (by have:=(Array.getElem?_eq_some_iff.1 hy).1;have:=h4.1;omega)] at hq
   exact h4.2 m x q hy hq
 obtain ⟨k1,k2⟩:=hI.uj (clock':=clock+1) hm h2 h3 Fs
 have eL:(Instr.mapUpdate T (.map (some Dd)) (a.eval y) (a.eval z)).run P w = .ok () { w with heap:=w.heap.setIfInBounds Dd (.map (jO.push { key:=a.eval y,val:=a.eval z,born:=clock }) (clock+1)) }:=by
  simp only [Instr.mapUpdate,Sem.run_bind,run_underlying hT,Result.andThen_ok,MapKept.run_getObj_map h3,hc,hfn,MapKept.run_setObj_map _ h3]
 unfold Oper.wp
 rcases ho with ho | ho
 ·simp only [execOp,ho,h1,Sem.run_bind,eL,Result.andThen_ok,Sem.run_pure]
  exact K' _ g _ (.cG _) k1 k2
 ·simp only [execOp,ho,h1,Sem.run_bind,eL,Result.andThen_ok,Sem.run_pure]
  exact K' _ g _ (.cG _) k1 k2
theorem rM (hE:bT P E) {T K T2:Nat} {X:Ref} {x y:Operand} {Ts:Array TypeId} {e:ct} {es:List (A×A)} {r:Option (Nat×A)} (ho:o.op = .call { callee:=.builtin .delete,args:=#[x,y],argTypes:=Ts }) (h0:Ts[0]?=some T) (hT:P.underlying T=some (.map K T2)) (he:cu E.dP K=some e) (ht:mg E e.d=true) {b:Bool} (hs:jC E K e.d (ρ y) (ρ y)=some b)
  (hx:ρ x = .mp X) (hm:S.ob X.id=some (.cX (.map es))) (hr:lE (jC E K e.d (ρ y)) es 0=some r):fc P o ρ S (S.set X.id (.cX (.map (FQ es r)))) .cG:=by
 intro g w a next Q hI hv K'
 have e1:=hx▸hv x (by simp [ho,Op.operands,Call.operands])
 have e2:=hv y (by simp [ho,Op.operands,Call.operands])
 obtain ⟨Dd,s,jO,clock,h1,h2,h3,h4⟩:=e1.uI hI hm
 have hc:=nz hE w jO.isEmpty he ht hs e2
 unfold Oper.wp
 rcases h4.find (w:=w) hE he e2 hr with ⟨rfl,hf⟩ | ⟨n,p,x',rfl,oz,_,hn,hf⟩
 ·obtain ⟨k1,k2⟩:=hI.uj (clock':=clock) hm h2 h3 h4
  simp only [execOp,ho,resolve,invoke,builtin,Sem.run_bind,Sem.run_pure,Result.andThen_ok,List.map_toArray,List.map_cons,List.map_nil,Builtin.delete_,h0,h1,run_underlying hT,MapKept.run_getObj_map h3,hc,hf,MapKept.run_setObj_map _ h3,List.getElem?_toArray,List.getElem?_cons_zero,List.getElem?_cons_succ]
  exact K' _ g _ (.cG _) k1 k2
 ·have hen:sF g (jO.eraseIdxIfInBounds n) (es.eraseIdx n):=by
   have Nw:(jO.eraseIdxIfInBounds n).toList=jO.toList.eraseIdx n:=by simp
   have hl:=h4.1
   refine ⟨by rw [←Array.length_toList,Nw,List.length_eraseIdx,List.length_eraseIdx];simp [hl],fun m y z hy hz=>?_⟩
   rw [←Array.getElem?_toList,Nw,List.getElem?_eraseIdx] at hy
   rw [List.getElem?_eraseIdx] at hz
   split at hy
   ·rename_i hm
    rw [if_pos hm] at hz
    exact h4.2 m y z (by simpa using hy) hz
   ·rename_i hm
    rw [if_neg hm] at hz
    exact h4.2 (m+1) y z (by simpa using hy) hz
  obtain ⟨k1,k2⟩:=hI.uj (clock':=clock) hm h2 h3 hen
  simp only [execOp,ho,resolve,invoke,builtin,Sem.run_bind,Sem.run_pure,Result.andThen_ok,List.map_toArray,List.map_cons,List.map_nil,Builtin.delete_,h0,h1,run_underlying hT,MapKept.run_getObj_map h3,hc,hf,MapKept.run_setObj_map _ h3,List.getElem?_toArray,List.getElem?_cons_zero,List.getElem?_cons_succ]
  exact K' _ g _ (.cG _) k1 k2
def PC (P:Program) (f:FuncId) (aa:List A) (S S':Hp) (r:A):Prop:=
 ∀g w (vs:List Value),Inv g S w→aa.length=vs.length→(∀(i:Nat) (p:A) (v:Value),aa[i]?=some p→vs[i]?=some v→V g p v) →
  Calls P f vs.toArray w (fun e w'=>∃v g',e = .returned v∧V g' r v∧Inv g' S' w'∧Ext S g w S' g' w')
theorem B3 {x:Operand} {f:FuncId} {fi ca:List A} {xs:Array Operand} {ts:Array TypeId} {S':Hp} {r:A} (ho:o.op = .call { callee:=.value x,args:=xs,argTypes:=ts }) (hf:vG P f) (hx:ρ x = .fn f fi ca)
  (h:PC P f (fi++xs.toList.map ρ++ca) S S' r):fc P o ρ S S' r:=by
 intro g w a next Q hI hv K
 unfold Oper.wp
 have e1:=hx▸hv x (by simp [ho,Op.operands,Call.operands])
 generalize hu:a.eval x=u at e1
 cases e1 with
 | fn _ _ _ fv cv Nv OZ h1 h2=>
 have e:(execOp a.eval o).run P w = .ok (.enter f (fv.toList++xs.toList.map a.eval++cv.toList).toArray) w:=by
  have h2:=hf.run ((fv.toList++xs.toList.map a.eval++cv.toList).toArray) w
  simp only [execOp,ho,resolve,hu,Deferred.ofValue,pure_bind,invoke]
  rw [show fv++Array.map a.eval xs++cv=(fv.toList++xs.toList.map a.eval++cv.toList).toArray by apply Array.ext';simp]
  exact h2
 rw [e]
 simp only [Oper.upon]
 refine (h g w (fv.toList++xs.toList.map a.eval++cv.toList) hI (by simp;omega) (fun i p v k1 k2=>?_)).mono ?_
 ·by_cases c1:i<fi.length
  ·rw [List.append_assoc,zK c1] at k1
   rw [List.append_assoc,zK (by simp;omega)] at k2
   exact h1 i p v k1 (by simpa using k2)
  ·by_cases c2:i<fi.length+xs.size
   ·rw [List.append_assoc,zJ (by omega),zK (by simp;omega)] at k1
    rw [List.append_assoc,zJ (by simp;omega),zK (by simp;omega)] at k2
    simp only [Array.length_toList,←Nv,zL,Option.map_eq_some_iff] at k1 k2
    obtain ⟨y,hy,rfl⟩:=k1
    obtain ⟨y',yH,rfl⟩:=k2
    rw [hy] at yH
    obtain rfl:=Option.some.inj yH
    exact hv y (by simp only [ho,Op.operands,Call.operands];exact Array.mem_append.2 (.inr (Array.mem_of_getElem? (by simpa using hy))))
   ·rw [zJ (by simp;omega)] at k1 k2
    simp only [zY,Array.length_toList,zH,←Nv] at k1 k2
    exact h2 _ p v k1 (by simpa using k2)
 ·rintro e w' ⟨v,g',rfl,h1,h2,h3⟩
  exact K v g' w' h1 h2 h3
theorem uC {f:FuncId} {fi ca:Array Operand} (ho:o.op = .makeFunc (.func f) fi ca):fc P o ρ S S (.fn f (fi.toList.map ρ) (ca.toList.map ρ)):=
 .value fun g w a _ hv=>by
  refine ⟨.func (.func f) (fi.map a.eval) (ca.map a.eval),by simp [execOp,ho,Instr.makeFunc],.fn _ _ _ _ _ (by simp) (by simp) (fun i c x h1 h2=>?_) (fun i c x h1 h2=>?_)⟩
  ·simp only [zL,Array.getElem?_map,Option.map_eq_some_iff,Array.getElem?_toList] at h1 h2
   obtain ⟨y,hy,rfl⟩:=h1
   obtain ⟨y',yH,rfl⟩:=h2
   rw [hy] at yH
   obtain rfl:=Option.some.inj yH
   exact hv y (by simp only [ho,Op.operands];exact Array.mem_append.2 (.inl (Array.mem_of_getElem? hy)))
  ·simp only [zL,Array.getElem?_map,Option.map_eq_some_iff,Array.getElem?_toList] at h1 h2
   obtain ⟨y,hy,rfl⟩:=h1
   obtain ⟨y',yH,rfl⟩:=h2
   rw [hy] at yH
   obtain rfl:=Option.some.inj yH
   exact hv y (by simp only [ho,Op.operands];exact Array.mem_append.2 (.inr (Array.mem_of_getElem? hy)))
theorem H4 {Ts:Array TypeId} {x y:Operand} {k:IntKind} {m n:Int} (ho:o.op = .call { callee:=.builtin .min,args:=#[x,y],argTypes:=Ts }) (hx:ρ x = .v (.int k m)) (hy:ρ y = .v (.int k n)):fc P o ρ S S (.v (.int k (lW m n))):=
 .value fun g w a hI hv=>by
  have e1:=(hx▸hv x (by simp [ho,Op.operands,Call.operands])).gw
  have e2:=(hy▸hv y (by simp [ho,Op.operands,Call.operands])).gw
  exact ⟨_,by simp [execOp,ho,resolve,invoke,builtin,Builtin.min_,e1,e2,Builtin.min2];rfl,.v _⟩
theorem H5 {Ts:Array TypeId} {x y:Operand} {k:IntKind} {m n:Int} (ho:o.op = .call { callee:=.builtin .max,args:=#[x,y],argTypes:=Ts }) (hx:ρ x = .v (.int k m)) (hy:ρ y = .v (.int k n)):fc P o ρ S S (.v (.int k (imax m n))):=
 .value fun g w a hI hv=>by
  have e1:=(hx▸hv x (by simp [ho,Op.operands,Call.operands])).gw
  have e2:=(hy▸hv y (by simp [ho,Op.operands,Call.operands])).gw
  exact ⟨_,by simp [execOp,ho,resolve,invoke,builtin,Builtin.max_,e1,e2,Builtin.max2];rfl,.v _⟩
theorem qJ {T E':TypeId} {z b m n p q off:Nat} {zv:Value} {cs ps:List A} {x y:Operand} (ho:o.op = .call { callee:=.builtin .append,args:=#[x,y],argTypes:=#[T,T] }) (hT:P.underlying T=some (.slice E')) (hE:TI P E' z b zv) (h0:0<z)
  (hx:∀g w v,Inv g S w→V g (ρ x) v→(∃ad,v = .slice ad 0 0∧n=0)∨∃bk s d,g.bm p=some (some bk,s)∧v = .slice (some ⟨bk,d,none⟩) n n∧(n≠0→d=off)) (hp:S.ob p=some (.cells cs)) (qC:off+n*z≤cs.length)
  (hy:∀g w v,Inv g S w→V g (ρ y) v→Given g w v z m ps) (hm:0<m) (hf:S.fr q) (hb:(n+m)*b≤140737488355328) (pg:n+m≤maxLen):fc P o ρ S (S.new q (.cells ((cs.drop off).take (n*z)++ps))) (.tw (.loc q) z):=
 .app ho fun g w a hI e1 e2=>by
  rcases hx g w _ hI e1 with ⟨ad,hu,rfl⟩ | ⟨bk,s,d,hg,hu,hd⟩
  ·rw [hu,Nat.zero_mul,List.take_zero,List.nil_append]
   exact ir ad hT hE hI (hy g w _ hI e2) hf (by simpa using hb) (by simpa using pg)
  obtain ⟨i,t1,t2,t3,t4,t5,t6⟩:=hE
  subst t3 t4
  obtain ⟨A2,mB,us,wW,qe,o_,yQ⟩:=hy g w _ hI e2
  rw [hu,wW]
  obtain ⟨Hk,rfl,mO⟩:=yQ hm
  rcases hI.cells p cs hp with ⟨k1,_⟩ | ⟨b',t,k1,cur,ty,k2,pO,k3⟩
  ·rw [k1] at hg;cases hg
  rw [k1] at hg;simp at hg
  obtain ⟨rfl,rfl⟩:=hg
  have vM:=grownCap_ge w (n+m) n E'
  have Nz:=grownCap_le_maxLen w (n+m) n E' pg
  obtain ⟨os,h1,h2,h3⟩:=oV (off:=off) (n:=n*i.size) k2 k3 qC
  have Fh:∀j v,os[j]?=some v→w.cell? ((⟨b',d,none⟩:Addr).add j)=some v:=fun j v hj=>by
   by_cases Hg:n=0
   ·subst Hg
    have Np:os=[]:=zZ (by rw [h2];simp)
    rw [Np] at hj
    simp at hj
   ·obtain rfl:=hd Hg;exact h3 j v hj
  have hr:=run_append_grow (P:=P) w T o.type E' i zv hT t1 t2 ⟨b',d,none⟩ n n os h2 Fh Hk m mB us o_ mO (by omega) (by simp only [maxLen] at pg;omega) (growslice_fits (by omega) hb)
  have kZ:(os.toArray++us.toArray++Builtin.zeroCells zv.cells (grownCap w (n+m) n E' - (n+m))).size=grownCap w (n+m) n E'*i.size:=by
   simp only [Array.size_append,List.size_toArray,size_zeroCells,t5,h2,o_,←Nat.add_mul]
   congr 1;omega
  have hle:(n+m)*i.size≤grownCap w (n+m) n E'*i.size:=zW _ vM
  have hlen:((cs.drop off).take (n*i.size)++ps).length=(n+m)*i.size:=by rw [zY,List.length_take,List.length_drop,Nat.min_eq_left (by omega),qe.1,o_,Nat.add_mul]
  obtain ⟨q1,q2⟩:=hI.drew.l7 hf (cs:=(cs.drop off).take (n*i.size)++ps) (vs:=os.toArray++us.toArray++Builtin.zeroCells zv.cells (grownCap w (n+m) n E' - (n+m))) E' (by rw [kZ,hlen];exact hle)
   (by have:=nw (ex:=(Builtin.zeroCells zv.cells (grownCap w (n+m) n E' - (n+m))).toList) h1 qe;simpa using this)
  exact ⟨_,_,_,hr,.tw (.loc q) i.size (n+m) _ _ _ (by rw [show (Ref.loc q).id=q from rfl,cg,hlen];rfl) vM Nz (Nat.le_of_eq kZ.symm) 0 (fun _=>rfl),q1,Inv.ub q2⟩
theorem B2 {T El:TypeId} {x:Operand} {z b p off n:Nat} {zv:Value} {zs cs:List A} (ho:o.op = .call { callee:=.builtin .clear,args:=#[x],argTypes:=#[T] }) (hT:P.underlying T=some (.slice El)) (hE:TI P El z b zv) (h0:0<z) (hz:Zs zs zv)
  (hx:∀g w v,Inv g S w→V g (ρ x) v→∃bk s cap d,g.bm p=some (some bk,s)∧v = .slice (some ⟨bk,d,none⟩) n cap∧(n≠0→d=off)) (hn:0<n) (hp:S.ob p=some (.cells cs)) (qC:off+n*z≤cs.length):fc P o ρ S (S.set p (.cells (put cs off (pX n zs)))) .cG:=by
 intro g w a next Q hI hv K
 obtain ⟨bk,s,cap,d,hg,hu,hd⟩:=hx g w _ hI (hv x (by simp [ho,Op.operands,Call.operands]))
 obtain rfl:=hd (by omega)
 obtain ⟨i,t1,t2,t3,t4,t5,t6⟩:=hE
 subst t3 t4
 have G4:zs.length=i.size:=by have:=(hz g).1;simp at this;omega
 have AH:Vs g (pX n zs) (Builtin.zeroCells zv.cells n).toList:=by
  refine ⟨by rw [ko,G4];simp [size_zeroCells,t5],fun j c x q1 q2=>?_⟩
  have hj:j<n*zs.length:=by have:=(zB.1 q1).1;rwa [ko] at this
  rw [wh hj] at q1
  have hm:j%zv.cells.size<zv.cells.size:=Nat.mod_lt _ (by omega)
  simp only [Builtin.zeroCells,Array.toList_map,Array.toList_range,zL,Option.map_eq_some_iff] at q2
  obtain ⟨k,hk,rfl⟩:=q2
  rw [List.getElem?_range (by rw [G4,←t5] at hj;exact hj)] at hk
  obtain rfl:=Option.some.inj hk
  rw [getElem!_pos zv.cells _ hm]
  exact (hz g).2 _ c _ (by rw [G4,←t5] at q1;exact q1) (by simp [hm])
 have hlen:(Builtin.zeroCells zv.cells n).toList.length=n*i.size:=by simp [size_zeroCells,t5]
 obtain ⟨cur,ty,k1,k2,k3,k4⟩:=hI.store (off:=d) hp hg AH (by rw [AH.1,hlen];exact qC)
 have qL:=run_storeCells_at P bk d ty (Builtin.zeroCells zv.cells n).toList 0 cur w k1 (by simpa using k2) AH.one
 simp only [Nat.add_zero] at qL
 unfold Oper.wp
 obtain ⟨n0,rfl⟩:∃n0,n=n0+1:=⟨n-1,by omega⟩
 simp only [execOp,ho,resolve,invoke,builtin,Sem.run_bind,Sem.run_pure,Result.andThen_ok,List.map_toArray,List.map_cons,List.map_nil,hu,Builtin.clear_,List.getElem?_toArray,List.getElem?_cons_zero,run_underlying hT,zeroValue,typeInfo,run_program,t1,t2,qL]
 exact K _ g _ (.cG _) k3 k4
end
end
set_option linter.unusedVariables false
set_option linter.unusedSimpArgs false
section
open Go.RowKit
def dep (ops:Array Oper) (i j:Nat):Bool:=
 match ops[i]? with
 | some o=>o.after.any fun e=>Region.binds .any e && e.on == j
 | none=>false
def eF (ops:Array Oper) (j:Nat):Option Tmp:=(ops[j]?).bind (·.dst)
def X8 (ops:Array Oper):Bool:=
 (List.range ops.size).all fun i=>match ops[i]? with
  | none=>true
  | some o=>(o.after.all fun e=>!Region.binds .any e || decide (e.on<i)) &&
   (List.range ops.size).all fun j=>j == i || match eF ops j with
    | none=>true
    | some d=>(o.dst != some d) && (!(o.looksAt ops).contains d || dep ops i j || dep ops j i)
def ins (L:Nat→Bool) (i:Nat):Nat→Bool:=fun j=>j == i || L j
theorem Ext.drew (S:Hp) (g:G) (w:World):Ext S g w S g w.drew:=⟨.refl g,rfl,rfl,rfl,Nat.le_refl _,fun _ _ _=>rfl,fun _ h=>.inl h,fun _ _ h=>.inl h,fun _ h=>h,fun _ _ _ h=>.inl h,fun _ _ h=>.inl h⟩
structure St where
 t:Nat→A
 n:Nat
 ds:List Nat
 S:Hp
def FR (r:Option Nat):Fence:={ Fence.wide with round:=r }
theorem sA {r:Option Nat} {P:Program} {f:FuncId} {args:Array Value} {w:World} {Q:Ending→World→Prop} (h:Calls P f args w Q):CallsIn (FR r) 0 P f args w Q:=(callsIn_wide (n:=0)).2 h
def C1 (P:Program) (o:Oper) (ρ:Operand→A) (S S':Hp) (pv:A):Prop:=
  ∀(r:Option Nat) (g:G) (w:World) (a:Act) (next:Act→World→Prop) (Q:Exit→Act→World→Prop),Inv g S w→(∀x∈o.op.operands,V g (ρ x) (a.eval x)) →
   (∀v g' w',V g' pv v→Inv g' S' w'→Ext S g w S' g' w'→next (a.put o.dst v) w')→o.wpIn (FR r) 0 P a w next Q
theorem fc.LD {P:Program} {o:Oper} {ρ:Operand→A} {S S':Hp} {pv:A} (h:fc P o ρ S S' pv) (hd:∀c,o.op≠.defer c):C1 P o ρ S S' pv:=by
 intro r g w a next Q hI hv K
 have h1:=h g w a next Q hI hv K
 refine ⟨fun f _=>trivial,?_⟩
 rw [Oper.semAt_eq _ _ _ hd]
 unfold Oper.wp at h1
 generalize (execOp a.eval o).run P w=res at h1 ⊢
 cases res with
 | ok x w'=>
  cases x<;>simp only [Oper.upon,Oper.uponIn] at h1 ⊢<;>first
   | exact h1
   | exact ⟨fun h=>by simp [FR,Fence.wide] at h,sA h1⟩
   | exact ⟨fun h=>by simp [FR,Fence.wide] at h,fun c cs _=>let ⟨v,w1,k1,k2⟩:=h1 c cs;⟨v,w1,k1,stepsIn_wide.2 k2⟩⟩
   | exact h1.elim
 | halt x w'=>cases x<;>simp only [Oper.upon,Oper.uponIn] at h1 ⊢<;>first | exact h1 | exact h1.elim
def zc (d:Nat) (v:Value):Deferred:={ target:=.fn (.func (d / 16777216-1)) #[],args:=#[v] }
def n9 (g:G) (ds:List Nat) (l:List Deferred):Prop:=ds.length=l.length∧∀(i d:Nat) (e:Deferred),ds[i]?=some d→l[i]?=some e→(d<16777216→∃b s,g.bm d=some (some b,s)∧e={ target:=.collected b,args:=#[] })∧(16777216≤d→∃v,V g (.ptr (d%16777216) 0) v∧e=zc d v)
theorem n9.mono {g g':G} (h:Le g g') {ds:List Nat} {l:List Deferred} (k:n9 g ds l):n9 g' ds l:=⟨k.1,fun i d e e1 e2=>⟨fun hd=>let ⟨b,s,q1,q2⟩:=(k.2 i d e e1 e2).1 hd;⟨b,s,h.bm _ _ q1,q2⟩,fun hd=>let ⟨v,q1,q2⟩:=(k.2 i d e e1 e2).2 hd;⟨v,q1.mono h,q2⟩⟩⟩
def St.put (st:St) (d:Option Tmp) (p:A):St:=
 match d with
 | some d=>{ st with t:=fun i=>if i=d then p else st.t i }
 | none=>st
def St.to (st:St) (S:Hp):St:={ st with S:=S }
def St.vK (st:St) (z:Nat):Operand→A
 | .tmp t=>if t<st.n then st.t t else .cG
 | .const v=>.v v
 | .global _=>.cG
 | .func f=>.fn f [] []
def R (S0:Hp) (g0:G) (w0:World) (st:St) (a:Act) (w:World):Prop:=
 ∃g,Inv g st.S w∧Ext S0 g0 w0 st.S g w∧n9 g st.ds a.defers∧a.tmps.size=st.n∧∀i,i<st.n→V g (st.t i) (a.tmps.getD i undef)
def lift (S0:Hp) (g0:G) (w0:World) (Q:Exit→St→Prop) (e:Exit) (a:Act) (w:World):Prop:=∃st,R S0 g0 w0 st a w∧Q e st
def pw (P:Program) (ro:Option Nat) (S0:Hp) (g0:G) (w0:World) (c:Code) (Q:Exit→St→Prop) (st:St):Prop:=∀a w,R S0 g0 w0 st a w→c.wpIn (FR ro) 0 P (lift S0 g0 w0 Q) a w
def D6 (P:Program) (ro:Option Nat) (S0:Hp) (g0:G) (w0:World) (ops:Array Oper) (Q:Exit→St→Prop) (l:List Oper) (st:St):Prop:=∀a w,R S0 g0 w0 st a w→wpListIn (FR ro) 0 P ops (lift S0 g0 w0 Q) l a w
section
variable {P:Program} {ro:Option Nat} {S0:Hp} {g0:G} {w0:World} {Q:Exit→St→Prop} {st:St} {ops:Array Oper}
theorem xA {g:G} {a:Act} (_hs:a.tmps.size=st.n) (hv:∀i,i<st.n→V g (st.t i) (a.tmps.getD i undef)) (z:Nat) (x:Operand):V g (st.vK z x) (a.eval x):=by
 cases x with
 | tmp t=>
  simp only [St.vK,Act.eval]
  split
  ·exact hv t (by assumption)
  ·exact .cG _
 | const v=>exact .v v
 | global _=>exact .cG _
 | func f=>exact .fn f [] [] #[] #[] rfl rfl (by simp) (by simp)
theorem Ea {g:G} {a:Act} {d:Option Tmp} {p:A} {v:Value} (hv:∀i,i<st.n→V g (st.t i) (a.tmps.getD i undef)) (h:V g p v) (hs:a.tmps.size=st.n) :
  ∀i,i<(st.put d p).n→V g ((st.put d p).t i) ((a.put d v).tmps.getD i undef):=by
 cases d with
 | none=>exact hv
 | some d=>
  intro i hi
  simp only [St.put,Act.put]
  by_cases Fo:i=d
  ·subst Fo
   have eO:i<a.tmps.size:=by rw [hs];exact hi
   simp only [if_true]
   rw [show (a.tmps.setIfInBounds i v).getD i undef=v by simp [Array.getD,eO]]
   exact h
  ·simp only [if_neg Fo]
   rw [show (a.tmps.setIfInBounds d v).getD i undef=a.tmps.getD i undef by
    simp only [Array.getD_eq_getD_getElem?]
    rw [Array.getElem?_setIfInBounds_ne (fun h=>Fo h.symm)]]
   exact hv i hi
theorem vZ (a:Act) (d:Option Tmp) (v:Value):(a.put d v).tmps.size=a.tmps.size:=by cases d<;>simp [Act.put]
theorem sq (a:Act) (d:Option Tmp) (v:Value):(a.put d v).defers=a.defers:=by cases d<;>rfl
theorem R.put {a:Act} {w w':World} {g g':G} {S':Hp} {d:Option Tmp} {p:A} {v:Value} (h1:Ext S0 g0 w0 st.S g w) (h2:n9 g st.ds a.defers) (h3:a.tmps.size=st.n) (h4:∀i,i<st.n→V g (st.t i) (a.tmps.getD i undef))
  (hv:V g' p v) (hI:Inv g' S' w') (hE:Ext st.S g w S' g' w'):R S0 g0 w0 ((st.put d p).to S') (a.put d v) w':=by
 refine ⟨g',hI,h1.trans hE,by rw [sq];cases d<;>exact h2.mono hE.le,by rw [vZ,h3];cases d<;>rfl,?_⟩
 exact Ea (fun i hi=>(h4 i hi).mono hE.le) hv h3
theorem HJ (h:Q .normal st):D6 P ro S0 g0 w0 ops Q [] st:=fun _ _ hr=>⟨st,hr,h⟩
theorem wu {o:Oper} {rest:List Oper} {pv:A} {S':Hp} (z:Nat) (hg:o.guard=none) (h:C1 P o (st.vK z) st.S S' pv) (k:D6 P ro S0 g0 w0 ops Q rest ((st.put o.dst pv).to S')):D6 P ro S0 g0 w0 ops Q (o::rest) st:=by
 intro a w hr
 obtain ⟨g,h0,h1,h2,h3,h4⟩:=hr
 refine wpListIn_plain hg (fun K hK=>?_)
 exact h ro g w a K _ h0 (fun x _=>xA h3 h4 z x) (fun v g' w' hv hI hE=>hK _ _ (k _ _ (R.put h1 h2 h3 h4 hv hI hE)))
def mP (ops:Array Oper) (st:St) (j:Nat) (want:Bool):Option Bool:=
 match (ops[j]?).bind (·.dst) with
 | some d=>match st.vK 0 (.tmp d) with
  | .v (.bool b)=>some (b == want)
  | .un=>some false
  | _=>none
 | none=>none
theorem pR {g:G} {a:Act} {o:Oper} {j:Nat} {want b:Bool} (hs:a.tmps.size=st.n) (hv:∀i,i<st.n→V g (st.t i) (a.tmps.getD i undef)) (hg:o.guard=some (j,want)) (h:mP ops st j want=some b) :
  Region.wanted o (yielded ops a.tmps)=b:=by
 unfold mP at h
 split at h
 ·rename_i d hd
  have OO:=xA (st:=st) hs hv 0 (.tmp d)
  simp only [Act.eval] at OO
  split at h
  ·rename_i b' hb
   cases h
   rw [hb] at OO
   have:=OO.gw
   rw [Array.getD_eq_getD_getElem?] at this
   cases ht:a.tmps[d]? with
   | none=>rw [ht] at this;cases this
   | some u=>
    rw [ht] at this
    simp only [Option.getD_some] at this
    subst this
    simp only [Region.wanted,hg,yielded,hd,Option.bind_some,ht]
    cases b'<;>cases want<;>rfl
  ·rename_i hb
   cases h
   rw [hb] at OO
   generalize hu:a.tmps.getD d undef=u at OO
   cases OO
   rw [Array.getD_eq_getD_getElem?] at hu
   simp only [Region.wanted,hg,yielded,hd,Option.bind_some]
   cases ht:a.tmps[d]? with
   | none=>simp
   | some u=>
    rw [ht] at hu
    simp only [Option.getD_some] at hu
    subst hu
    rfl
  ·cases h
 ·cases h
theorem ur (d:Option Tmp) (p:A):(st.put d p).to st.S=st.put d p:=by cases d<;>rfl
theorem uo {o:Oper} {rest:List Oper} {pv:A} {S':Hp} {j:Nat} {want:Bool} (z:Nat) (hg:o.guard=some (j,want)) (hb:mP ops st j want=some true) (h:C1 P o (st.vK z) st.S S' pv)
  (k:D6 P ro S0 g0 w0 ops Q rest ((st.put o.dst pv).to S')):D6 P ro S0 g0 w0 ops Q (o::rest) st:=by
 intro a w hr
 obtain ⟨g,h0,h1,h2,h3,h4⟩:=hr
 refine wpListIn_step (fun K hK=>?_)
 rw [pR h3 h4 hg hb,if_pos rfl]
 exact h ro g w a K _ h0 (fun x _=>xA h3 h4 z x) (fun v g' w' hv hI hE=>hK _ _ (k _ _ (R.put h1 h2 h3 h4 hv hI hE)))
theorem wq {o:Oper} {rest:List Oper} {j:Nat} {want:Bool} (hg:o.guard=some (j,want)) (hb:mP ops st j want=some false) (k:D6 P ro S0 g0 w0 ops Q rest (st.put o.dst .un)):D6 P ro S0 g0 w0 ops Q (o::rest) st:=by
 intro a w hr
 obtain ⟨g,h0,h1,h2,h3,h4⟩:=hr
 refine wpListIn_step (fun K hK=>?_)
 rw [pR h3 h4 hg hb,if_neg (by simp)]
 exact ⟨fun _ _=>trivial,hK _ _ (k _ _ (by have:=R.put (S':=st.S) (d:=o.dst) h1 h2 h3 h4 .un h0 (.refl _ g w);rwa [ur] at this))⟩
theorem tB {id:Nat} {l:List Oper} (h:D6 P ro S0 g0 w0 l.toArray Q l st):pw P ro S0 g0 w0 (.region id l.toArray false) Q st:=fun a w hr=>wpIn_region_lit (h a w hr)
def andThen (K:St→Prop) (Q:Exit→St→Prop):Exit→St→Prop
 | .normal,st=>K st
 | e,st=>Q e st
theorem uq {x y:Code} (h:pw P ro S0 g0 w0 x (andThen (fun st=>pw P ro S0 g0 w0 y Q st) Q) st):pw P ro S0 g0 w0 (.seq x y) Q st:=fun a w hr=>wpIn_seq (wpIn_mono (h a w hr) (fun e a w hl=>by
 obtain ⟨st,h1,h2⟩:=hl
 cases e with
 | normal=>exact h2 a w h1
 | _=>exact ⟨st,h1,h2⟩))
theorem HK (h:Q .normal st):pw P ro S0 g0 w0 .skip Q st:=fun _ _ hr=>wpIn_skip ⟨st,hr,h⟩
theorem MK (h:Q .ret st):pw P ro S0 g0 w0 .ret Q st:=fun _ _ hr=>wpIn_ret ⟨st,hr,h⟩
theorem HL {id:Nat} (h:Q (.exit id) st):pw P ro S0 g0 w0 (.exit id) Q st:=fun _ _ hr=>wpIn_exit ⟨st,hr,h⟩
theorem Ac {c:Operand} {x y:Code} {b:Bool} (hc:st.vK 0 c = .v (.bool b)) (h1:b=true→pw P ro S0 g0 w0 x Q st) (h2:b=false→pw P ro S0 g0 w0 y Q st):pw P ro S0 g0 w0 (.cond c x y) Q st:=by
 intro a w hr
 have Nn:=hr
 obtain ⟨g,_,_,_,h5,h6⟩:=Nn
 have:=xA h5 h6 0 c
 rw [hc] at this
 exact wpIn_cond_split this.gw (fun h=>h1 h a w hr) (fun h=>h2 h a w hr)
def inBlock (id:Nat) (Q:Exit→St→Prop):Exit→St→Prop
 | .exit Nh,st=>if Nh=id then Q .normal st else Q (.exit Nh) st
 | e,st=>Q e st
theorem rH {id:Nat} {c:Code} (h:pw P ro S0 g0 w0 c (inBlock id Q) st):pw P ro S0 g0 w0 (.block id c) Q st:=fun a w hr=>wpIn_block (wpIn_mono (h a w hr) (fun e a w hl=>by
 obtain ⟨st,h1,h2⟩:=hl
 cases e with
 | exit Nh=>
  simp only [inBlock] at h2
  simp only [Exit.inBlock]
  split at h2
  ·rename_i Fo;rw [if_pos Fo];exact ⟨st,h1,h2⟩
  ·rename_i Fo;rw [if_neg Fo];exact ⟨st,h1,h2⟩
 | _=>exact ⟨st,h1,h2⟩))
theorem g6 {P:Program} {b:Frame} {a:Act} {k:List Item} {cs:List Frame} {w:World} {c:Code}:step P (lone (b.atR a (.code (.scope c)::k)) cs w) = .next (lone (b.atR a (.code c :: .inScope c::k)) cs w):=
 step_lone_go (by simp [stepG,stepG.exec,Frame.atR])
theorem rk {P:Program} {b:Frame} {a:Act} {k:List Item} {cs:List Frame} {w:World} {c:Code}:step P (lone (b.atR a (.inScope c::k)) cs w) = .next (lone (b.atR a k) cs w):=
 step_lone_go (by simp [stepG,stepG.exec,Frame.atR])
def Ur {σ:Type} (Q:Exit→σ→Prop):Exit→σ→Prop
 | .goto _,_=>False
 | e,st=>Q e st
theorem vV {F:Fence} {n:Nat} {P:Program} {Q:Exit→Act→World→Prop} {a:Act} {w:World} {c:Code} (h:c.wpIn F n P (fun e a w=>Ur (fun e (x:Act×World)=>Q e x.1 x.2) e (a,w)) a w):(Code.scope c).wpIn F n P Q a w:=by
 intro b k cs j_ hb hr
 have h0:(lone (b.atR a (.code (.scope c)::k)) cs w).fenced P F:=fenced_calm hb hr rfl
 obtain ⟨e,a₁,w₁,hq,yN⟩:=h b (.inScope c::k) cs j_ hb hr
 cases e with
 | normal=>exact ⟨.normal,a₁,w₁,hq,.head h0 g6 (StepsIn.trans yN (.one (fenced_calm hb hr rfl) rk))⟩
 | exit Nh=>
  have hx:exitTo Nh (.inScope c::k)=exitTo Nh k:=by simp [exitTo]
  exact ⟨.exit Nh,a₁,w₁,hq,fun k' hk=>.head h0 g6 (yN.1 k' (by rw [hx];exact hk)),
   fun Nn hk=>let ⟨k₁,h1,h2⟩:=yN.2 Nn (by rw [hx];exact hk);⟨k₁,h1,.head h0 g6 h2⟩⟩
 | goto l=>exact hq.elim
 | ret=>exact ⟨_,a₁,w₁,hq,.of_steps (.one h0 g6) yN⟩
 | panic ch=>exact ⟨_,a₁,w₁,hq,.of_steps (.one h0 g6) yN⟩
 | outgrown=>exact ⟨_,a₁,w₁,hq,.of_steps (.one h0 g6) yN⟩
theorem D7 {c:Code} (h:pw P ro S0 g0 w0 c (Ur Q) st):pw P ro S0 g0 w0 (.scope c) Q st:=fun a w hr=>vV (wpIn_mono (h a w hr) (fun e a w hl=>by
 obtain ⟨st,h1,h2⟩:=hl
 cases e with
 | goto l=>exact h2.elim
 | _=>exact ⟨st,h1,h2⟩))
theorem D8 {l:Nat} (h:Q .normal st):pw P ro S0 g0 w0 (.label l) Q st:=fun _ _ hr=>wpIn_label ⟨st,hr,h⟩
end
structure Hn (ops:Array Oper) (i:Nat) (L:Nat→Bool):Prop where
 new:L i=false
 lt:∀j,L j=true→j<ops.size
 Je:∀j,dep ops i j=true→L j=true
 down:∀k j,L k=true→dep ops k j=true→L j=true
theorem Hn.UB {ops:Array Oper} {i:Nat} {L:Nat→Bool} (h:Hn ops i L) {j:Nat} (hd:dep ops j i=true):L j=false:=by
 cases hj:L j with
 | false=>rfl
 | true=>have:=h.down j i hj hd;rw [h.new] at this;cases this
def tr (P:Program) (ops:Array Oper) (Sf:(Nat→Bool)→Hp) (i:Nat) (o:Oper) (st:St) (pv:A):Prop:=
 match o.guard with
 | none=>∃z,∀L,Hn ops i L→C1 P o (st.vK z) (Sf L) (Sf (ins L i)) pv
 | some (j,want)=>(mP ops st j want=some true∧∃z,∀L,Hn ops i L→C1 P o (st.vK z) (Sf L) (Sf (ins L i)) pv) ∨
   (mP ops st j want=some false∧(∀g,V g pv undef)∧∀L,Hn ops i L→Sf (ins L i)=Sf L)
def sn (P:Program) (ops:Array Oper) (Sf:(Nat→Bool)→Hp):List Oper→Nat→St→(St→Prop)→Prop
 | [],_,st,K=>K st
 | o::l,i,st,K=>∃pv,tr P ops Sf i o st pv∧sn P ops Sf l (i+1) (st.put o.dst pv) K
def nP (ops:Array Oper) (pv:Nat→A) (st:St):Nat→St
 | 0=>st
 | i+1=>(nP ops pv st i).put (eF ops i) (pv i)
theorem tS {P:Program} {ops:Array Oper} {Sf:(Nat→Bool)→Hp}:∀(l:List Oper) (k:Nat) (zx:St) (D9:Nat→A) (K:St→Prop),(∀j,l[j]?=ops[k+j]?)→sn P ops Sf l k (nP ops D9 zx k) K →
  ∃pv:Nat→A,(∀j,j<k→pv j=D9 j)∧(∀i o,k≤i→ops[i]?=some o→tr P ops Sf i o (nP ops pv zx i) (pv i))∧K (nP ops pv zx (k+l.length))
 | [],k,zx,D9,K,hl,h=>⟨D9,fun _ _=>rfl,fun i o hk ho=>by
   have:=hl (i-k)
   rw [show k+(i-k)=i by omega,ho] at this
   simp at this,h⟩
 | o::l,k,zx,D9,K,hl,h=>by
  obtain ⟨p,h1,h2⟩:=h
  have ho:ops[k]?=some o:=by simpa using (hl 0).symm
  have L3:∀(pv1 Z_:Nat→A) i,(∀j,j<i→pv1 j=Z_ j)→nP ops pv1 zx i=nP ops Z_ zx i:=by
   intro pv1 Z_ i
   induction i with
   | zero=>intro _;rfl
   | succ i ih=>intro hh;simp only [nP];rw [ih (fun j hj=>hh j (by omega)),hh i (by omega)]
  have e1:nP ops (fun j=>if j=k then p else D9 j) zx k=nP ops D9 zx k:=L3 _ _ k (fun j hj=>if_neg (by omega))
  have qL:nP ops (fun j=>if j=k then p else D9 j) zx (k+1)=(nP ops D9 zx k).put o.dst p:=by
   simp only [nP,e1,eF,ho,Option.bind_some,if_true]
  obtain ⟨pv,k1,k2,k3⟩:=tS l (k+1) zx (fun j=>if j=k then p else D9 j) K (fun j=>by have:=hl (j+1);simpa [Nat.add_assoc,Nat.add_comm 1 j] using this) (by rw [qL];exact h2)
  refine ⟨pv,fun j hj=>by rw [k1 j (by omega),if_neg (by omega)],fun i o' hi Fi=>?_,by rw [zR,show k+(l.length+1)=k+1+l.length by omega];exact k3⟩
  by_cases IN:i=k
  ·subst IN
   rw [ho] at Fi
   cases Fi
   rw [show nP ops pv zx i=nP ops D9 zx i from L3 _ _ i (fun j hj=>by rw [k1 j (by omega),if_neg (by omega)]),show pv i=p by rw [k1 i (by omega),if_pos rfl]]
   exact h1
  ·exact k2 i o' (by omega) Fi
theorem vX {ops:Array Oper} {pv:Nat→A} {st:St}:∀i,(nP ops pv st i).n=st.n
 | 0=>rfl
 | i+1=>by
  have ih:=vX (ops:=ops) (pv:=pv) (st:=st) i
  simp only [nP]
  cases eF ops i<;>exact ih
theorem Dv {ops:Array Oper} {pv:Nat→A} {st:St}:∀i,(nP ops pv st i).ds=st.ds
 | 0=>rfl
 | i+1=>by
  have ih:=Dv (ops:=ops) (pv:=pv) (st:=st) i
  simp only [nP]
  cases eF ops i<;>exact ih
theorem oM {ops:Array Oper} {pv:Nat→A} {st:St} {d:Nat}:∀i,(∀j,eF ops j≠some d)→(nP ops pv st i).t d=st.t d
 | 0,_=>rfl
 | i+1,h=>by
  simp only [nP]
  cases hd:eF ops i with
  | none=>exact oM i h
  | some e=>
   simp only [St.put]
   rw [if_neg (fun he=>h i (by rw [hd,he]))]
   exact oM i h
theorem oc {ops:Array Oper} {pv:Nat→A} {st:St} {d w:Nat} (hw:eF ops w=some d) (hu:∀j,eF ops j=some d→j=w):∀i,(nP ops pv st i).t d=if w<i then pv w else st.t d
  | 0=>by simp [nP]
  | i+1=>by
    simp only [nP]
    have ih:=oc (pv:=pv) (st:=st) hw hu i
    cases hd:eF ops i with
    | none=>
      simp only [St.put]
      rw [ih]
      by_cases h:w<i
      · rw [if_pos h,if_pos (by omega)]
      · rw [if_neg h,if_neg (by
                                 intro h2;have:w=i:=by omega
                                 subst this;rw [hw] at hd;cases hd)]
    | some e=>
      simp only [St.put]
      by_cases he:d=e
      · subst he
        have:i=w:=hu i hd
        subst this
        rw [if_pos rfl,if_pos (by omega)]
      · rw [if_neg he,ih]
        by_cases h:w<i
        · rw [if_pos h,if_pos (by omega)]
        · rw [if_neg h,if_neg (by
                                   intro h2;have:w=i:=by omega
                                   subst this;rw [hw] at hd;cases hd;exact he rfl)]
section
variable {P:Program} {ro:Option Nat} {S0:Hp} {g0:G} {w0:World} {Q:Exit→St→Prop} {st:St}
theorem kB {ops:Array Oper} (h:X8 ops=true) {i:Nat} {o:Oper} (ho:ops[i]?=some o) :
  (∀e∈o.after,Region.binds .any e=true→e.on<i)∧(∀j d,j≠i→eF ops j=some d→o.dst≠some d∧(d∈o.looksAt ops→dep ops i j=true∨dep ops j i=true)):=by
 have hi:i<ops.size:=(Array.getElem?_eq_some_iff.1 ho).1
 simp only [X8,List.all_eq_true,List.mem_range] at h
 have h1:=h i hi
 simp only [ho,zC] at h1
 refine ⟨fun e he hb=>?_,fun j d hj hd=>?_⟩
 ·have:=Array.all_eq_true_iff_forall_mem.1 h1.1 e he
  simpa [hb] using this
 ·have hjs:j<ops.size:=by
   rcases Nat.lt_or_ge j ops.size with h | h
   ·exact h
   ·simp [eF,Array.getElem?_eq_none h] at hd
  have h2:=h1.2
  rw [List.all_eq_true] at h2
  have h3:=h2 j (List.mem_range.2 hjs)
  simp only [hd,Bool.or_eq_true,beq_iff_eq,hj,false_or,zC,bne_iff_ne,ne_eq] at h3
  refine ⟨h3.1,fun hm=>?_⟩
  rcases h3.2 with (h4 | h4) | h4
  ·simp [hm] at h4
  ·exact .inl h4
  ·exact .inr h4
structure Fr (ops:Array Oper) (pv:Nat→A) (st:St) (L:Nat→Bool) (g:G) (a:Act):Prop where
 size:a.tmps.size=st.n
 none:∀d,d<st.n→(∀j,eF ops j≠some d)→V g (st.t d) (a.tmps.getD d undef)
 some:∀d w,d<st.n→eF ops w=some d→V g (if L w=true then pv w else st.t d) (a.tmps.getD d undef)
theorem yR {ops:Array Oper} {s1 s2:St} {j:Nat} {want:Bool} (h:∀d,eF ops j=some d→s1.vK 0 (.tmp d)=s2.vK 0 (.tmp d)):mP ops s1 j want=mP ops s2 j want:=by
 unfold mP
 cases hd:(ops[j]?).bind (·.dst) with
 | none=>rfl
 | some d=>simp only [h d hd]
theorem F4 {ops:Array Oper} {Sf:(Nat→Bool)→Hp} {pv:Nat→A} (hc:X8 ops=true) (UN:∀i o,ops[i]?=some o→tr P ops Sf i o (nP ops pv st i) (pv i))
    (hQ:Q .normal ((nP ops pv st ops.size).to (Sf fun j=>decide (j<ops.size)))) :
    ∀(fuel:Nat) (listed:Array Bool) (a:Act) (w:World) (g:G),listed.size=ops.size→(ops.size≤fuel+(List.range ops.size).countP fun j=>listed.getD j false) →
      (∀k j,listed.getD k false=true→dep ops k j=true→listed.getD j false=true)→Inv g (Sf fun j=>listed.getD j false) w→Ext S0 g0 w0 (Sf fun j=>listed.getD j false) g w→n9 g st.ds a.defers→Fr ops pv st (fun j=>listed.getD j false) g a →
      wpAnyIn (FR ro) 0 P .any ops (lift S0 g0 w0 Q) fuel listed a w:=by
  have fin:∀(listed:Array Bool) (a:Act) (w:World) (g:G),listed.size=ops.size→(∀k,k<ops.size→listed.getD k false=true)→Inv g (Sf fun j=>listed.getD j false) w→Ext S0 g0 w0 (Sf fun j=>listed.getD j false) g w→n9 g st.ds a.defers →
      Fr ops pv st (fun j=>listed.getD j false) g a→lift S0 g0 w0 Q .normal a w:=by
    intro listed a w g Ns jk hI hE hd hF
    have hL:(fun j=>listed.getD j false)=fun j=>decide (j<ops.size):=by
      funext j
      by_cases hj:j<ops.size
      · rw [jk j hj];simp [hj]
      · rw [show listed.getD j false=false by simp [Array.getD,show ¬j<listed.size by omega]];simp [hj]
    rw [hL] at hI hE
    refine ⟨(nP ops pv st ops.size).to (Sf fun j=>decide (j<ops.size)),⟨g,hI,hE,by show n9 g (nP ops pv st ops.size).ds a.defers;rw [Dv];exact hd,by rw [hF.size];exact (vX _).symm,fun d tM=>?_⟩,hQ⟩
    have Vj:d<st.n:=by have h:=tM;simp only [St.to,vX] at h;exact h
    show V g ((nP ops pv st ops.size).t d) _
    by_cases hw:∃w,eF ops w=some d
    · obtain ⟨u,hu⟩:=hw
      have C9:u<ops.size:=by
        rcases Nat.lt_or_ge u ops.size with h | h
        · exact h
        · simp [eF,Array.getElem?_eq_none h] at hu
      have E6:∀j,eF ops j=some d→j=u:=fun j hj=>by
        rcases Nat.lt_or_ge j ops.size with h | h
        · by_cases Vc:j=u
          · exact Vc
          · have:=(kB hc (i:=j) (o:=ops[j]) (by simp [h])).2 u d (fun e=>Vc e.symm) hu
            exact absurd (by simpa [eF,h] using hj) this.1
        · simp [eF,Array.getElem?_eq_none h] at hj
      rw [oc hu E6,if_pos C9]
      have:=hF.some d u Vj hu
      rwa [if_pos (jk u C9)] at this
    · have Hc:∀j,eF ops j≠some d:=fun j hj=>hw ⟨j,hj⟩
      rw [oM _ Hc]
      exact hF.none d Vj Hc
  have BK:∀(listed:Array Bool),listed.size=ops.size→Region.ready .any ops listed=[]→∀k,k<ops.size→listed.getD k false=true:=by
    intro listed Ns hr k
    induction k using Nat.strongRecOn with
    | _ k ih=>
      intro hk
      cases hx:listed.getD k false with
      | true=>rfl
      | false=>
        have:k∈Region.ready .any ops listed:=mem_ready.2 ⟨by
          have eO:k<listed.size:=by omega
          simpa [Array.getD,eO] using hx,ops[k],by simp [hk],fun e he hb=>?_⟩
        · rw [hr] at this;cases this
        · have:=(kB hc (i:=k) (o:=ops[k]) (by simp [hk])).1 e he hb
          exact ih e.on this (by omega)
  intro fuel
  induction fuel with
  | zero=>
    intro listed a w g Ns abk Fu hI hE hd hF
    have jk:∀k,k<ops.size→listed.getD k false=true:=by
      have h1:(List.range ops.size).countP (fun j=>listed.getD j false)=(List.range ops.size).length:=by
        have:=List.countP_le_length (p:=fun j=>listed.getD j false) (l:=List.range ops.size)
        simp only [List.length_range] at this ⊢
        omega
      have:=List.countP_eq_length.1 h1
      exact fun k hk=>this k (List.mem_range.2 hk)
    refine ⟨?_,fin listed a w g Ns jk hI hE hd hF⟩
    cases hr:Region.ready .any ops listed with
    | nil=>rfl
    | cons k r=>
      have hk:k∈Region.ready .any ops listed:=by rw [hr];exact zV ..
      obtain ⟨h1,o,ho,_⟩:=mem_ready.1 hk
      have hks:=(Array.getElem?_eq_some_iff.1 ho).1
      have:=jk k hks
      have eO:k<listed.size:=by omega
      simp [Array.getD,eO] at h1 this
      rw [h1] at this;cases this
  | succ fuel ih=>
    intro listed a w g Ns abk Fu hI hE hd hF
    refine ⟨fun hr=>fin listed a w g Ns (BK listed Ns hr) hI hE hd hF,fun i hi=>?_⟩
    obtain ⟨h1,o,ho,h2⟩:=mem_ready.1 hi
    have his:i<ops.size:=(Array.getElem?_eq_some_iff.1 ho).1
    have eO:i<listed.size:=by omega
    have Fj:listed.getD i false=false:=by simpa [Array.getD,eO] using h1
    have yO:Hn ops i (fun j=>listed.getD j false):=⟨Fj,fun j hj=>by
      rcases Nat.lt_or_ge j listed.size with h | h
      · omega
      · simp [Array.getD,Nat.not_lt.2 h] at hj,fun j hj=>by
      simp only [dep,ho] at hj
      obtain ⟨e,he,hb⟩:=Array.any_eq_true'.1 hj
      simp only [zC,beq_iff_eq] at hb
      rw [←hb.2]
      exact h2 e he hb.1,Fu⟩
    have tN:(fun j=>(listed.setIfInBounds i true).getD j false)=ins (fun j=>listed.getD j false) i:=by
      funext j
      by_cases hji:j=i
      · subst hji;simp [ins,eO]
      · simp only [ins]
        rw [getD_set_ne false (fun h=>hji h.symm)]
        simp [hji]
    have LU:∀d,d∈o.looksAt ops→d<st.n→V g ((nP ops pv st i).t d) (a.tmps.getD d undef):=by
      intro d hdl tM
      by_cases hw:∃w,eF ops w=some d
      · obtain ⟨u,hu⟩:=hw
        have E6:∀j,eF ops j=some d→j=u:=fun j hj=>by
          rcases Nat.lt_or_ge j ops.size with h | h
          · by_cases Vc:j=u
            · exact Vc
            · have:=(kB hc (i:=j) (o:=ops[j]) (by simp [h])).2 u d (fun e=>Vc e.symm) hu
              exact absurd (by simpa [eF,h] using hj) this.1
          · simp [eF,Array.getElem?_eq_none h] at hj
        have hv:=hF.some d u tM hu
        rw [oc hu E6]
        by_cases OP:u=i
        · subst OP
          rw [if_neg (Nat.lt_irrefl _)]
          rwa [if_neg (by simp only [Fj];simp)] at hv
        · rcases ((kB hc ho).2 u d OP hu).2 hdl with h | h
          · have hLu:=yO.Je u h
            have Cw:u<i:=by
              simp only [dep,ho] at h
              obtain ⟨e,he,hb⟩:=Array.any_eq_true'.1 h
              simp only [zC,beq_iff_eq] at hb
              rw [←hb.2];exact (kB hc ho).1 e he hb.1
            rw [if_pos Cw]
            rwa [if_pos hLu] at hv
          · have hLu:=yO.UB h
            have C9:u<ops.size:=by
              rcases Nat.lt_or_ge u ops.size with h | h
              · exact h
              · simp [eF,Array.getElem?_eq_none h] at hu
            have Cw:i<u:=by
              simp only [dep,show ops[u]?=some ops[u] by simp [C9]] at h
              obtain ⟨e,he,hb⟩:=Array.any_eq_true'.1 h
              simp only [zC,beq_iff_eq] at hb
              rw [←hb.2];exact (kB hc (i:=u) (o:=ops[u]) (by simp [C9])).1 e he hb.1
            rw [if_neg (by omega)]
            rwa [if_neg (by rw [hLu];simp)] at hv
      · have Hc:∀j,eF ops j≠some d:=fun j hj=>hw ⟨j,hj⟩
        rw [oM _ Hc]
        exact hF.none d tM Hc
    have oA:∀z,∀x∈o.op.operands,V g ((nP ops pv st i).vK z x) (a.eval x):=by
      intro z x hx
      cases x with
      | tmp t=>
        simp only [St.vK,Act.eval,vX]
        split
        · refine LU t ?_ (by assumption)
          exact zQ _ (List.mem_filterMap.2 ⟨.tmp t,by simpa using hx,rfl⟩)
        · exact .cG _
      | const v=>exact .v v
      | global _=>exact .cG _
      | func f=>exact .fn f [] [] #[] #[] rfl rfl (by simp) (by simp)
    have next:∀v g' w',V g' (pv i) v→Inv g' (Sf (ins (fun j=>listed.getD j false) i)) w'→Ext (Sf fun j=>listed.getD j false) g w (Sf (ins (fun j=>listed.getD j false) i)) g' w'→wpAnyIn (FR ro) 0 P .any ops (lift S0 g0 w0 Q) fuel (listed.setIfInBounds i true) (a.put o.dst v) w':=by
      intro v g' w' hv Hj IU
      refine ih (listed.setIfInBounds i true) (a.put o.dst v) w' g' (by simp [Ns]) ?_ ?_ (by rw [tN];exact Hj) (by rw [tN];exact hE.trans IU) (by rw [sq];exact hd.mono IU.le) ?_
      · rw [show (fun j=>(listed.setIfInBounds i true).getD j false)=ins (fun j=>listed.getD j false) i from tN]
        have abj:(List.range ops.size).countP (fun j=>listed.getD j false)<(List.range ops.size).countP (ins (fun j=>listed.getD j false) i):=by
          have hle:∀(l:List Nat),l.countP (fun j=>listed.getD j false)≤l.countP (ins (fun j=>listed.getD j false) i):=fun l=>List.countP_mono_left (fun j _ hj=>by simp only [ins];rw [Bool.or_eq_true];exact .inr hj)
          have IG:∀(l:List Nat),i∈l→l.countP (fun j=>listed.getD j false)<l.countP (ins (fun j=>listed.getD j false) i):=by
            intro l
            induction l with
            | nil=>intro h;cases h
            | cons x l ihl=>
              intro hm
              simp only [List.countP_cons]
              by_cases UK:x=i
              · subst UK
                have:=hle l
                have e1:(if (fun j=>listed.getD j false) x=true then 1 else 0)=0:=if_neg (by simp only [Fj];simp)
                have e2:(if ins (fun j=>listed.getD j false) x x=true then 1 else 0)=1:=if_pos (by simp [ins])
                have h3:=Nat.lt_succ_of_le this
                simp only at e1
                rw [e2,e1]
                exact h3
              · have:=ihl (by
                                rcases List.mem_cons.1 hm with h | h
                                · exact absurd h.symm UK
                                · exact h)
                have e:ins (fun j=>listed.getD j false) i x=listed.getD x false:=by simp [ins,UK]
                rw [e]
                exact Nat.add_lt_add_right this _
          exact IG _ (List.mem_range.2 his)
        omega
      · intro k j hk hkj
        have Hd:ins (fun j=>listed.getD j false) i k=true:=by rw [←tN];exact hk
        have:ins (fun j=>listed.getD j false) i j=true:=by
          simp only [ins,Bool.or_eq_true,beq_iff_eq] at Hd ⊢
          rcases Hd with rfl | Hd
          · exact .inr (yO.Je j hkj)
          · exact .inr (Fu k j Hd hkj)
        rw [←tN] at this;exact this
      · rw [tN]
        refine ⟨by rw [vZ];exact hF.size,fun d tM Hc=>?_,fun d u tM hu=>?_⟩
        · have lf:o.dst≠some d:=fun h=>Hc i (by simp [eF,ho,h])
          have:(a.put o.dst v).tmps.getD d undef=a.tmps.getD d undef:=by
            cases Ft:o.dst with
            | none=>rfl
            | some e=>
              simp only [Act.put,Array.getD_eq_getD_getElem?]
              rw [Array.getElem?_setIfInBounds_ne (fun h=>lf (by rw [Ft,h]))]
          rw [this];exact (hF.none d tM Hc).mono IU.le
        · by_cases OP:u=i
          · subst OP
            have Ft:o.dst=some d:=by simpa [eF,ho] using hu
            have Cw:d<a.tmps.size:=by rw [hF.size];exact tM
            rw [show (a.put o.dst v).tmps.getD d undef=v by simp [Ft,Act.put,Array.getD,Cw]]
            simp only [ins,beq_self_eq_true,Bool.true_or,if_true]
            exact hv
          · have lf:o.dst≠some d:=((kB hc ho).2 u d OP hu).1
            have:(a.put o.dst v).tmps.getD d undef=a.tmps.getD d undef:=by
              cases Ft:o.dst with
              | none=>rfl
              | some e=>
                simp only [Act.put,Array.getD_eq_getD_getElem?]
                rw [Array.getElem?_setIfInBounds_ne (fun h=>lf (by rw [Ft,h]))]
            rw [this]
            have:=(hF.some d u tM hu).mono IU.le
            simpa [ins,OP] using this
    have hgv:∀j want b,o.guard=some (j,want)→mP ops (nP ops pv st i) j want=some b→Region.wanted o (yielded ops a.tmps)=b:=by
      intro j want b hg hb
      refine pR (st:={ t:=fun d=>if eF ops j=some d then (nP ops pv st i).t d else .cG,n:=st.n,ds:=st.ds,S:=st.S }) (g:=g) hF.size (fun d tM=>?_) hg ?_
      · show V g (if eF ops j=some d then _ else _) _
        split
        · rename_i hj
          refine LU d ?_ tM
          unfold Oper.looksAt
          refine zS _ ?_
          simp only [hg]
          simp only [eF] at hj
          rw [hj];simp
        · exact .cG _
      · rw [←hb]
        refine yR (fun d hj=>?_)
        simp only [St.vK,vX]
        split
        · first | rfl | simp [hj]
        · rfl
    have hs:=UN i o ho
    unfold wpOpIn
    simp only [ho]
    unfold tr at hs
    cases hg:o.guard with
    | none=>
      rw [hg] at hs
      obtain ⟨z,hs⟩:=hs
      rw [if_pos (by simp [Region.wanted,hg])]
      exact hs _ yO ro g w a _ _ hI (oA z) next
    | some jw=>
      obtain ⟨j,want⟩:=jw
      rw [hg] at hs
      rcases hs with ⟨hb,z,hs⟩ | ⟨hb,hp,hs⟩
      · rw [if_pos (hgv j want true hg hb)]
        exact hs _ yO ro g w a _ _ hI (oA z) next
      · rw [if_neg (by rw [hgv j want false hg hb];simp)]
        exact ⟨fun _ _=>trivial,next undef g w (hp g) (by rw [hs _ yO];exact hI) (by rw [hs _ yO];exact .refl _ g w)⟩
theorem HM {id:Nat} {l:List Oper} (Sf:(Nat→Bool)→Hp) (hm:P.follows .mixedOrders=true) (hc:X8 l.toArray=true) (h0:Sf (fun _=>false)=st.S)
  (h:sn P l.toArray Sf l 0 st (fun st'=>Q .normal (st'.to (Sf fun j=>decide (j<l.length))))):pw P ro S0 g0 w0 (.region id l.toArray true) Q st:=by
 intro a w hr
 obtain ⟨g,hI,hE,hd,hs,hv⟩:=hr
 obtain ⟨pv,_,h2,h3⟩:=tS (ops:=l.toArray) l 0 st (fun _=>.cG) _ (fun j=>by simp) h
 refine wpIn_region_any hm ?_
 have Y5:(fun j=>(Array.replicate l.toArray.size false).getD j false)=fun _=>false:=by
  funext j
  by_cases hj:j<l.length<;>simp [Array.getD,hj]
 refine F4 (pv:=pv) hc (fun i o ho=>h2 i o (Nat.zero_le _) ho) (by simpa using h3) _ _ a w.drew g (by simp) (by omega) (fun k j hk _=>?_) (by rw [Y5,h0];exact hI.drew) (by rw [Y5,h0];exact hE.trans (.drew _ g w)) hd ⟨hs,fun d tM _=>hv d tM,fun d u tM _=>?_⟩
 ·have:=congrFun Y5 k
  rw [this] at hk;cases hk
 ·have:=congrFun Y5 u
  simp only [this]
  exact hv d tM
end
end
set_option linter.unusedVariables false
set_option linter.unusedSimpArgs false
section
open Go.RowKit
structure Sg where
 t:Ty
 x:t.T
def oB:List Sp→(t:Ty)→t.T→Option Sg
 | [],t,x=>some ⟨t,x⟩
 | .fst::π,.pair a b,x=>oB π a x.1
 | .snd c::π,.pair a b,x=>bif Nat.beq c a.size then oB π b x.2 else none
 | .ai i n z::π,.arr n' t,l=>bif Nat.beq n n' && Nat.beq z t.size then oB π t (nth t.cQ l i) else none
 | _,_,_=>none
def fR (a b:Ty) (x:a.T):Option b.T:=if h:a=b then some (h▸x) else none
theorem cr {a b:Ty} {x:a.T} {y:b.T} (h:fR a b x=some y):∃e:a=b,e▸x=y:=by
 unfold fR at h
 split at h
 ·rename_i e;exact ⟨e,Option.some.inj h⟩
 ·cases h
def qF (u:Ty) (y:u.T):List Sp→(t:Ty)→t.T→Option t.T
 | [],t,_=>fR u t y
 | .fst::π,.pair a b,x=>match qF u y π a x.1 with
  | some z=>some (z,x.2)
  | none=>none
 | .snd c::π,.pair a b,x=>bif Nat.beq c a.size then (match qF u y π b x.2 with
  | some z=>some (x.1,z)
  | none=>none) else none
 | .ai i n z::π,.arr n' t,l=>bif Nat.beq n n' && Nat.beq z t.size then (match qF u y π t (nth t.cQ l i) with
  | some v=>some (vq t.cQ l i v)
  | none=>none) else none
 | _,_,_=>none
theorem beq_eq {a b:Nat} (h:Nat.beq a b=true):a=b:=Nat.eq_of_beq_eq_true h
theorem af {α:Type} {c:Bool} {x:Option α} {r:α} (h:(bif c then x else none)=some r):c=true∧x=some r:=by
 cases c with
 | true=>exact ⟨rfl,h⟩
 | false=>cases h
theorem ql (t:Ty) (n:Nat) (l:List t.T) {i:Nat} (hi:i<n):∃a c,aA (.arr n t) l=a++(aA t (nth t.cQ l i)++c)∧a.length=i*t.size∧a=(List.range i).flatMap (fun k=>aA t (nth t.cQ l k))∧c=((List.range n).drop (i+1)).flatMap (fun k=>aA t (nth t.cQ l k)):=by
 have hr:List.range n=List.range i++(i::(List.range n).drop (i+1)):=by
  have h1:=(zP i (List.range n)).symm
  rw [List.take_range,Nat.min_eq_left (Nat.le_of_lt hi),List.drop_eq_getElem_cons (by simpa using hi)] at h1
  simpa using h1
 refine ⟨_,_,?_,?_,rfl,rfl⟩
 ·show (List.range n).flatMap _=_
  conv=>lhs;rw [hr]
  rw [List.flatMap_append,List.flatMap_cons]
 ·have:=pG (f:=aA t) (d:=t.cQ) (bI t) i l
  exact this
theorem pq:∀(π:List Sp) (t:Ty) (x:t.T) (s:Nat) (r:Sg),oB π t x=some r→Df s π→∃a c,aA t x=a++(aA r.t r.x++c)∧a.length=dE π
 | [],t,x,s,r,h,_=>by cases h;exact ⟨[],[],by simp,rfl⟩
 | .fst::π,.pair a b,x,s,r,h,hk=>by
  obtain ⟨p,c,e1,e2⟩:=pq π a x.1 s r h hk
  exact ⟨p,c++aA b x.2,by show aA a x.1++aA b x.2=_;rw [e1];simp,e2⟩
 | .snd k::π,.pair a b,x,s,r,h,hk=>by
  obtain ⟨hc,h2⟩:=af (show (bif Nat.beq k a.size then oB π b x.2 else none)=some r from h)
  obtain ⟨p,c,e1,e2⟩:=pq π b x.2 s r h2 hk
  refine ⟨aA a x.1++p,c,by show aA a x.1++aA b x.2=_;rw [e1];simp,?_⟩
  rw [zY,bI,e2,beq_eq hc];rfl
 | .ai i n z::π,.arr n' t,l,s,r,h,hk=>by
  obtain ⟨hc,h2⟩:=af (show (bif Nat.beq n n' && Nat.beq z t.size then oB π t (nth t.cQ l i) else none)=some r from h)
  simp only [zC] at hc
  obtain rfl:=beq_eq hc.1
  obtain rfl:=beq_eq hc.2
  obtain ⟨p,c,e1,e2⟩:=pq π t _ s r h2 hk.2
  obtain ⟨a,d,k1,k2,_⟩:=ql t n l hk.1
  refine ⟨a++p,c++d,by rw [k1,e1];simp,?_⟩
  rw [zY,k2,e2];rfl
 | .fst::_,.int _,_,_,_,h,_=>by cases h
 | .fst::_,.bool,_,_,_,h,_=>by cases h
 | .fst::_,.unit,_,_,_,h,_=>by cases h
 | .fst::_,.arr _ _,_,_,_,h,_=>by cases h
 | .fst::_,.aF _,_,_,_,h,_=>by cases h
 | .fst::_,.ptr _,_,_,_,h,_=>by cases h
 | .fst::_,.cY _,_,_,_,h,_=>by cases h
 | .fst::_,.je _ _,_,_,_,h,_=>by cases h
 | .fst::_,.pM _ _,_,_,_,h,_=>by cases h
 | .fst::_,.mp _,_,_,_,h,_=>by cases h
 | .snd _::_,.int _,_,_,_,h,_=>by cases h
 | .snd _::_,.bool,_,_,_,h,_=>by cases h
 | .snd _::_,.unit,_,_,_,h,_=>by cases h
 | .snd _::_,.arr _ _,_,_,_,h,_=>by cases h
 | .snd _::_,.aF _,_,_,_,h,_=>by cases h
 | .snd _::_,.ptr _,_,_,_,h,_=>by cases h
 | .snd _::_,.cY _,_,_,_,h,_=>by cases h
 | .snd _::_,.je _ _,_,_,_,h,_=>by cases h
 | .snd _::_,.pM _ _,_,_,_,h,_=>by cases h
 | .snd _::_,.mp _,_,_,_,h,_=>by cases h
 | .ai _ _ _::_,.int _,_,_,_,h,_=>by cases h
 | .ai _ _ _::_,.bool,_,_,_,h,_=>by cases h
 | .ai _ _ _::_,.unit,_,_,_,h,_=>by cases h
 | .ai _ _ _::_,.pair _ _,_,_,_,h,_=>by cases h
 | .ai _ _ _::_,.aF _,_,_,_,h,_=>by cases h
 | .ai _ _ _::_,.ptr _,_,_,_,h,_=>by cases h
 | .ai _ _ _::_,.cY _,_,_,_,h,_=>by cases h
 | .ai _ _ _::_,.je _ _,_,_,_,h,_=>by cases h
 | .ai _ _ _::_,.pM _ _,_,_,_,h,_=>by cases h
 | .ai _ _ _::_,.mp _,_,_,_,h,_=>by cases h
 | .ix _ _::_,_,_,_,_,h,_=>by simp [oB] at h
theorem zl (t:Ty) (n:Nat) (l:List t.T) {i:Nat} (hi:i<n):∃a c,dh (.arr n t) l=a++(dh t (nth t.cQ l i)++c)∧a.length=i*t.size∧a=(List.range i).flatMap (fun k=>dh t (nth t.cQ l k))∧c=((List.range n).drop (i+1)).flatMap (fun k=>dh t (nth t.cQ l k)):=by
 have hr:List.range n=List.range i++(i::(List.range n).drop (i+1)):=by
  have h1:=(zP i (List.range n)).symm
  rw [List.take_range,Nat.min_eq_left (Nat.le_of_lt hi),List.drop_eq_getElem_cons (by simpa using hi)] at h1
  simpa using h1
 refine ⟨_,_,?_,?_,rfl,rfl⟩
 ·show (List.range n).flatMap _=_
  conv=>lhs;rw [hr]
  rw [List.flatMap_append,List.flatMap_cons]
 ·have:=pG (f:=dh t) (d:=t.cQ) (dY t) i l
  exact this
theorem mQ:∀(π:List Sp) (t:Ty) (x:t.T) (s:Nat) (r:Sg),oB π t x=some r→Df s π→∃a c,dh t x=a++(dh r.t r.x++c)∧a.length=dE π
 | [],t,x,s,r,h,_=>by cases h;exact ⟨[],[],by simp,rfl⟩
 | .fst::π,.pair a b,x,s,r,h,hk=>by
  obtain ⟨p,c,e1,e2⟩:=mQ π a x.1 s r h hk
  exact ⟨p,c++dh b x.2,by show dh a x.1++dh b x.2=_;rw [e1];simp,e2⟩
 | .snd k::π,.pair a b,x,s,r,h,hk=>by
  obtain ⟨hc,h2⟩:=af (show (bif Nat.beq k a.size then oB π b x.2 else none)=some r from h)
  obtain ⟨p,c,e1,e2⟩:=mQ π b x.2 s r h2 hk
  refine ⟨dh a x.1++p,c,by show dh a x.1++dh b x.2=_;rw [e1];simp,?_⟩
  rw [zY,dY,e2,beq_eq hc];rfl
 | .ai i n z::π,.arr n' t,l,s,r,h,hk=>by
  obtain ⟨hc,h2⟩:=af (show (bif Nat.beq n n' && Nat.beq z t.size then oB π t (nth t.cQ l i) else none)=some r from h)
  simp only [zC] at hc
  obtain rfl:=beq_eq hc.1
  obtain rfl:=beq_eq hc.2
  obtain ⟨p,c,e1,e2⟩:=mQ π t _ s r h2 hk.2
  obtain ⟨a,d,k1,k2,_⟩:=zl t n l hk.1
  refine ⟨a++p,c++d,by rw [k1,e1];simp,?_⟩
  rw [zY,k2,e2];rfl
 | .fst::_,.int _,_,_,_,h,_=>by cases h
 | .fst::_,.bool,_,_,_,h,_=>by cases h
 | .fst::_,.unit,_,_,_,h,_=>by cases h
 | .fst::_,.arr _ _,_,_,_,h,_=>by cases h
 | .fst::_,.aF _,_,_,_,h,_=>by cases h
 | .fst::_,.ptr _,_,_,_,h,_=>by cases h
 | .fst::_,.cY _,_,_,_,h,_=>by cases h
 | .fst::_,.je _ _,_,_,_,h,_=>by cases h
 | .fst::_,.pM _ _,_,_,_,h,_=>by cases h
 | .fst::_,.mp _,_,_,_,h,_=>by cases h
 | .snd _::_,.int _,_,_,_,h,_=>by cases h
 | .snd _::_,.bool,_,_,_,h,_=>by cases h
 | .snd _::_,.unit,_,_,_,h,_=>by cases h
 | .snd _::_,.arr _ _,_,_,_,h,_=>by cases h
 | .snd _::_,.aF _,_,_,_,h,_=>by cases h
 | .snd _::_,.ptr _,_,_,_,h,_=>by cases h
 | .snd _::_,.cY _,_,_,_,h,_=>by cases h
 | .snd _::_,.je _ _,_,_,_,h,_=>by cases h
 | .snd _::_,.pM _ _,_,_,_,h,_=>by cases h
 | .snd _::_,.mp _,_,_,_,h,_=>by cases h
 | .ai _ _ _::_,.int _,_,_,_,h,_=>by cases h
 | .ai _ _ _::_,.bool,_,_,_,h,_=>by cases h
 | .ai _ _ _::_,.unit,_,_,_,h,_=>by cases h
 | .ai _ _ _::_,.pair _ _,_,_,_,h,_=>by cases h
 | .ai _ _ _::_,.aF _,_,_,_,h,_=>by cases h
 | .ai _ _ _::_,.ptr _,_,_,_,h,_=>by cases h
 | .ai _ _ _::_,.cY _,_,_,_,h,_=>by cases h
 | .ai _ _ _::_,.je _ _,_,_,_,h,_=>by cases h
 | .ai _ _ _::_,.pM _ _,_,_,_,h,_=>by cases h
 | .ai _ _ _::_,.mp _,_,_,_,h,_=>by cases h
 | .ix _ _::_,_,_,_,_,h,_=>by simp [oB] at h
theorem uv {a b c ps:List A} {k:Nat} (h:k+ps.length≤b.length):put (a++(b++c)) (a.length+k) ps=a++(put b k ps++c):=by
 unfold put
 rw [List.take_append,za (by omega),Nat.add_sub_cancel_left,List.take_append_of_le_length (by omega)]
 rw [List.drop_append,List.drop_eq_nil_of_le (by omega),List.nil_append,show a.length+k+ps.length-a.length=k+ps.length by omega,List.drop_append_of_le_length h]
 simp
theorem oR (u:Ty) (y:u.T):∀(π:List Sp) (t:Ty) (x x':t.T) (s:Nat),qF u y π t x=some x'→Df s π→aA t x'=put (aA t x) (dE π) (aA u y)∧dE π+u.size≤t.size
 | [],t,x,x',s,h,_=>by
  obtain ⟨rfl,rfl⟩:=cr (show fR u t y=some x' from h)
  refine ⟨?_,by simp [dE]⟩
  unfold put
  rw [show dE []=0 from rfl,List.take_zero,List.nil_append,Nat.zero_add,bI,List.drop_eq_nil_of_le (by rw [bI];exact Nat.le_refl _),List.append_nil]
 | .fst::π,.pair a b,x,x',s,h,hk=>by
  have h:(match qF u y π a x.1 with | some z=>some (z,x.2) | none=>none)=some x':=h
  split at h
  ·rename_i z hz
   cases h
   obtain ⟨e1,e2⟩:=oR u y π a x.1 z s hz hk
   refine ⟨?_,by show _≤a.size+b.size;have:dE (.fst::π)=dE π:=rfl;omega⟩
   show aA a z++aA b x.2=put (aA a x.1++aA b x.2) (dE π) (aA u y)
   rw [e1]
   have:=uv (a:=[]) (b:=aA a x.1) (c:=aA b x.2) (ps:=aA u y) (k:=dE π) (by rw [bI,bI];exact e2)
   simpa using this.symm
  ·cases h
 | .snd k::π,.pair a b,x,x',s,h,hk=>by
  obtain ⟨hc,h2⟩:=af (show (bif Nat.beq k a.size then (match qF u y π b x.2 with | some z=>some (x.1,z) | none=>none) else none)=some x' from h)
  obtain rfl:=beq_eq hc
  cases hz:qF u y π b x.2 with
  | none=>rw [hz] at h2;cases h2
  | some z=>
   rw [hz] at h2;cases h2
   obtain ⟨e1,e2⟩:=oR u y π b x.2 z s hz hk
   refine ⟨?_,by show a.size+dE π+u.size≤a.size+b.size;omega⟩
   show aA a x.1++aA b z=put (aA a x.1++aA b x.2) (a.size+dE π) (aA u y)
   have:=uv (a:=aA a x.1) (b:=aA b x.2) (c:=[]) (ps:=aA u y) (k:=dE π) (by rw [bI,bI];exact e2)
   rw [bI] at this
   simp only [List.append_nil] at this
   rw [this,e1]
 | .ai i n z::π,.arr n' t,l,x',s,h,hk=>by
  obtain ⟨hc,h2⟩:=af (show (bif Nat.beq n n' && Nat.beq z t.size then (match qF u y π t (nth t.cQ l i) with | some v=>some (vq t.cQ l i v) | none=>none) else none)=some x' from h)
  simp only [zC] at hc
  obtain rfl:=beq_eq hc.1
  obtain rfl:=beq_eq hc.2
  cases hv:qF u y π t (nth t.cQ l i) with
  | none=>rw [hv] at h2;cases h2
  | some v=>
   rw [hv] at h2;cases h2
   obtain ⟨e1,e2⟩:=oR u y π t _ v s hv hk.2
   obtain ⟨a,d,k1,k2,k3,k4⟩:=ql t n l hk.1
   obtain ⟨a',d',q1,q2,q3,q4⟩:=ql t n (vq t.cQ l i v) hk.1
   have hn:∀k,nth t.cQ (vq t.cQ l i v) k=if k=i then v else nth t.cQ l k:=fun k=>Gu
   have ha:a'=a:=by
    rw [q3,k3]
    have:∀m:List Nat,(∀k∈m,k≠i)→m.flatMap (fun k=>aA t (nth t.cQ (vq t.cQ l i v) k))=m.flatMap (fun k=>aA t (nth t.cQ l k)):=fun m=>by
     induction m with
     | nil=>intro _;rfl
     | cons j m ih=>intro hm;simp only [List.flatMap_cons];rw [ih (fun k hk=>hm k (zT _ hk)),hn,if_neg (hm j (zV ..))]
    exact this _ (fun k hk=>by have:=List.mem_range.1 hk;omega)
   have hd:d'=d:=by
    rw [q4,k4]
    have:∀m:List Nat,(∀k∈m,k≠i)→m.flatMap (fun k=>aA t (nth t.cQ (vq t.cQ l i v) k))=m.flatMap (fun k=>aA t (nth t.cQ l k)):=fun m=>by
     induction m with
     | nil=>intro _;rfl
     | cons j m ih=>intro hm;simp only [List.flatMap_cons];rw [ih (fun k hk=>hm k (zT _ hk)),hn,if_neg (hm j (zV ..))]
    refine this _ (fun k hk=>?_)
    obtain ⟨j,hj,rfl⟩:=List.getElem_of_mem hk
    simp at hj ⊢;omega
   have pa:i*t.size+t.size≤n*t.size:=by
    have:=zW t.size (show i+1≤n from hk.1)
    rwa [Nat.add_mul,Nat.one_mul] at this
   refine ⟨?_,by show i*t.size+dE π+u.size≤n*t.size;omega⟩
   show aA (.arr n t) (vq t.cQ l i v)=put (aA (.arr n t) l) (i*t.size+dE π) (aA u y)
   rw [q1,k1,ha,hd,hn,if_pos rfl,←k2,uv (by rw [bI,bI];exact e2),e1]
 | .fst::_,.int _,_,_,_,h,_=>by cases h
 | .fst::_,.bool,_,_,_,h,_=>by cases h
 | .fst::_,.unit,_,_,_,h,_=>by cases h
 | .fst::_,.arr _ _,_,_,_,h,_=>by cases h
 | .fst::_,.aF _,_,_,_,h,_=>by cases h
 | .fst::_,.ptr _,_,_,_,h,_=>by cases h
 | .fst::_,.cY _,_,_,_,h,_=>by cases h
 | .fst::_,.je _ _,_,_,_,h,_=>by cases h
 | .fst::_,.pM _ _,_,_,_,h,_=>by cases h
 | .fst::_,.mp _,_,_,_,h,_=>by cases h
 | .snd _::_,.int _,_,_,_,h,_=>by cases h
 | .snd _::_,.bool,_,_,_,h,_=>by cases h
 | .snd _::_,.unit,_,_,_,h,_=>by cases h
 | .snd _::_,.arr _ _,_,_,_,h,_=>by cases h
 | .snd _::_,.aF _,_,_,_,h,_=>by cases h
 | .snd _::_,.ptr _,_,_,_,h,_=>by cases h
 | .snd _::_,.cY _,_,_,_,h,_=>by cases h
 | .snd _::_,.je _ _,_,_,_,h,_=>by cases h
 | .snd _::_,.pM _ _,_,_,_,h,_=>by cases h
 | .snd _::_,.mp _,_,_,_,h,_=>by cases h
 | .ai _ _ _::_,.int _,_,_,_,h,_=>by cases h
 | .ai _ _ _::_,.bool,_,_,_,h,_=>by cases h
 | .ai _ _ _::_,.unit,_,_,_,h,_=>by cases h
 | .ai _ _ _::_,.pair _ _,_,_,_,h,_=>by cases h
 | .ai _ _ _::_,.aF _,_,_,_,h,_=>by cases h
 | .ai _ _ _::_,.ptr _,_,_,_,h,_=>by cases h
 | .ai _ _ _::_,.cY _,_,_,_,h,_=>by cases h
 | .ai _ _ _::_,.je _ _,_,_,_,h,_=>by cases h
 | .ai _ _ _::_,.pM _ _,_,_,_,h,_=>by cases h
 | .ai _ _ _::_,.mp _,_,_,_,h,_=>by cases h
 | .ix _ _::_,_,_,_,_,h,_=>by simp [qF] at h
end
set_option linter.unusedVariables false
set_option linter.unusedSimpArgs false
section
open Go.RowKit
def tq {α:Type} (f:List A→Option α) (z:Nat):Nat→List A→Option (List α)
 | 0,[]=>some []
 | 0,_::_=>none
 | n+1,cs=>match f (cs.take z),tq f z n (cs.drop z) with
  | some x,some l=>some (x::l)
  | _,_=>none
def pN:(t:Ty)→List A→Option t.T
 | .int k,cs=>match cs with
  | [.v (.int k' n)]=>if k'=k then some n else none
  | _=>none
 | .bool,cs=>match cs with
  | [.v (.bool b)]=>some b
  | _=>none
 | .unit,cs=>match cs with
  | []=>some ()
  | _=>none
 | .pair a b,cs=>match pN a (cs.take a.size),pN b (cs.drop a.size) with
  | some x,some y=>some (x,y)
  | _,_=>none
 | .arr n t,cs=>tq (pN t) t.size n cs
 | .aF t,cs=>match cs with
  | [.tl t' _ l]=>fR (.aF t') (.aF t) l
  | [.v (.slice none 0 0)]=>some []
  | [.e0]=>some []
  | _=>none
 | .ptr r,cs=>match cs with
  | [.v (.pointer none)]=>some none
  | [.tp (.eH r' j) []]=>bif Nat.beq r r' then some (some j) else none
  | [.op r' o]=>bif Nat.beq r r' then some o else none
  | _=>none
 | .cY r,cs=>match cs with
  | [.tp (.eH r' j) []]=>bif Nat.beq r r' then some j else none
  | _=>none
 | .je r z,cs=>match cs with
  | [.v (.slice none 0 0)]=>some none
  | [.e0]=>some none
  | [.tw (.eH r' j) z']=>bif Nat.beq r r' && Nat.beq z z' then some (some j) else none
  | [.os r' z' o]=>bif Nat.beq r r' && Nat.beq z z' then some o else none
  | _=>none
 | .pM r z,cs=>match cs with
  | [.tw (.eH r' j) z']=>bif Nat.beq r r' && Nat.beq z z' then some j else none
  | _=>none
 | .mp r,cs=>match cs with
  | [.v (.map none)]=>some none
  | [.mp (.eH r' j)]=>bif Nat.beq r r' then some (some j) else none
  | [.om r' o]=>bif Nat.beq r r' then some o else none
  | _=>none
theorem VD.Ms {M:Mem} {sz:Nat} {full:Bool} {es:List (List D)} {v:Value} (h:VD M (.sl sz full es) v):VD M (.sl sz false es) v:=by
 cases h with
 | sl _ _ _ a cap vs hz hc hf hn hx hl hm hv=>exact .sl sz false es a cap vs hz hc (fun h=>by cases h) hn hx hl hm hv
 | ui _ _ A=>exact .ui sz false A
theorem nT {g:G} {c d:A} {vs:List Value} (h:∀v,V g c v→V g d v) (k:Vs g [c] vs):Vs g [d] vs:=by
 refine ⟨k.1,fun j c' x e1 e2=>?_⟩
 cases j with
 | zero=>simp at e1;subst e1;exact ⟨h x (k.2 0 c x rfl e2).1,(k.2 0 c x rfl e2).2⟩
 | succ j=>simp at e1
theorem oP {α:Type} {g:G} {f:List A→Option α} {e:α→List A} {z:Nat} (hf:∀cs x,f cs=some x→cs.length=z∧∀vs,Vs g cs vs→Vs g (e x) vs):∀(n:Nat) (cs:List A) (l:List α),tq f z n cs=some l→cs.length=n*z∧l.length=n∧∀vs,Vs g cs vs→Vs g (l.flatMap e) vs
 | 0,[],l,h=>by cases h;exact ⟨by simp,rfl,fun vs hv=>hv⟩
 | 0,_::_,l,h=>by cases h
 | n+1,cs,l,h=>by
  have h:(match f (cs.take z),tq f z n (cs.drop z) with | some x,some l=>some (x::l) | _,_=>none)=some l:=by
   cases cs<;>exact h
  split at h
  ·rename_i x l' h1 h2
   cases h
   obtain ⟨k1,k2⟩:=hf _ _ h1
   obtain ⟨q1,q2,q3⟩:=oP hf n _ _ h2
   have hl:cs.length=z+n*z:=by
    have:=congrArg List.length (zP z cs)
    rw [zY,k1,q1] at this
    exact this.symm
   refine ⟨by rw [hl,Nat.add_mul];omega,by simp [q2],fun vs hv=>?_⟩
   rw [List.flatMap_cons]
   rw [←zP z cs] at hv
   obtain ⟨r1,r2⟩:=hv.split
   have:=(k2 _ r1).append (q3 _ r2)
   rwa [zP] at this
  ·cases h
theorem BL {α β:Type} (f:α→List β) (d:α) (l:List α):(List.range l.length).flatMap (fun i=>f (nth d l i))=l.flatMap f:=by
 have h:(List.range l.length).map (fun i=>nth d l i)=l:=by
  apply List.ext_getElem?
  intro i
  simp only [zL]
  by_cases hi:i<l.length
  ·rw [List.getElem?_range hi]
   simp [nth,zA,zD hi]
  ·rw [zb (by simpa using hi),zb (by simpa using hi)];rfl
 conv=>rhs;rw [←h]
 rw [List.flatMap_map]
theorem jJ {g:G}:∀(t:Ty) (cs:List A) (x:t.T),pN t cs=some x→cs.length=t.size∧∀vs,Vs g cs vs→Vs g (aA t x) vs
 | .int k,cs,x,h=>by
  unfold pN at h
  split at h
  ·split at h
   ·rename_i hk;subst hk;cases h;exact ⟨rfl,fun vs hv=>hv⟩
   ·cases h
  ·cases h
 | .bool,cs,x,h=>by
  unfold pN at h
  split at h
  ·cases h;exact ⟨rfl,fun vs hv=>hv⟩
  ·cases h
 | .unit,cs,x,h=>by
  unfold pN at h
  split at h
  ·cases h;exact ⟨rfl,fun vs hv=>hv⟩
  ·cases h
 | .pair a b,cs,x,h=>by
  unfold pN at h
  split at h
  ·rename_i y z h1 h2
   cases h
   obtain ⟨k1,k2⟩:=jJ a _ _ h1
   obtain ⟨q1,q2⟩:=jJ b _ _ h2
   refine ⟨?_,fun vs hv=>?_⟩
   ·have:=congrArg List.length (zP a.size cs)
    rw [zY,k1,q1] at this
    exact this.symm
   ·rw [←zP a.size cs] at hv
    obtain ⟨r1,r2⟩:=hv.split
    have:=(k2 _ r1).append (q2 _ r2)
    rwa [zP] at this
  ·cases h
 | .arr n t,cs,x,h=>by
  obtain ⟨h1,h2,h3⟩:=oP (g:=g) (fun cs x h=>jJ t cs x h) n cs x h
  refine ⟨h1,fun vs hv=>?_⟩
  have:=h3 vs hv
  have e:∀(m:Nat) (y:List t.T),y.length=m→aA (.arr m t) y=y.flatMap (aA t):=fun m y hy=>by
   subst hy
   exact BL (aA t) t.cQ y
  rw [e n x h2];exact this
 | .aF t,cs,x,h=>by
  unfold pN at h
  split at h
  ·rename_i t' f l
   obtain ⟨e,rfl⟩:=cr h
   cases e
   exact ⟨rfl,fun vs hv=>nT (fun v hv=>by cases hv with | tl _ _ _ _ h=>exact .tl _ _ _ _ h.Ms) hv⟩
  ·cases h;exact ⟨rfl,fun vs hv=>nT (fun v hv=>by rw [hv.gw];exact .tl t false [] _ (.ui _ _ _)) hv⟩
  ·cases h;exact ⟨rfl,fun vs hv=>nT (fun v hv=>by cases hv;exact .tl t false [] _ (.ui _ _ _)) hv⟩
  ·cases h
 | .ptr r,cs,x,h=>by
  unfold pN at h
  split at h
  ·cases h;exact ⟨rfl,fun vs hv=>nT (fun v hv=>.op r none v (fun _=>hv.gw) (fun j h=>by cases h)) hv⟩
  ·obtain ⟨h1,h2⟩:=af h
   obtain rfl:=beq_eq h1
   cases h2;exact ⟨rfl,fun vs hv=>nT (fun v hv=>.op r _ v (fun h=>by cases h) (fun j h=>by cases h;exact hv)) hv⟩
  ·obtain ⟨h1,h2⟩:=af h
   obtain rfl:=beq_eq h1
   cases h2;exact ⟨rfl,fun vs hv=>hv⟩
  ·cases h
 | .cY r,cs,x,h=>by
  unfold pN at h
  split at h
  ·obtain ⟨h1,h2⟩:=af h
   obtain rfl:=beq_eq h1
   cases h2;exact ⟨rfl,fun vs hv=>hv⟩
  ·cases h
 | .je r z,cs,x,h=>by
  unfold pN at h
  split at h
  ·cases h;exact ⟨rfl,fun vs hv=>nT (fun v hv=>.os r z none v (fun _=>by rw [hv.gw];exact .e0 _) (fun j h=>by cases h)) hv⟩
  ·cases h;exact ⟨rfl,fun vs hv=>nT (fun v hv=>.os r z none v (fun _=>hv) (fun j h=>by cases h)) hv⟩
  ·obtain ⟨h1,h2⟩:=af h
   simp only [zC] at h1
   obtain rfl:=beq_eq h1.1
   obtain rfl:=beq_eq h1.2
   cases h2;exact ⟨rfl,fun vs hv=>nT (fun v hv=>.os r z _ v (fun h=>by cases h) (fun j h=>by cases h;exact hv)) hv⟩
  ·obtain ⟨h1,h2⟩:=af h
   simp only [zC] at h1
   obtain rfl:=beq_eq h1.1
   obtain rfl:=beq_eq h1.2
   cases h2;exact ⟨rfl,fun vs hv=>hv⟩
  ·cases h
 | .pM r z,cs,x,h=>by
  unfold pN at h
  split at h
  ·obtain ⟨h1,h2⟩:=af h
   simp only [zC] at h1
   obtain rfl:=beq_eq h1.1
   obtain rfl:=beq_eq h1.2
   cases h2;exact ⟨rfl,fun vs hv=>hv⟩
  ·cases h
 | .mp r,cs,x,h=>by
  unfold pN at h
  split at h
  ·cases h;exact ⟨rfl,fun vs hv=>nT (fun v hv=>.om r none v (fun _=>hv.gw) (fun j h=>by cases h)) hv⟩
  ·obtain ⟨h1,h2⟩:=af h
   obtain rfl:=beq_eq h1
   cases h2;exact ⟨rfl,fun vs hv=>nT (fun v hv=>.om r _ v (fun h=>by cases h) (fun j h=>by cases h;exact hv)) hv⟩
  ·obtain ⟨h1,h2⟩:=af h
   obtain rfl:=beq_eq h1
   cases h2;exact ⟨rfl,fun vs hv=>hv⟩
  ·cases h
def RK.T:RK→Type
 | .box t=>List t.T
 | .row t=>List (Option (List t.T))
 | .map _ tk _ tv=>List (List (tk.T×tv.T))
def bO (a:Bool) (t:Ty) (x:t.T):A:=bif a then .agg (aA t x) else match aA t x with
 | [c]=>c
 | _=>.cG
structure Rg where
 r:Nat
 k:RK
 c:k.T
inductive gH where
 | cells (cs:List A)
 | one (t:Ty) (x:t.T)
 | row (t:Ty) (l:List t.T)
 | cX (x:O8)
def gH.low:gH→Ob
 | .cells cs=>.cells cs
 | .one t x=>.cells (aA t x)
 | .row t l=>.cells (l.flatMap (aA t))
 | .cX x=>.cX x
structure H where
 t:Tr gH
 aR:Nat
 rg:List Rg
 lk:List Nat
def bq:List Rg→Nat→Option Rg
 | [],_=>none
 | x::l,r=>bif Nat.beq x.r r then some x else bq l r
def lA {α:Type} (l:List α) (j:Nat):Option α:=l[j]?
def dQ:(k:RK)→k.T→Nat→Option Ob
 | .box t,c,j=>match lA (α:=t.T) c j with
  | some x=>some (.cells (aA t x))
  | none=>none
 | .row t,c,j=>match lA (α:=Option (List t.T)) c j with
  | some (some l)=>some (.cells (l.flatMap (aA t)))
  | _=>none
 | .map ka tk va tv,c,j=>match lA (α:=List (tk.T×tv.T)) c j with
  | some es=>some (.cX (.map (es.map fun e=>(bO ka tk e.1,bO va tv e.2))))
  | none=>none
def oj:(k:RK)→k.T→Nat
 | .box t,c=>List.length (α:=t.T) c
 | .row t,c=>List.length (α:=Option (List t.T)) c
 | .map _ tk _ tv,c=>List.length (α:=List (tk.T×tv.T)) c
def dR (rg:List Rg) (i:Nat):Option Ob:=match bq rg (mq i) with
 | some x=>dQ x.k x.c (Av i)
 | none=>none
def gf (rg:List Rg) (i:Nat):Prop:=match bq rg (mq i) with
 | some x=>oj x.k x.c≤Av i
 | none=>False
def fO (t:Tr gH) (i:Nat):Option Ob:=match t.get i with
 | some x=>some x.low
 | none=>none
def hp (h:H):Hp:=⟨fun i=>if i<cI then fO h.t i else dR h.rg i,fun i=>if i<cI then h.aR≤i else gf h.rg i⟩
end
set_option linter.unusedVariables false
set_option linter.unusedSimpArgs false
section
open Go.RowKit
def Tr.qG {α β:Type} (f:Nat):Tr α→Nat→Option α→(Tr α→β)→β:=
 Nat.rec (motive:=fun _=>Tr α→Nat→Option α→(Tr α→β)→β) (fun t _ _ k=>k t)
  (fun _ rec t n x k=>Tr.rec (motive:=fun _=>β)
   (Nat.rec (motive:=fun _=>β) (k (.node .nil x .nil)) (fun n _=>Nat.rec (motive:=fun _=>β) (rec .nil (n / 2) x (fun l=>k (.node l none .nil))) (fun _ _=>rec .nil (n / 2) x (fun r=>k (.node .nil none r))) (n%2)) n)
   (fun l v r _ _=>Nat.rec (motive:=fun _=>β) (k (.node l x r)) (fun n _=>Nat.rec (motive:=fun _=>β) (rec l (n / 2) x (fun l=>k (.node l v r))) (fun _ _=>rec r (n / 2) x (fun r=>k (.node l v r))) (n%2)) n) t) f
theorem Tr.mG {α β:Type}:∀(f:Nat) (t:Tr α) (n:Nat) (x:Option α) (k:Tr α→β),n+1<2^f→∃t':Tr α,Tr.qG f t n x k=k t'∧∀m,t'.get m=if m=n then x else t.get m
 | 0,t,n,x,k,h=>by simp at h
 | f+1,.nil,0,x,k,h=>⟨.node .nil x .nil,rfl,fun m=>by cases m<;>simp [Tr.kA,Tr.ik,Tr.get_nil]⟩
 | f+1,.node l v r,0,x,k,h=>⟨.node l x r,rfl,fun m=>by cases m<;>simp [Tr.kA,Tr.ik]⟩
 | f+1,.nil,n+1,x,k,h=>by
  have hp:2^(f+1)=2*2^f:=by rw [Nat.pow_succ];omega
  have e:Tr.qG (f+1) .nil (n+1) x k=Nat.rec (motive:=fun _=>β) (Tr.qG f .nil (n / 2) x (fun l=>k (.node l none .nil))) (fun _ _=>Tr.qG f .nil (n / 2) x (fun r=>k (.node .nil none r))) (n%2):=rfl
  rw [e]
  cases hm:n%2 with
  | zero=>
   obtain ⟨t',h1,h2⟩:=Tr.mG f .nil (n / 2) x (fun l=>k (.node l none .nil)) (by omega)
   refine ⟨_,h1,fun m=>?_⟩
   cases m with
   | zero=>simp [Tr.kA,Tr.get_nil]
   | succ m=>
    rw [Tr.ik,h2,Tr.get_nil]
    by_cases wZ:m%2=0
    ·rw [wZ,show Nat.beq 0 0=true from rfl,cond_true]
     by_cases c:m=n
     ·subst c;simp
     ·rw [if_neg (by omega),if_neg (by omega)];rfl
    ·rw [show Nat.beq (m%2) 0=false from by cases hx:m%2 with | zero=>exact absurd hx wZ | succ _=>rfl,cond_false,if_neg (by omega)];rfl
  | succ j=>
   obtain ⟨t',h1,h2⟩:=Tr.mG f .nil (n / 2) x (fun r=>k (.node .nil none r)) (by omega)
   refine ⟨_,h1,fun m=>?_⟩
   cases m with
   | zero=>simp [Tr.kA,Tr.get_nil]
   | succ m=>
    rw [Tr.ik,h2,Tr.get_nil]
    by_cases wZ:m%2=0
    ·rw [wZ,show Nat.beq 0 0=true from rfl,cond_true,if_neg (by omega)];rfl
    ·rw [show Nat.beq (m%2) 0=false from by cases hx:m%2 with | zero=>exact absurd hx wZ | succ _=>rfl,cond_false]
     by_cases c:m=n
     ·subst c;simp
     ·rw [if_neg (by omega),if_neg (by omega)];rfl
 | f+1,.node l v r,n+1,x,k,h=>by
  have hp:2^(f+1)=2*2^f:=by rw [Nat.pow_succ];omega
  have e:Tr.qG (f+1) (.node l v r) (n+1) x k=Nat.rec (motive:=fun _=>β) (Tr.qG f l (n / 2) x (fun l=>k (.node l v r))) (fun _ _=>Tr.qG f r (n / 2) x (fun r=>k (.node l v r))) (n%2):=rfl
  rw [e]
  cases hm:n%2 with
  | zero=>
   obtain ⟨t',h1,h2⟩:=Tr.mG f l (n / 2) x (fun l=>k (.node l v r)) (by omega)
   refine ⟨_,h1,fun m=>?_⟩
   cases m with
   | zero=>simp [Tr.kA]
   | succ m=>
    rw [Tr.ik,h2,Tr.ik]
    by_cases wZ:m%2=0
    ·rw [wZ,show Nat.beq 0 0=true from rfl,cond_true]
     by_cases c:m=n
     ·subst c;simp
     ·rw [if_neg (by omega),if_neg (by omega)];rfl
    ·rw [show Nat.beq (m%2) 0=false from by cases hx:m%2 with | zero=>exact absurd hx wZ | succ _=>rfl,cond_false,if_neg (by omega)];rfl
  | succ j=>
   obtain ⟨t',h1,h2⟩:=Tr.mG f r (n / 2) x (fun r=>k (.node l v r)) (by omega)
   refine ⟨_,h1,fun m=>?_⟩
   cases m with
   | zero=>simp [Tr.kA]
   | succ m=>
    rw [Tr.ik,h2,Tr.ik]
    by_cases wZ:m%2=0
    ·rw [wZ,show Nat.beq 0 0=true from rfl,cond_true,if_neg (by omega)];rfl
    ·rw [show Nat.beq (m%2) 0=false from by cases hx:m%2 with | zero=>exact absurd hx wZ | succ _=>rfl,cond_false]
     by_cases c:m=n
     ·subst c;simp
     ·rw [if_neg (by omega),if_neg (by omega)];rfl
def fg {α β:Type} (t:Tr α) (q:Nat) (x:Option α) (k:Tr α→Option β):Option β:=bif Nat.blt q 16777215 then Tr.qG 24 t q x k else none
theorem bo {α β:Type} {t:Tr α} {q:Nat} {x:Option α} {k:Tr α→Option β} {r:β} (h:fg t q x k=some r):q<16777215∧∃t':Tr α,k t'=some r∧t'.get=fun m=>if m=q then x else t.get m:=by
 obtain ⟨h1,h2⟩:=af h
 have hq:q<16777215:=by simpa using h1
 obtain ⟨t',e1,e2⟩:=Tr.mG 24 t q x k (by omega)
 exact ⟨hq,t',by rw [←e1];exact h2,funext e2⟩
structure Fp where
 all:Bool
 rs:List Nat
 w:Bool
 ws:List Nat
def Fp.no:Fp:=⟨false,[],false,[]⟩
def Fp.rd (l:List Nat):Fp:=⟨false,l,false,[]⟩
def Fp.wr (l:List Nat):Fp:=⟨false,l,true,l⟩
def Fp.pt (x:Nat) (l:List Nat):Fp:=⟨false,x::l,true,[x]⟩
def iF (r:Nat):Nat:=2*r+1
def dz (o:Nat):Nat:=2*o
def res (i:Nat):Nat:=bif Nat.blt i 16777216 then dz i else iF (mq i)
def touch (T:Fp) (i:Nat):Bool:=T.all || T.rs.any (Nat.beq (res i))
def wt (T:Fp) (i:Nat):Bool:=T.w && T.ws.any (Nat.beq (res i))
theorem ni {o:Nat} (h:o<16777216):res o=dz o:=by
 unfold res
 rw [show Nat.blt o 16777216=true by simpa using h];rfl
theorem HE {r j:Nat} (h:r<64):res (fE r j)=iF r:=by
  have h1:=oi r j
  have h2:=lO (j:=j) h
  generalize fE r j=i at h1 h2
  unfold res
  cases hx:Nat.blt i 16777216 with
  | false=>rw [cond_false,h2]
  | true=>
            have:i<16777216:=by simpa using hx
            unfold cI at h1;omega
def Agree (T:Fp) (S S2:Hp):Prop:=∀i,touch T i=true→S2.ob i=S.ob i∧(S2.fr i↔S.fr i)
def iU (T:Fp) (S' S2:Hp):Hp:=⟨fun i=>if touch T i=true then S'.ob i else S2.ob i,fun i=>if touch T i=true then S'.fr i else S2.fr i⟩
theorem Hp.ext' {S S':Hp} (h1:∀i,S.ob i=S'.ob i) (h2:∀i,S.fr i↔S'.fr i):S=S':=by
 cases S;cases S'
 congr
 ·exact funext h1
 ·exact funext fun i=>propext (h2 i)
theorem mI {T:Fp} {S S2:Hp} (h:Agree T S S2):iU T S S2=S2:=Hp.ext' (fun i=>by
 show (if touch T i=true then S.ob i else S2.ob i)=S2.ob i
 split
 ·exact (h i (by assumption)).1.symm
 ·rfl) (fun i=>by
 show (if touch T i=true then S.fr i else S2.fr i)↔S2.fr i
 split
 ·exact (h i (by assumption)).2.symm
 ·exact Iff.rfl)
theorem td {l:List Nat} {i:Nat} (h:wt (.wr l) i=false):touch (.wr l) i=false:=by simpa [wt,touch,Fp.wr] using h
theorem Hq {T:Fp} {i:Nat} (h:T.w=false):wt T i=false:=by unfold wt;rw [h];rfl
structure Step (P:Program) (o:Oper) (ρ:Operand→A) (h h':H) (T:Fp) (pv:A):Prop where
 out:∀i,touch T i=false→(hp h').ob i=(hp h).ob i∧((hp h').fr i↔(hp h).fr i)
 rd:∀i,wt T i=false→(hp h').ob i=(hp h).ob i∧((hp h').fr i↔(hp h).fr i)
 ok:∀S2,Agree T (hp h) S2→C1 P o ρ S2 (iU T (hp h') S2) pv
theorem Step.read {P:Program} {o:Oper} {ρ:Operand→A} {h:H} {pv:A} (T:Fp) (k:∀S2,Agree T (hp h) S2→fc P o ρ S2 S2 pv) (hd:∀c,o.op≠.defer c):Step P o ρ h h T pv where
 out:=fun _ _=>⟨rfl,Iff.rfl⟩
 rd:=fun _ _=>⟨rfl,Iff.rfl⟩
 ok:=fun S2 hS=>by rw [mI hS];exact (k S2 hS).LD hd
theorem Step.pure {P:Program} {o:Oper} {ρ:Operand→A} {h:H} {pv:A} (k:∀S2,fc P o ρ S2 S2 pv) (hd:∀c,o.op≠.defer c):Step P o ρ h h .no pv:=.read .no (fun S2 _=>k S2) hd
theorem fc.bm {P:Program} {o:Oper} {ρ:Operand→A} {S S':Hp} {pv:A} (h:∀(g:G) (w:World) (a:Act),Inv g S w→(∀x∈o.op.operands,V g (ρ x) (a.eval x))→fc P o ρ S S' pv):fc P o ρ S S' pv:=
 fun g w a next Q hI hv K=>h g w a hI hv g w a next Q hI hv K
theorem aB {o:Nat} {l:List Nat} {w:Bool} {s:List Nat} (h:o<16777216) (hm:dz o∈l):touch ⟨false,l,w,s⟩ o=true:=by
 unfold touch
 rw [ni h,Bool.false_or,List.any_eq_true]
 exact ⟨_,hm,by simp⟩
theorem bX {r j:Nat} {l:List Nat} {w:Bool} {s:List Nat} (h:r<64) (hm:iF r∈l):touch ⟨false,l,w,s⟩ (fE r j)=true:=by
 unfold touch
 rw [HE h,Bool.false_or,List.any_eq_true]
 exact ⟨_,hm,by simp⟩
end
set_option linter.unusedVariables false
set_option linter.unusedSimpArgs false
section
open Go.RowKit
inductive Up where
 | set (i:Nat) (x:Ob)
 | new (i:Nat) (x:Ob)
 | del (i:Nat)
def Up.id:Up→Nat
 | .set i _=>i
 | .new i _=>i
 | .del i=>i
def Up.app:Up→Hp→Hp
 | .set i x,S=>S.set i x
 | .new i x,S=>S.new i x
 | .del i,S=>S.del i
def app:List Up→Hp→Hp
 | [],S=>S
 | u::us,S=>app us (u.app S)
theorem Up.out (u:Up) (S:Hp) (i:Nat) (h:i≠u.id):(u.app S).ob i=S.ob i∧((u.app S).fr i↔S.fr i):=by
 cases u with
 | set j x=>exact ⟨if_neg h,Iff.rfl⟩
 | new j x=>exact ⟨if_neg h,⟨fun k=>k.1,fun k=>⟨k,h⟩⟩⟩
 | del j=>exact ⟨if_neg h,Iff.rfl⟩
theorem Up.congr (u:Up) (S S2:Hp) (i:Nat) (h1:S2.ob i=S.ob i) (h2:S2.fr i↔S.fr i):(u.app S2).ob i=(u.app S).ob i∧((u.app S2).fr i↔(u.app S).fr i):=by
 cases u with
 | set j x=>exact ⟨by show (if i=j then _ else _)=(if i=j then _ else _);rw [h1],h2⟩
 | new j x=>exact ⟨by show (if i=j then _ else _)=(if i=j then _ else _);rw [h1],by show (S2.fr i∧i≠j)↔(S.fr i∧i≠j);rw [h2]⟩
 | del j=>exact ⟨by show (if i=j then _ else _)=(if i=j then _ else _);rw [h1],h2⟩
theorem dj:∀(us:List Up) (S:Hp) (i:Nat),(∀u∈us,i≠u.id)→(app us S).ob i=S.ob i∧((app us S).fr i↔S.fr i)
 | [],_,_,_=>⟨rfl,Iff.rfl⟩
 | u::us,S,i,h=>by
  have h1:=dj us (u.app S) i (fun v hv=>h v (zT _ hv))
  have h2:=u.out S i (h u (zV ..))
  exact ⟨h1.1.trans h2.1,h1.2.trans h2.2⟩
theorem nA:∀(us:List Up) (S S2:Hp) (i:Nat),S2.ob i=S.ob i→(S2.fr i↔S.fr i)→(app us S2).ob i=(app us S).ob i∧((app us S2).fr i↔(app us S).fr i)
 | [],_,_,_,h1,h2=>⟨h1,h2⟩
 | u::us,S,S2,i,h1,h2=>let ⟨k1,k2⟩:=u.congr S S2 i h1 h2;nA us (u.app S) (u.app S2) i k1 k2
theorem hP {T:Fp} {us:List Up} {S S2:Hp} (hT:∀u∈us,touch T u.id=true) (h:Agree T S S2):iU T (app us S) S2=app us S2:=by
 refine Hp.ext' (fun i=>?_) (fun i=>?_)
 ·show (if touch T i=true then (app us S).ob i else S2.ob i)=_
  split
  ·rename_i hi;exact ((nA us S S2 i (h i hi).1 (h i hi).2).1).symm
  ·rename_i hi;exact ((dj us S2 i (fun u hu e=>hi (e▸hT u hu))).1).symm
 ·show (if touch T i=true then (app us S).fr i else S2.fr i)↔_
  split
  ·rename_i hi;exact ((nA us S S2 i (h i hi).1 (h i hi).2).2).symm
  ·rename_i hi;exact ((dj us S2 i (fun u hu e=>hi (e▸hT u hu))).2).symm
theorem Step.of {P:Program} {o:Oper} {ρ:Operand→A} {h h':H} {T:Fp} {pv:A} (us:List Up) (hh:hp h'=app us (hp h)) (hw:T.w=true) (hT:∀u∈us,touch T u.id=true) (k:∀S2,Agree T (hp h) S2→fc P o ρ S2 (app us S2) pv) (hd:∀c,o.op≠.defer c) (hs:T.ws=T.rs:=by rfl) (ha:T.all=false:=by rfl):Step P o ρ h h' T pv where
 out:=fun i hi=>by rw [hh];exact dj us _ i (fun u hu e=>by rw [e,hT u hu] at hi;cases hi)
 rd:=fun i hi=>by
  have hi:(T.w && T.ws.any (Nat.beq (res i)))=false:=hi
  rw [hw,hs,Bool.true_and] at hi
  rw [hh]
  exact dj us _ i (fun u hu e=>by
   have:=hT u hu
   unfold touch at this
   rw [←e,ha,hi] at this;cases this)
 ok:=fun S2 hS=>by rw [hh,hP hT hS];exact (k S2 hS).LD hd
theorem Step.YG {P:Program} {o:Oper} {ρ:Operand→A} {h h':H} {T:Fp} {pv:A} (us:List Up) (hh:hp h'=app us (hp h)) (hT:∀u∈us,touch T u.id=true) (hW:∀u∈us,wt T u.id=true) (k:∀S2,Agree T (hp h) S2→fc P o ρ S2 (app us S2) pv) (hd:∀c,o.op≠.defer c):Step P o ρ h h' T pv where
 out:=fun i hi=>by rw [hh];exact dj us _ i (fun u hu e=>by rw [e,hT u hu] at hi;cases hi)
 rd:=fun i hi=>by rw [hh];exact dj us _ i (fun u hu e=>by rw [e,hW u hu] at hi;cases hi)
 ok:=fun S2 hS=>by rw [hh,hP hT hS];exact (k S2 hS).LD hd
def Fp.p2 (x y:Nat) (l:List Nat):Fp:=⟨false,x::y::l,true,[x,y]⟩
theorem qf {h:H} {t':Tr gH} {q:Nat} {x:gH} (hq:q<16777216) (ht:t'.get=fun m=>if m=q then some x else h.t.get m):hp { h with t:=t' }=app [.set q x.low] (hp h):=by
 refine Hp.ext' (fun i=>?_) (fun i=>Iff.rfl)
 show (if i<cI then fO t' i else dR h.rg i)=(if i=q then some x.low else (if i<cI then fO h.t i else dR h.rg i))
 unfold fO
 rw [ht]
 by_cases hi:i=q
 ·subst hi;rw [if_pos (show i<cI from hq),if_pos rfl];simp
 ·rw [if_neg hi];simp only [if_neg hi]
theorem Ff {h:H} {t':Tr gH} {x:gH} (hq:h.aR<16777216) (ht:t'.get=fun m=>if m=h.aR then some x else h.t.get m):hp { h with t:=t',aR:=h.aR+1 }=app [.new h.aR x.low] (hp h):=by
 refine Hp.ext' (fun i=>?_) (fun i=>?_)
 ·show (if i<cI then fO t' i else dR h.rg i)=(if i=h.aR then some x.low else (if i<cI then fO h.t i else dR h.rg i))
  unfold fO
  rw [ht]
  by_cases hi:i=h.aR
  ·rw [hi,if_pos (show h.aR<cI from hq),if_pos rfl];simp
  ·rw [if_neg hi];simp only [if_neg hi]
 ·show (if i<cI then h.aR+1≤i else gf h.rg i)↔(if i<cI then h.aR≤i else gf h.rg i)∧i≠h.aR
  unfold cI
  by_cases hi:i<16777216
  ·rw [if_pos hi,if_pos hi];omega
  ·rw [if_neg hi,if_neg hi];exact ⟨fun k=>⟨k,by omega⟩,fun k=>k.1⟩
theorem rY {h:H} {t':Tr gH} {q:Nat} (hq:q<16777216) (ht:t'.get=fun m=>if m=q then none else h.t.get m):hp { h with t:=t' }=app [.del q] (hp h):=by
 refine Hp.ext' (fun i=>?_) (fun i=>Iff.rfl)
 show (if i<cI then fO t' i else dR h.rg i)=(if i=q then none else (if i<cI then fO h.t i else dR h.rg i))
 unfold fO
 rw [ht]
 by_cases hi:i=q
 ·subst hi;rw [if_pos (show i<cI from hq),if_pos rfl];simp
 ·rw [if_neg hi];simp only [if_neg hi]
theorem ku {h:H} {q:Nat} (hq:q<16777216):(hp h).ob q=fO h.t q:=if_pos hq
def jK:List Rg→Nat→(k:RK)→k.T→List Rg
 | [],_,_,_=>[]
 | x::l,r,k,c=>bif Nat.beq x.r r then ⟨r,k,c⟩::l else x::jK l r k c
theorem nh:∀(l:List Rg) (r:Nat) (k:RK) (c:k.T) (r':Nat) (x:Rg),bq l r=some x→bq (jK l r k c) r'=if r'=r then some ⟨r,k,c⟩ else bq l r'
 | [],r,k,c,r',x,h=>by cases h
 | y::l,r,k,c,r',x,h=>by
  unfold jK
  unfold bq at h
  cases hy:Nat.beq y.r r with
  | true=>
   simp only [cond_true]
   unfold bq
   have hyr:=beq_eq hy
   by_cases hr:r'=r
   ·subst hr
    rw [if_pos rfl]
    show (bif Nat.beq r' r' then _ else _)=_
    rw [Nat.beq_refl];rfl
   ·rw [if_neg hr]
    have h1:Nat.beq r r'=false:=by cases hx:Nat.beq r r' with | false=>rfl | true=>exact absurd (beq_eq hx).symm hr
    rw [show Nat.beq y.r r'=false by rw [hyr];exact h1]
    show (bif Nat.beq r r' then _ else _)=_
    rw [h1];rfl
  | false=>
   simp only [cond_false]
   rw [hy] at h
   simp only [cond_false] at h
   unfold bq
   cases yH:Nat.beq y.r r' with
   | true=>
    have:=beq_eq yH
    rw [if_neg (fun e=>by subst e;rw [this,Nat.beq_refl] at hy;cases hy)];rfl
   | false=>exact nh l r k c r' x h
theorem lr {rg:List Rg} {r j:Nat} {x:Rg} (hr:r<64) (h:bq rg r=some x):dR rg (fE r j)=dQ x.k x.c j:=by
 unfold dR
 rw [lO hr,h,jZ hr]
theorem f_ {rg:List Rg} {r j:Nat} {x:Rg} (hr:r<64) (h:bq rg r=some x):gf rg (fE r j)↔oj x.k x.c≤j:=by
 unfold gf
 rw [lO hr,h,jZ hr]
theorem gA {h:H} {r j:Nat}:(hp h).ob (fE r j)=dR h.rg (fE r j)∧((hp h).fr (fE r j)↔gf h.rg (fE r j)):=by
 have hn:¬fE r j<cI:=Nat.not_lt.2 (oi r j)
 generalize fE r j=i at hn
 exact ⟨if_neg hn,by show (if i<cI then _ else _)↔_;rw [if_neg hn]⟩
theorem lY {h:H} {r:Nat} {x:Rg} {k:RK} {c:k.T} (h0:bq h.rg r=some x) (i:Nat):(hp { h with rg:=jK h.rg r k c }).ob i=(if ¬i<cI∧mq i=r then dQ k c (Av i) else (hp h).ob i)∧((hp { h with rg:=jK h.rg r k c }).fr i↔if ¬i<cI∧mq i=r then oj k c≤Av i else (hp h).fr i):=by
 by_cases hi:i<cI
 ·rw [if_neg (fun k=>k.1 hi),if_neg (fun k=>k.1 hi)]
  exact ⟨by show (if i<cI then _ else _)=(if i<cI then _ else _);rw [if_pos hi,if_pos hi],by show (if i<cI then _ else _)↔(if i<cI then _ else _);rw [if_pos hi,if_pos hi]⟩
 ·have e1:(hp { h with rg:=jK h.rg r k c }).ob i=dR (jK h.rg r k c) i:=if_neg hi
  have e2:(hp { h with rg:=jK h.rg r k c }).fr i↔gf (jK h.rg r k c) i:=by show (if i<cI then _ else _)↔_;rw [if_neg hi]
  have e3:(hp h).ob i=dR h.rg i:=if_neg hi
  have e4:(hp h).fr i↔gf h.rg i:=by show (if i<cI then _ else _)↔_;rw [if_neg hi]
  rw [e1,e2,e3,e4]
  unfold dR gf
  rw [nh h.rg r k c (mq i) x h0]
  by_cases hr:mq i=r
  ·rw [if_pos hr,if_pos ⟨hi,hr⟩,if_pos ⟨hi,hr⟩];exact ⟨rfl,Iff.rfl⟩
  ·rw [if_neg hr,if_neg (fun k=>hr k.2),if_neg (fun k=>hr k.2)];exact ⟨rfl,Iff.rfl⟩
theorem u0 {α:Type} (l:List α) (x:α) (j:Nat):lA (cat l [x]) j=if j=l.length then some x else lA l j:=by
 unfold lA cat
 by_cases h:j=l.length
 ·subst h;simp
 ·rw [if_neg h]
  by_cases h1:j<l.length
  ·rw [zK h1]
  ·rw [zJ (by omega),zb (by simp;omega),zb (by omega)]
theorem pn {α:Type} (l:List α) (i j:Nat) (x:α):lA (upd l i x) j=if j=i∧i<l.length then some x else lA l j:=by
 unfold lA upd
 rw [List.getElem?_set]
 by_cases h:i=j
 ·subst h
  rw [if_pos rfl]
  by_cases h1:i<l.length
  ·rw [if_pos h1,if_pos ⟨rfl,h1⟩]
  ·rw [if_neg h1,if_neg (fun k=>h1 k.2),zb (by omega)]
 ·rw [if_neg h,if_neg (fun k=>h k.1.symm)]
theorem pb {h:H} {r:Nat} {x:Rg} {k:RK} {c:k.T} {n:Nat} {ob:Ob} (hr:r<64) (h0:bq h.rg r=some x) (hn:oj x.k x.c=n) (h1:oj k c=n+1) (h2:∀j,dQ k c j=if j=n then some ob else dQ x.k x.c j):hp { h with rg:=jK h.rg r k c }=app [.new (fE r n) ob] (hp h):=by
 refine Hp.ext' (fun i=>?_) (fun i=>?_)
 ·rw [(lY (k:=k) (c:=c) h0 i).1]
  show _=(if i=fE r n then some ob else (hp h).ob i)
  by_cases hi:¬i<cI∧mq i=r
  ·rw [if_pos hi,h2]
   have e:=rp hi.1
   rw [hi.2] at e
   by_cases hj:Av i=n
   ·rw [if_pos hj,if_pos (by rw [e,hj])]
   ·rw [if_neg hj,if_neg (fun e2=>hj (by rw [e2,jZ hr])),e,gA.1,lr hr h0,jZ hr]
  ·rw [if_neg hi,if_neg (fun e=>hi (by rw [e];exact ⟨Nat.not_lt.2 (oi r n),lO hr⟩))]
 ·rw [(lY (k:=k) (c:=c) h0 i).2]
  show _↔(hp h).fr i∧i≠fE r n
  by_cases hi:¬i<cI∧mq i=r
  ·rw [if_pos hi,h1]
   have e:=rp hi.1
   rw [hi.2] at e
   rw [show (hp h).fr i↔n≤Av i by rw [e,gA.2,f_ hr h0,hn,jZ hr]]
   refine ⟨fun k=>⟨by omega,fun e2=>?_⟩,fun k=>?_⟩
   ·rw [e2,jZ hr] at k;omega
   ·have:Av i≠n:=fun hj=>k.2 (by rw [e,hj])
    omega
  ·rw [if_neg hi]
   exact ⟨fun k=>⟨k,fun e=>hi (by rw [e];exact ⟨Nat.not_lt.2 (oi r n),lO hr⟩)⟩,fun k=>k.1⟩
theorem rX {h:H} {r j:Nat} {x:Rg} {k:RK} {c:k.T} {u:Up} (hr:r<64) (h0:bq h.rg r=some x) (h1:oj k c=oj x.k x.c) (h2:∀i,i≠j→dQ k c i=dQ x.k x.c i) (h3:u.id=fE r j) (h4:(u.app (hp h)).ob (fE r j)=dQ k c j) (h5:(u.app (hp h)).fr=(hp h).fr):hp { h with rg:=jK h.rg r k c }=app [u] (hp h):=by
 refine Hp.ext' (fun i=>?_) (fun i=>?_)
 ·rw [(lY (k:=k) (c:=c) h0 i).1]
  show _=(u.app (hp h)).ob i
  by_cases hi:¬i<cI∧mq i=r
  ·rw [if_pos hi]
   have e:=rp hi.1
   rw [hi.2] at e
   by_cases hj:Av i=j
   ·rw [hj] at e ⊢;rw [e,h4]
   ·rw [h2 _ hj,(u.out (hp h) i (fun e2=>hj (by rw [e2,h3,jZ hr]))).1,e,gA.1,lr hr h0,jZ hr]
  ·rw [if_neg hi,(u.out (hp h) i (fun e=>hi (by rw [e,h3];exact ⟨Nat.not_lt.2 (oi r j),lO hr⟩))).1]
 ·rw [(lY (k:=k) (c:=c) h0 i).2]
  show _↔(u.app (hp h)).fr i
  rw [h5]
  by_cases hi:¬i<cI∧mq i=r
  ·rw [if_pos hi,h1]
   have e:=rp hi.1
   rw [hi.2] at e
   rw [e,gA.2,f_ hr h0,jZ hr]
  ·rw [if_neg hi]
end
set_option linter.unusedVariables false
set_option linter.unusedSimpArgs false
section
open Go.RowKit
theorem lC {α:Type} (f:α→List D) (l:List α):(l.map f).flatten=l.flatMap f:=by rw [List.flatMap_def]
theorem bb (t:Ty) (l:List t.T):(l.flatMap (aA t)).length=l.length*t.size:=by
 induction l with
 | nil=>simp
 | cons a l ih=>rw [List.flatMap_cons,zY,ih,bI,zR,Nat.succ_mul,Nat.add_comm]
theorem jm (t:Ty) (l:List t.T) (off n:Nat):((l.flatMap (aA t)).drop (off*t.size)).take (n*t.size)=((l.drop off).take n).flatMap (aA t):=by
 have h1:l.flatMap (aA t)=(l.take off).flatMap (aA t)++(l.drop off).flatMap (aA t):=by rw [←List.flatMap_append,zP]
 by_cases hl:off≤l.length
 ·have h2:((l.take off).flatMap (aA t)).length=off*t.size:=by rw [bb,List.length_take,Nat.min_eq_left hl]
  rw [h1,List.drop_append,List.drop_eq_nil_of_le (by omega),List.nil_append,h2,Nat.sub_self,List.drop_zero]
  generalize l.drop off=k
  have h3:k.flatMap (aA t)=(k.take n).flatMap (aA t)++(k.drop n).flatMap (aA t):=by rw [←List.flatMap_append,zP]
  by_cases hk:n≤k.length
  ·have h4:((k.take n).flatMap (aA t)).length=n*t.size:=by rw [bb,List.length_take,Nat.min_eq_left hk]
   rw [h3,List.take_append_of_le_length (by omega),za (by omega)]
  ·rw [za (by rw [bb];exact zW _ (by omega)),za (l:=k) (by omega)]
 ·rw [List.drop_eq_nil_of_le (as:=l) (by omega),List.drop_eq_nil_of_le (by rw [bb];exact zW _ (by omega))]
  simp
theorem VD.Ez {g:G} {t:Ty} (hd:t.data=true) {l:List t.T} {us:List Value} {b off cap:Nat} (hv:Vs g (l.flatMap (aA t)) us) (hm:∀(j:Nat) (x:Value),us[j]?=some x→g.mem b (off+j)=some x) (hc:l.length≤cap) (hx:cap≤maxLen) :
  VD g.mem (.sl t.size false (l.map (dh t))) (.slice (some ⟨b,off,none⟩) l.length cap):=by
 have h1:=FH (fun x vs h=>Vs.data t x vs hd h) (fun x=>by rw [bI,dY]) l us hv
 have:=VD.sl (M:=g.mem) t.size false (l.map (dh t)) (some (b,off)) cap us (fun e he=>by obtain ⟨x,_,rfl⟩:=List.mem_map.1 he;exact dY t x) (by simpa using hc) (fun h=>by cases h) (fun h=>by cases h) hx (by rw [lC];exact h1.1) (fun p j x hp hj=>by cases hp;exact hm j x hj) (fun j c x e1 e2=>by rw [lC] at e1;exact h1.2 j c x e1 e2)
 rw [zH] at this
 exact this
theorem Inv.freeze {g:G} {S:Hp} {w:World} (h:Inv g S w) {o:Nat} {t:Ty} {l:List t.T} (hd:t.data=true) (h0:0<t.size) (ho:S.ob o=some (.cells (l.flatMap (aA t)))) :
  ∃g',Inv g' (S.del o) w∧Ext S g w (S.del o) g' w∧(∀v,V g (.tw (.loc o) t.size) v→V g' (.tl t false l) v)∧∀off n v,off+n≤l.length→V g (.ts (.loc o) t.size off n) v→V g' (.tl t false (tk n (dr off l))) v:=by
 have hlen:=bb t l
 have w9:∀i x,(S.del o).ob i=some x→S.ob i=some x:=fun i x e=>by
  have e:(if i=o then none else S.ob i)=some x:=e
  split at e
  ·cases e
  ·exact e
 rcases h.cells o _ ho with ⟨k1,k2⟩ | ⟨b,tt,k1,_⟩
 ·have hl:l=[]:=zZ (by
   rw [k2] at hlen
   rcases Nat.eq_zero_or_pos l.length with h | h
   ·exact h
   ·have:0<l.length*t.size:=Nat.mul_pos h h0
    simp at hlen;omega)
  subst hl
  refine ⟨g,h.less w9 (fun _ e=>e),Ext.less w9 (fun _ e=>e),fun v hv=>?_,fun off n v hle hv=>?_⟩
  ·cases hv with
   | te _ _ ad _=>exact .tl t false [] _ (.ui _ _ ad)
   | tw _ _ n b cap tt h1=>rw [show (Ref.loc o).id=o from rfl,k1] at h1;cases h1
  ·cases hv with
   | tj _ _ _ _ ad _ hn=>
    rw [show tk n (dr off ([]:List t.T))=[] by simp [tk,dr]]
    exact .tl t false [] _ (.ui _ _ ad)
   | ts _ _ _ _ b cap s h1=>rw [show (Ref.loc o).id=o from rfl,k1] at h1;cases h1
 ·obtain ⟨cur,ty,q1,q2,q3,q4,q5,q6⟩:=h.NI ho k1
  refine ⟨_,q5,q6,fun v hv=>?_,fun off n v hle hv=>?_⟩
  ·cases hv with
   | te _ _ ad h1=>rw [show (Ref.loc o).id=o from rfl,k1] at h1;cases h1
   | tw _ _ n b' cap Hs h1 hn hx hp d nI=>
    rw [show (Ref.loc o).id=o from rfl,k1] at h1
    simp only [zI,zU] at h1
    obtain ⟨rfl,h2,rfl⟩:=h1
    have Nq:n=l.length:=Nat.eq_of_mul_eq_mul_right h0 (by rw [←h2,hlen])
    subst Nq
    by_cases hc:cap=0
    ·have:l=[]:=zZ (by omega)
     subst this;subst hc
     exact .tl t false [] _ (.ui _ _ _)
    ·rw [nI hc]
     refine .tl t false l _ (VD.Ez hd (q3.mono q4) (fun j x hj=>?_) hn hx)
     show (if b=b then (if 0+j<(l.flatMap (aA t)).length then cur[0+j]? else none) else g.mem b (0+j))=some x
     rw [if_pos rfl,Nat.zero_add]
     rw [List.getElem?_take] at hj
     split at hj
     ·rename_i eO;rw [if_pos eO];simpa using hj
     ·cases hj
  ·cases hv with
   | tj _ _ _ _ ad h1=>rw [show (Ref.loc o).id=o from rfl,k1] at h1;cases h1
   | ts _ _ _ _ b' cap s h1 hn hx hs hp d nI=>
    rw [show (Ref.loc o).id=o from rfl,k1] at h1
    simp only [zI,zU] at h1
    obtain ⟨rfl,rfl⟩:=h1
    have OT:((l.drop off).take n).length=n:=by simp;omega
    by_cases hc:cap=0
    ·have:n=0:=by omega
     subst this;subst hc
     exact .tl t false _ _ (.ui _ _ _)
    ·rw [nI hc]
     have Co:=(q3.part (off*t.size) (n*t.size)).mono q4
     rw [jm] at Co
     have:=VD.Ez (b:=b) (off:=off*t.size) (cap:=cap) hd Co (fun j x hj=>by
      show (if b=b then (if off*t.size+j<(l.flatMap (aA t)).length then cur[off*t.size+j]? else none) else g.mem b (off*t.size+j))=some x
      rw [if_pos rfl]
      rw [List.getElem?_take] at hj
      split at hj
      ·rw [List.getElem?_drop,List.getElem?_take] at hj
       split at hj
       ·rename_i eO;rw [if_pos eO];simpa using hj
       ·cases hj
      ·cases hj) (by rw [OT];exact hn) hx
     rw [OT] at this
     exact .tl t false _ _ this
theorem Inv.uH {g:G} {S:Hp} {w:World} (h:Inv g S w) {o i:Nat} {X Y:Ref} (hX:X.id=i) (hY:Y.id=o) {t:Ty} {l:List t.T} (h0:0<t.size) (ho:S.ob o=some (.cells (l.flatMap (aA t)))) (hf:S.fr i) {m:Nat} (hm:m≤l.length) :
  ∃g',Inv g' ((S.del o).new i (.cells ((tk m l).flatMap (aA t)))) w∧Ext S g w ((S.del o).new i (.cells ((tk m l).flatMap (aA t)))) g' w∧(∀v,m=l.length→V g (.tw Y t.size) v→V g' (.tw X t.size) v)∧∀v,V g (.ts Y t.size 0 m) v→V g' (.tw X t.size) v:=by
 have hlen:=bb t l
 have htk:(l.flatMap (aA t)).take (m*t.size)=(tk m l).flatMap (aA t):=by
  have:=jm t l 0 m
  simpa [tk] using this
 rcases h.cells o _ ho with ⟨k1,k2⟩ | ⟨b,tt,k1,_⟩
 ·have hl:l=[]:=zZ (by
   rw [k2] at hlen
   rcases Nat.eq_zero_or_pos l.length with h | h
   ·exact h
   ·have:0<l.length*t.size:=Nat.mul_pos h h0
    simp at hlen;omega)
  subst hl
  have w9:∀i x,(S.del o).ob i=some x→S.ob i=some x:=fun i x e=>by
   have e:(if i=o then none else S.ob i)=some x:=e
   split at e
   ·cases e
   ·exact e
  have h1:=h.less (S':=S.del o) w9 (fun _ e=>e)
  have h2:=Ext.less (S:=S) (S':=S.del o) (g:=g) (w:=w) w9 (fun _ e=>e)
  obtain ⟨q1,q2⟩:=h1.emp (o:=i) hf
  have e:(tk m ([]:List t.T)).flatMap (aA t)=[]:=by simp [tk]
  rw [e]
  refine ⟨_,q1,h2.trans q2,fun v _ hv=>?_,fun v hv=>?_⟩
  ·cases hv with
   | te _ _ ad _=>exact .te X t.size ad (by rw [hX];exact cg)
   | tw _ _ n b cap tt h1=>rw [hY,k1] at h1;cases h1
  ·cases hv with
   | tj _ _ _ _ ad _ _=>exact .te X t.size ad (by rw [hX];exact cg)
   | ts _ _ _ _ b cap s h1=>rw [hY,k1] at h1;cases h1
 ·obtain ⟨q1,q2⟩:=h.ren (m:=m*t.size) ho hf k1 (by rw [hlen];exact zW _ hm)
  rw [htk] at q1 q2
  refine ⟨_,q1,q2,fun v Nr hv=>?_,fun v hv=>?_⟩
  ·subst Nr
   cases hv with
   | te _ _ ad h1=>rw [hY,k1] at h1;cases h1
   | tw _ _ n b' cap Hs h1 hn hx hp d nI=>
    rw [hY,k1] at h1
    simp only [zI,zU] at h1
    obtain ⟨rfl,h2,rfl⟩:=h1
    have Nq:n=l.length:=Nat.eq_of_mul_eq_mul_right h0 (by rw [←h2,hlen])
    subst Nq
    exact .tw X t.size _ b cap tt (by rw [hX];exact cg) hn hx hp d nI
  ·cases hv with
   | tj _ _ _ _ ad h1=>rw [hY,k1] at h1;cases h1
   | ts _ _ _ _ b' cap s h1 hn hx hs hp d nI=>
    rw [hY,k1] at h1
    simp only [zI,zU] at h1
    obtain ⟨rfl,rfl⟩:=h1
    simp only [Nat.zero_add,Nat.zero_mul] at hp nI
    exact .tw X t.size m b cap tt (by rw [hX];exact cg) hn hx hp d nI
end
set_option linter.unusedVariables false
set_option linter.unusedSimpArgs false
section
open Go.RowKit
def wR (h:H) (i:Nat):Bool:=h.lk.any (Nat.beq i)
def Cv (h h':H) (T:List Nat) (cs cs':List A):Prop:=
 ∃us,hp h'=app us (hp h)∧(∀u∈us,touch (Fp.wr (T)) u.id=true)∧∀g S w vs,Inv g S w→Agree (Fp.wr (T)) (hp h) S→Vs g cs vs→∃g',Inv g' (app us S) w∧Ext S g w (app us S) g' w∧Vs g' cs' vs
theorem ff {T U:List Nat} {w w':Bool} {s s':List Nat} (h:∀i∈T,i∈U) {i:Nat} (k:touch ⟨false,T,w,s⟩ i=true):touch ⟨false,U,w',s'⟩ i=true:=by
 unfold touch at k ⊢
 simp only [Bool.false_or,List.any_eq_true] at k ⊢
 obtain ⟨j,h1,h2⟩:=k
 exact ⟨j,h j h1,h2⟩
theorem iS:∀(us vs:List Up) (S:Hp),app (us++vs) S=app vs (app us S)
 | [],_,_=>rfl
 | u::us,vs,S=>iS us vs (u.app S)
theorem Agree.mono {T U:List Nat} {w w':Bool} {s s':List Nat} {S S2:Hp} (h:∀i∈T,i∈U) (k:Agree ⟨false,U,w,s⟩ S S2):Agree ⟨false,T,w',s'⟩ S S2:=fun i hi=>k i (ff h hi)
theorem Agree.app {T:Fp} {S S2:Hp} (us:List Up) (k:Agree T S S2):Agree T (app us S) (app us S2):=fun i hi=>nA us S S2 i (k i hi).1 (k i hi).2
theorem Cv.refl (h:H) (T:List Nat) (cs:List A):Cv h h T cs cs:=⟨[],rfl,fun u hu=>(by simp at hu),fun g S w vs hI _ hv=>⟨g,hI,.refl S g w,hv⟩⟩
theorem Cv.trans {h h1 h2:H} {T1 T2:List Nat} {cs A5 Me:List A} (a:Cv h h1 T1 cs A5) (b:Cv h1 h2 T2 A5 Me):Cv h h2 (T1++T2) cs Me:=by
 obtain ⟨us,a1,a2,a3⟩:=a
 obtain ⟨vs,b1,b2,b3⟩:=b
 refine ⟨us++vs,by rw [iS,←a1,b1],fun u hu=>?_,fun g S w xs hI hA hv=>?_⟩
 ·rcases zX.1 hu with h | h
  ·exact ff (fun i hi=>zQ _ hi) (a2 u h)
  ·exact ff (fun i hi=>zS _ hi) (b2 u h)
 ·obtain ⟨g1,k1,k2,k3⟩:=a3 g S w xs hI (hA.mono fun i hi=>zQ _ hi) hv
  have yQ:Agree (Fp.wr (T2)) (hp h1) (app us S):=by rw [a1];exact (hA.mono (fun i hi=>zS _ hi)).app us
  obtain ⟨g2,q1,q2,q3⟩:=b3 g1 _ w xs k1 yQ k3
  rw [iS]
  exact ⟨g2,q1,k2.trans q2,q3⟩
theorem Cv.append {h h1 h2:H} {T1 T2:List Nat} {cs A5 ds mz:List A} (a:Cv h h1 T1 cs A5) (b:Cv h1 h2 T2 ds mz):Cv h h2 (T1++T2) (cs++ds) (A5++mz):=by
 have a':Cv h h1 T1 (cs++ds) (A5++ds):=by
  obtain ⟨us,a1,a2,a3⟩:=a
  refine ⟨us,a1,a2,fun g S w xs hI hA hv=>?_⟩
  obtain ⟨v1,v2⟩:=hv.split
  obtain ⟨g1,k1,k2,k3⟩:=a3 g S w _ hI hA v1
  have:=k3.append (v2.mono k2.le)
  rw [zP] at this
  exact ⟨g1,k1,k2,this⟩
 have b':Cv h1 h2 T2 (A5++ds) (A5++mz):=by
  obtain ⟨us,a1,a2,a3⟩:=b
  refine ⟨us,a1,a2,fun g S w xs hI hA hv=>?_⟩
  obtain ⟨v1,v2⟩:=hv.split
  obtain ⟨g1,k1,k2,k3⟩:=a3 g S w _ hI hA v2
  have:=(v1.mono k2.le).append k3
  rw [zP] at this
  exact ⟨g1,k1,k2,this⟩
 exact a'.trans b'
theorem Vs.nE {g:G} {c:A} {vs:List Value} (h:Vs g [c] vs):∃v,vs=[v]∧V g c v∧v.oneCell'=true:=by
 match vs,h with
 | [v],h=>exact ⟨v,rfl,h.2 0 c v rfl rfl⟩
 | [],h=>exact absurd h.1 (by simp)
 | _::_::_,h=>exact absurd h.1 (by simp)
def I1 {β:Type} (t:Ty) (o:Nat) (h:H) (k:List t.T→H→Option β):Option β:=match h.t.get o with
 | some (.row t' l)=>match fR (.aF t') (.aF t) l with
  | some l'=>bif t.data && Nat.blt 0 t.size && !(wR h (dz o)) then fg h.t o none (fun t1=>k l' { h with t:=t1 }) else none
  | none=>none
 | _=>none
theorem AO {β:Type} {t:Ty} {o:Nat} {h:H} {k:List t.T→H→Option β} {r:β} (hr:I1 t o h k=some r):∃l h',k l h'=some r∧o<16777216∧h.t.get o=some (.row t l)∧hp h'=app [.del o] (hp h)∧t.data=true∧0<t.size:=by
 unfold I1 at hr
 split at hr
 ·rename_i t' l hg
  split at hr
  ·rename_i l' hl
   obtain ⟨e,rfl⟩:=cr hl
   cases e
   obtain ⟨h1,h2⟩:=af hr
   simp only [zC] at h1
   obtain ⟨hq,t1,k1,k2⟩:=bo h2
   exact ⟨l,_,k1,by omega,hg,rY (by omega) k2,h1.1.1,by simpa using h1.1.2⟩
  ·cases hr
 ·cases hr
theorem rP {h:H} {o:Nat} {t:Ty} {l:List t.T} (ho:o<16777216) (hg:h.t.get o=some (.row t l)):(hp h).ob o=some (.cells (l.flatMap (aA t))):=by
 rw [ku ho];unfold fO;rw [hg];rfl
def Il {α:Type} (m:Option Nat) (l:List α):List α:=match m with
 | none=>l
 | some m=>tk m l
theorem o8 {α:Type} (l:List α) (x:α):(cat l [x]).length=l.length+1:=by simp [cat]
def Zf {β:Type} (r z o:Nat) (m:Option Nat) (h:H) (k:Nat→H→Option β):Option β:=match h.t.get o,bq h.rg r with
 | some (.row t' l),some ⟨_,.row t,c⟩=>match fR (.aF t') (.aF t) l with
  | some l'=>bif Nat.blt r 64 && Nat.beq z t.size && Nat.blt 0 t.size && !(wR h (dz o)) && !(wR h (iF r)) then fg h.t o none (fun t1=>k (len (α:=Option (List t.T)) c) { h with t:=t1,rg:=jK h.rg r (.row t) (cat (α:=Option (List t.T)) c [some (Il m l')]) }) else none
  | none=>none
 | _,_=>none
theorem tA {t:Ty} {c:List (Option (List t.T))} {l:List t.T} (j:Nat):dQ (.row t) (cat c [some l]) j=if j=c.length then some (.cells (l.flatMap (aA t))) else dQ (.row t) c j:=by
 show (match lA (cat c [some l]) j with | some (some l)=>some (Ob.cells (l.flatMap (aA t))) | _=>none)=if j=c.length then some (Ob.cells (l.flatMap (aA t))) else (match lA c j with | some (some l)=>some (Ob.cells (l.flatMap (aA t))) | _=>none)
 rw [u0]
 by_cases h:j=c.length
 ·rw [if_pos h,if_pos h]
 ·rw [if_neg h,if_neg h]
theorem GC {β:Type} {r z o:Nat} {m:Option Nat} {h:H} {k:Nat→H→Option β} {x:β} (hr:Zf r z o m h k=some x):∃(t:Ty) (l:List t.T) (j:Nat) (h':H),k j h'=some x∧o<16777216∧r<64∧z=t.size∧0<t.size∧h.t.get o=some (.row t l)∧(hp h).fr (fE r j)∧hp h'=app [.del o,.new (fE r j) (.cells ((Il m l).flatMap (aA t)))] (hp h):=by
 unfold Zf at hr
 split at hr
 ·rename_i t' l _ t c hg hf
  split at hr
  ·rename_i l' hl
   obtain ⟨e,rfl⟩:=cr hl
   cases e
   obtain ⟨h1,h2⟩:=af hr
   simp only [zC] at h1
   obtain ⟨⟨⟨⟨h3,h4⟩,h5⟩,_⟩,_⟩:=h1
   have h3:r<64:=by simpa using h3
   obtain ⟨hq,t1,k1,k2⟩:=bo h2
   refine ⟨t',l,_,_,k1,by omega,h3,beq_eq h4,by simpa using h5,hg,?_,?_⟩
   ·rw [gA.2,f_ h3 hf];exact Nat.le_refl _
   ·have e1:=rY (h:=h) (q:=o) (by omega) k2
    have e2:=pb (h:={ h with t:=t1 }) (k:=.row t') (c:=cat (α:=Option (List t'.T)) c [some (Il m l)]) (n:=List.length (α:=Option (List t'.T)) c) h3 hf rfl (o8 (α:=Option (List t'.T)) c _) (fun j=>tA (c:=c) (l:=Il m l) j)
    rw [e1] at e2
    exact e2
  ·cases hr
 ·cases hr
theorem rD {t:Ty} {c:List t.T} {x:t.T} (j:Nat):dQ (.box t) (cat c [x]) j=if j=c.length then some (.cells (aA t x)) else dQ (.box t) c j:=by
 show (match lA (cat c [x]) j with | some x=>some (Ob.cells (aA t x)) | none=>none)=if j=c.length then some (Ob.cells (aA t x)) else (match lA c j with | some x=>some (Ob.cells (aA t x)) | none=>none)
 rw [u0]
 by_cases h:j=c.length
 ·rw [if_pos h,if_pos h]
 ·rw [if_neg h,if_neg h]
theorem yj {ka va:Bool} {tk tv:Ty} {c:List (List (tk.T×tv.T))} (j:Nat):dQ (.map ka tk va tv) (cat c [[]]) j=if j=c.length then some (.cX (.map [])) else dQ (.map ka tk va tv) c j:=by
 show (match lA (cat c [[]]) j with | some es=>some (Ob.cX (.map (es.map fun e=>(bO ka tk e.1,bO va tv e.2)))) | none=>none)=if j=c.length then some (Ob.cX (.map [])) else (match lA c j with | some es=>some (Ob.cX (.map (es.map fun e=>(bO ka tk e.1,bO va tv e.2)))) | none=>none)
 rw [u0]
 by_cases h:j=c.length
 ·rw [if_pos h,if_pos h];rfl
 ·rw [if_neg h,if_neg h]
def adV {β:Type} (r z i n:Nat) (h:H) (k:Nat→H→Option β):Option β:=match bq h.rg r with
 | some ⟨_,.row t,c⟩=>bif Nat.blt r 64 && Nat.beq z t.size && Nat.blt 0 t.size && !(wR h (iF r)) then bd (aT (α:=t.T) c i) (fun l=>k (len (α:=Option (List t.T)) c) { h with rg:=jK (jK h.rg r (.row t) (upd (α:=Option (List t.T)) c i none)) r (.row t) (cat (α:=Option (List t.T)) (upd (α:=Option (List t.T)) c i none) [some (tk n l)]) }) else none
 | _=>none
theorem BE {α:Type} {c:List (Option (List α))} {j:Nat} {l:List α} (h:aT c j=some l):lA c j=some (some l):=by
 unfold aT at h
 unfold lA
 rw [zA] at h
 cases hc:c[j]? with
 | none=>rw [hc] at h;cases h
 | some x=>rw [hc] at h;simp at h;rw [h]
theorem vW {α:Type} (l:List α) (i:Nat) (x:α):(upd l i x).length=l.length:=zM ..
theorem qt {t:Ty} {c:List (Option (List t.T))} {j:Nat} (hj:j<c.length) (i:Nat):dQ (.row t) (upd c j none) i=if i=j then none else dQ (.row t) c i:=by
 show (match lA (upd c j none) i with | some (some l)=>some (Ob.cells (l.flatMap (aA t))) | _=>none)=if i=j then none else (match lA c i with | some (some l)=>some (Ob.cells (l.flatMap (aA t))) | _=>none)
 rw [pn]
 by_cases h:i=j
 ·subst h;rw [if_pos ⟨rfl,hj⟩,if_pos rfl]
 ·rw [if_neg (fun k=>h k.1),if_neg h]
theorem Ot {β:Type} {r z i n:Nat} {h:H} {k:Nat→H→Option β} {x:β} (hr:adV r z i n h k=some x):∃(t:Ty) (l:List t.T) (j:Nat) (h':H),k j h'=some x∧r<64∧z=t.size∧0<t.size∧(hp h).ob (fE r i)=some (.cells (l.flatMap (aA t)))∧(hp h).fr (fE r j)∧hp h'=app [.del (fE r i),.new (fE r j) (.cells ((tk n l).flatMap (aA t)))] (hp h):=by
 unfold adV at hr
 split at hr
 ·rename_i _ t c hf
  obtain ⟨h1,h2⟩:=af hr
  simp only [zC] at h1
  obtain ⟨⟨⟨h3,h4⟩,h5⟩,_⟩:=h1
  have h3:r<64:=by simpa using h3
  obtain ⟨l,hl,hk⟩:=sC h2
  have hg:=BE hl
  have eO:i<List.length (α:=Option (List t.T)) c:=(zB.1 hg).1
  refine ⟨t,l,_,_,hk,h3,beq_eq h4,by simpa using h5,?_,?_,?_⟩
  ·rw [gA.1,lr h3 hf]
   show (match lA (α:=Option (List t.T)) c i with | some (some l)=>some (Ob.cells (l.flatMap (aA t))) | _=>none)=_
   rw [hg]
  ·rw [gA.2,f_ h3 hf];exact Nat.le_refl _
  ·have e1:=rX (h:=h) (k:=.row t) (c:=upd (α:=Option (List t.T)) c i none) (j:=i) (u:=.del (fE r i)) h3 hf (vW (α:=Option (List t.T)) c i _) (fun m hm=>by rw [qt (c:=c) eO,if_neg hm]) rfl (by rw [qt (c:=c) eO,if_pos rfl];exact if_pos rfl) rfl
   have Fq:bq (jK h.rg r (.row t) (upd (α:=Option (List t.T)) c i none)) r=some ⟨r,.row t,upd (α:=Option (List t.T)) c i none⟩:=(nh h.rg r (.row t) (upd (α:=Option (List t.T)) c i none) r _ hf).trans (if_pos rfl)
   have hle:List.length (α:=Option (List t.T)) (upd (α:=Option (List t.T)) c i none)=List.length (α:=Option (List t.T)) c:=vW (α:=Option (List t.T)) c i _
   have e2:=pb (h:={ h with rg:=jK h.rg r (.row t) (upd (α:=Option (List t.T)) c i none) }) (k:=.row t) (c:=cat (α:=Option (List t.T)) (upd (α:=Option (List t.T)) c i none) [some (tk n l)]) (n:=List.length (α:=Option (List t.T)) c) (ob:=.cells ((tk n l).flatMap (aA t))) h3 Fq hle ((o8 (α:=Option (List t.T)) _ _).trans (congrArg (· + 1) hle)) (fun m=>by rw [tA (c:=upd (α:=Option (List t.T)) c i none) (l:=tk n l) m,hle])
   rw [e1] at e2
   exact e2
 ·cases hr
def adM {β:Type} (r o:Nat) (h:H) (k:Nat→H→Option β):Option β:=match h.t.get o,bq h.rg r with
 | some (.cX (.map [])),some ⟨_,.map ka tk va tv,c⟩=>bif Nat.blt r 64 && !(wR h (dz o)) && !(wR h (iF r)) then fg h.t o none (fun t1=>k (len (α:=List (tk.T×tv.T)) c) { h with t:=t1,rg:=jK h.rg r (.map ka tk va tv) (cat (α:=List (tk.T×tv.T)) c [[]]) }) else none
 | _,_=>none
theorem Ou {β:Type} {r o:Nat} {h:H} {k:Nat→H→Option β} {x:β} (hr:adM r o h k=some x):∃(j:Nat) (h':H),k j h'=some x∧o<16777216∧r<64∧(hp h).ob o=some (.cX (.map []))∧(hp h).fr (fE r j)∧hp h'=app [.del o,.new (fE r j) (.cX (.map []))] (hp h):=by
 unfold adM at hr
 split at hr
 ·rename_i _ ka tk va tv c hg hf
  obtain ⟨h1,h2⟩:=af hr
  simp only [zC] at h1
  have h3:r<64:=by simpa using h1.1.1
  obtain ⟨hq,t1,k1,k2⟩:=bo h2
  refine ⟨_,_,k1,by omega,h3,?_,?_,?_⟩
  ·rw [ku (by omega)];unfold fO;rw [hg];rfl
  ·rw [gA.2,f_ h3 hf];exact Nat.le_refl _
  ·have e1:=rY (h:=h) (q:=o) (by omega) k2
   have e2:=pb (h:={ h with t:=t1 }) (k:=.map ka tk va tv) (c:=cat (α:=List (tk.T×tv.T)) c [[]]) (n:=List.length (α:=List (tk.T×tv.T)) c) (ob:=.cX (.map [])) h3 hf rfl (o8 (α:=List (tk.T×tv.T)) c _) (fun j=>yj (c:=c) j)
   rw [e1] at e2
   exact e2
 ·cases hr
def Ul (h:H) (o:Nat):Option (List A):=match h.t.get o with
 | some (.cells cs)=>some cs
 | some (.one t x)=>some (aA t x)
 | _=>none
def adB {β:Type} (r o:Nat) (t:Ty) (x:t.T) (h:H) (k:Nat→H→Option β):Option β:=match bq h.rg r with
 | some ⟨_,.box t',c⟩=>match fR t t' x with
  | some x'=>bif Nat.blt r 64 && !(wR h (dz o)) && !(wR h (iF r)) then fg h.t o none (fun t1=>k (len (α:=t'.T) c) { h with t:=t1,rg:=jK h.rg r (.box t') (cat (α:=t'.T) c [x']) }) else none
  | none=>none
 | _=>none
theorem Ov {β:Type} {r o:Nat} {t:Ty} {y:t.T} {h:H} {k:Nat→H→Option β} {x:β} (hr:adB r o t y h k=some x):∃(j:Nat) (h':H),k j h'=some x∧o<16777216∧r<64∧(hp h).fr (fE r j)∧hp h'=app [.del o,.new (fE r j) (.cells (aA t y))] (hp h):=by
 unfold adB at hr
 split at hr
 ·rename_i _ t' c hf
  split at hr
  ·rename_i x' hx
   obtain ⟨e,rfl⟩:=cr hx
   cases e
   obtain ⟨h1,h2⟩:=af hr
   simp only [zC] at h1
   have h3:r<64:=by simpa using h1.1.1
   obtain ⟨hq,t1,k1,k2⟩:=bo h2
   refine ⟨_,_,k1,by omega,h3,?_,?_⟩
   ·rw [gA.2,f_ h3 hf];exact Nat.le_refl _
   ·have e1:=rY (h:=h) (q:=o) (by omega) k2
    have e2:=pb (h:={ h with t:=t1 }) (k:=.box t) (c:=cat (α:=t.T) c [y]) (n:=List.length (α:=t.T) c) (ob:=.cells (aA t y)) h3 hf rfl (o8 (α:=t.T) c _) (fun j=>rD (c:=c) (x:=y) j)
    rw [e1] at e2
    exact e2
  ·cases hr
 ·cases hr
def X_ (h:H) (r:Nat):Option Ty:=match bq h.rg r with
 | some ⟨_,.box t,_⟩=>some t
 | _=>none
def fixC:Nat→Ty→List A→H→Option (List A×H×List Nat)
 | 0,_,_,_=>none
 | f+1,t,cs,h=>match t with
  | .pair a b=>match fixC f a (cs.take a.size) h with
   | some (A5,h1,T1)=>match fixC f b (cs.drop a.size) h1 with
    | some (Me,h2,T2)=>some (A5++Me,h2,T1++T2)
    | none=>none
   | none=>none
  | .aF t=>match cs with
   | [.tw (.loc o) z]=>bif Nat.beq z t.size then I1 t o h (fun l h'=>some ([.tl t false l],h',[dz o])) else none
   | [.ts (.loc o) z off n]=>match h.t.get o with
    | some (.row _ l0)=>bif Nat.beq z t.size then I1 t o h (fun l h'=>some ([.tl t false (tk n (dr off l))],h',[dz o])) else none
    | _=>none
   | cs=>some (cs,h,[])
  | .je r z=>match cs with
   | [.tw (.loc o) z']=>bif Nat.beq z z' then Zf r z o none h (fun j h'=>some ([.tw (.eH r j) z],h',[dz o,iF r])) else none
   | [.ts (.loc o) z' 0 n]=>bif Nat.beq z z' then Zf r z o (some n) h (fun j h'=>some ([.tw (.eH r j) z],h',[dz o,iF r])) else none
   | cs=>some (cs,h,[])
  | .mp r=>match cs with
   | [.mp (.loc o)]=>adM r o h (fun j h'=>some ([.mp (.eH r j)],h',[dz o,iF r]))
   | cs=>some (cs,h,[])
  | .ptr r=>match cs with
   | [.ptr o 0]=>match Ul h o,X_ h r with
    | some ds,some t=>match fixC f t ds h with
     | some (jF,h1,T1)=>match pN t jF with
      | some x=>bif T1.any (Nat.beq (dz o)) then none else adB r o t x h1 (fun j h'=>some ([.tp (.eH r j) []],h',T1++[dz o,iF r]))
      | none=>none
     | none=>none
    | _,_=>none
   | cs=>some (cs,h,[])
  | _=>some (cs,h,[])
theorem tg {g:G} {S:Hp} {w:World} (h:Inv g S w) {X:Ref} {t:Ty} {l:List t.T} (h0:0<t.size) (ho:S.ob X.id=some (.cells (l.flatMap (aA t)))) {off n:Nat} {v:Value} (hv:V g (.ts X t.size off n) v):off+n≤l.length:=by
 cases hv with
 | tj _ _ _ _ _ _ hn=>omega
 | ts _ _ _ _ b cap s h1 hn hx hs hp d hd=>
  rcases h.cells _ _ ho with ⟨k1,_⟩ | ⟨b',tt,k1,_⟩
  ·rw [k1] at h1;cases h1
  ·rw [k1] at h1
   simp only [zI,zU] at h1
   obtain ⟨_,rfl⟩:=h1
   rw [bb] at hs
   exact Nat.le_of_mul_le_mul_right hs h0
theorem xY {o:Nat} {T:List Nat} {w:Bool} {s:List Nat} (ho:o<16777216) (h:touch ⟨false,T,w,s⟩ o=true):T.any (Nat.beq (dz o))=true:=by
 unfold touch at h
 rw [ni ho,Bool.false_or] at h
 exact h
theorem ra {T:Fp} {o i:Nat} {x:Ob} (ha:touch T o=true) (hb:touch T i=true) {u:Up} (hu:u∈[.del o,.new i x]):touch T u.id=true:=by
 rcases List.mem_cons.1 hu with rfl | hu
 ·exact ha
 ·rcases zF.1 hu with rfl;exact hb
theorem pr:∀(f:Nat) (t:Ty) (cs:List A) (h:H) (cs':List A) (h':H) (T:List Nat),fixC f t cs h=some (cs',h',T)→Cv h h' T cs cs':=by
 intro f
 induction f with
 | zero=>intro t cs h cs' h' T e;cases e
 | succ f ih=>
  intro t cs h cs' h' T e
  have lz:∀{cs:List A},some (cs,h,([]:List Nat))=some (cs',h',T)→Cv h h' T cs cs':=fun e=>by
   simp only [zI,zU] at e
   obtain ⟨rfl,rfl,rfl⟩:=e
   exact Cv.refl h [] _
  unfold fixC at e
  split at e
  ·rename_i a b
   split at e
   ·rename_i A5 h1 T1 e1
    split at e
    ·rename_i Me h2 T2 e2
     simp only [zI,zU] at e
     obtain ⟨rfl,rfl,rfl⟩:=e
     have:=(ih _ _ _ _ _ _ e1).append (ih _ _ _ _ _ _ e2)
     rwa [zP] at this
    ·cases e
   ·cases e
  ·rename_i t
   split at e
   ·rename_i o z
    obtain ⟨hz,e0⟩:=af e
    obtain rfl:=beq_eq hz
    obtain ⟨l,h1,e1,ho,hg,hh,hd,h0⟩:=AO e0
    simp only [zI,zU] at e1
    obtain ⟨rfl,rfl,rfl⟩:=e1
    refine ⟨_,hh,fun u hu=>by rcases zF.1 hu with rfl;exact aB (o:=o) ho (.head _),fun g S w vs hI hA hv=>?_⟩
    obtain ⟨v,rfl,hv,Cy⟩:=hv.nE
    obtain ⟨g',k1,k2,k3,_⟩:=hI.freeze hd h0 ((hA o (aB ho (.head _))).1.trans (rP ho hg))
    exact ⟨g',k1,k2,.cons (k3 v hv) Cy .nil⟩
   ·rename_i o z off n
    split at e
    ·obtain ⟨hz,e0⟩:=af e
     obtain rfl:=beq_eq hz
     obtain ⟨l,h1,e1,ho,hg,hh,hd,h0⟩:=AO e0
     simp only [zI,zU] at e1
     obtain ⟨rfl,rfl,rfl⟩:=e1
     refine ⟨_,hh,fun u hu=>by rcases zF.1 hu with rfl;exact aB (o:=o) ho (.head _),fun g S w vs hI hA hv=>?_⟩
     obtain ⟨v,rfl,hv,Cy⟩:=hv.nE
     have fe:=(hA o (aB ho (.head _))).1.trans (rP ho hg)
     obtain ⟨g',k1,k2,_,k3⟩:=hI.freeze hd h0 fe
     exact ⟨g',k1,k2,.cons (k3 off n v (tg hI (X:=.loc o) h0 fe hv) hv) Cy .nil⟩
    ·cases e
   ·exact lz e
  ·rename_i r z
   split at e
   ·rename_i o z'
    obtain ⟨hz,e0⟩:=af e
    obtain rfl:=beq_eq hz
    obtain ⟨t,l,j,h1,e1,ho,hr,rfl,h0,hg,hf,hh⟩:=GC e0
    simp only [zI,zU] at e1
    obtain ⟨rfl,rfl,rfl⟩:=e1
    refine ⟨_,hh,fun u hu=>ra (aB (o:=o) ho (.head _)) (bX (r:=r) (j:=j) hr (.tail _ (.head _))) hu,fun g S w vs hI hA hv=>?_⟩
    obtain ⟨v,rfl,hv,Cy⟩:=hv.nE
    have fe:=(hA o (aB ho (.head _))).1.trans (rP ho hg)
    obtain ⟨g',k1,k2,k3,_⟩:=hI.uH (X:=.eH r j) (Y:=.loc o) (i:=fE r j) rfl rfl h0 fe ((hA (fE r j) (bX (r:=r) (j:=j) hr (.tail _ (.head _)))).2.2 hf) (Nat.le_refl l.length)
    have e2:tk l.length l=l:=by simp [tk]
    rw [e2] at k1 k2
    exact ⟨g',k1,k2,.cons (k3 v rfl hv) Cy .nil⟩
   ·rename_i o z' n
    obtain ⟨hz,e0⟩:=af e
    obtain rfl:=beq_eq hz
    obtain ⟨t,l,j,h1,e1,ho,hr,rfl,h0,hg,hf,hh⟩:=GC e0
    simp only [zI,zU] at e1
    obtain ⟨rfl,rfl,rfl⟩:=e1
    refine ⟨_,hh,fun u hu=>ra (aB (o:=o) ho (.head _)) (bX (r:=r) (j:=j) hr (.tail _ (.head _))) hu,fun g S w vs hI hA hv=>?_⟩
    obtain ⟨v,rfl,hv,Cy⟩:=hv.nE
    have fe:=(hA o (aB ho (.head _))).1.trans (rP ho hg)
    have hle:=tg hI (X:=.loc o) h0 fe hv
    obtain ⟨g',k1,k2,_,k3⟩:=hI.uH (X:=.eH r j) (Y:=.loc o) (i:=fE r j) rfl rfl h0 fe ((hA (fE r j) (bX (r:=r) (j:=j) hr (.tail _ (.head _)))).2.2 hf) (m:=n) (by omega)
    exact ⟨g',k1,k2,.cons (k3 v hv) Cy .nil⟩
   ·exact lz e
  ·rename_i r
   split at e
   ·rename_i o
    obtain ⟨j,h1,e1,ho,hr,IL,hf,hh⟩:=Ou e
    simp only [zI,zU] at e1
    obtain ⟨rfl,rfl,rfl⟩:=e1
    refine ⟨_,hh,fun u hu=>ra (aB (o:=o) ho (.head _)) (bX (r:=r) (j:=j) hr (.tail _ (.head _))) hu,fun g S w vs hI hA hv=>?_⟩
    obtain ⟨v,rfl,hv,Cy⟩:=hv.nE
    have fe:=(hA o (aB ho (.head _))).1.trans IL
    have oH:=(hA (fE r j) (bX (r:=r) (j:=j) hr (.tail _ (.head _)))).2.2 hf
    obtain ⟨b,s,ob,k1,k2,k3⟩:=hI.cX o _ fe
    obtain ⟨q1,q2⟩:=hI.mvw (s':=s) (x':=.cX (.map [])) fe oH k1 rfl (fun _ _=>rfl) rfl rfl rfl ⟨ob,k2,k3.mono (l4 (hI.fresh _ oH))⟩
    refine ⟨_,q1,q2,.cons ?_ Cy .nil⟩
    cases hv with
    | mp _ b' s' h1=>
     rw [show (Ref.loc o).id=o from rfl,k1] at h1
     cases h1
     exact .mp (.eH r j) b s cg
   ·exact lz e
  ·rename_i r
   split at e
   ·rename_i o
    split at e
    ·rename_i ds t Y3 ht
     split at e
     ·rename_i jF h1 T1 e1
      split at e
      ·rename_i x hx
       cases hT:T1.any (Nat.beq (dz o)) with
       | true=>rw [hT] at e;cases e
       | false=>
        rw [hT] at e;simp only [cond_false] at e
        obtain ⟨j,h2,e2,ho,hr,hf,hh⟩:=Ov e
        simp only [zI,zU] at e2
        obtain ⟨rfl,rfl,rfl⟩:=e2
        obtain ⟨us,c1,c2,c3⟩:=ih _ _ _ _ _ _ e1
        have IL:(hp h).ob o=some (.cells ds):=by
         rw [ku ho]
         unfold fO
         unfold Ul at Y3
         split at Y3<;>simp_all [gH.low]
        refine ⟨us++[.del o,.new (fE r j) (.cells (aA t x))],by rw [iS,←c1,hh],fun u hu=>?_,fun g S w vs hI hA hv=>?_⟩
        ·rcases zX.1 hu with hu | hu
         ·exact ff (fun i hi=>zQ _ hi) (c2 u hu)
         ·exact ra (aB (o:=o) ho (zS _ (.head _))) (bX (r:=r) (j:=j) hr (zS _ (.tail _ (.head _)))) hu
        ·obtain ⟨v,rfl,hv,Cy⟩:=hv.nE
         have fe:=(hA o (aB ho (zS _ (.head _)))).1.trans IL
         cases hv with
         | ptr _ _ b s hg=>
          rcases hI.cells o ds fe with ⟨k1,_⟩ | ⟨b',tt,k1,cur,ty,k2,pO,k3⟩
          ·rw [k1] at hg;cases hg
          rw [k1] at hg;cases hg
          obtain ⟨g1,q1,q2,q3⟩:=c3 g S w _ hI (hA.mono fun i hi=>zQ _ hi) k3
          obtain ⟨z1,z2⟩:=jJ (g:=g1) t jF x hx
          have z3:=z2 _ q3
          have aaU:(app us S).ob o=some (.cells ds):=by
           rw [(dj us S o (fun u hu e=>by have:=xY ho (e▸c2 u hu);rw [hT] at this;cases this)).1];exact fe
          have IQ:(app us S).fr (fE r j):=by
           have IV:=(hA.mono (T:=[iF r]) (w':=true) (s':=[]) (fun i hi=>by rcases zF.1 hi with rfl;exact zS _ (.tail _ (.head _)))).app us
           rw [←c1] at IV
           exact (IV (fE r j) (bX (r:=r) (j:=j) hr (.head _))).2.2 hf
          have hl:ds.length=(aA t x).length:=by rw [k3.1,z3.1]
          obtain ⟨y1,y2⟩:=q1.mvw (s':=((aA t x).length,tt)) (x':=.cells (aA t x)) aaU IQ (q2.le.bm _ _ k1) rfl (fun _ _=>rfl) rfl rfl rfl ⟨rfl,cur,ty,k2,pO,by rw [←hl];exact z3.mono (l4 (q1.fresh _ IQ))⟩
          rw [iS]
          exact ⟨_,y1,q2.trans y2,.cons (.tp (.eH r j) [] _ _ cg trivial) Cy .nil⟩
      ·cases e
     ·cases e
    ·cases e
   ·exact lz e
  ·exact lz e
def NL {β:Type} (u:Ty) (ps:List A) (h:H) (k:List A→H→List Nat→Option β):Option β:=match u,ps with
 | .je r z,[.ts (.eH r' i) z' 0 n]=>bif Nat.beq z z' && Nat.beq r r' then adV r z i n h (fun j h'=>k [.tw (.eH r j) z] h' [iF r]) else none
 | u,ps=>match fixC 64 u ps h with
  | some (uy,h',T)=>k uy h' T
  | none=>none
theorem I6 {β:Type} {u:Ty} {ps:List A} {h:H} {k:List A→H→List Nat→Option β} {x:β} (hr:NL u ps h k=some x):∃uy h' T,k uy h' T=some x∧Cv h h' T ps uy:=by
 unfold NL at hr
 split at hr
 ·rename_i r z r' i z' n
  obtain ⟨hz,e0⟩:=af hr
  rw [zC] at hz
  obtain rfl:=beq_eq hz.1
  obtain rfl:=beq_eq hz.2
  obtain ⟨t,l,j,h1,e1,OQ,rfl,h0,hg,hf,hh⟩:=Ot e0
  refine ⟨_,_,_,e1,_,hh,fun u hu=>ra (bX (r:=r) (j:=i) OQ (.head _)) (bX (r:=r) (j:=j) OQ (.head _)) hu,fun g S w vs hI hA hv=>?_⟩
  obtain ⟨v,rfl,hv,Cy⟩:=hv.nE
  have fe:=(hA (fE r i) (bX (r:=r) (j:=i) OQ (.head _))).1.trans hg
  have hle:=tg hI (X:=.eH r i) h0 fe hv
  obtain ⟨g',k1,k2,_,k3⟩:=hI.uH (X:=.eH r j) (Y:=.eH r i) (i:=fE r j) rfl rfl h0 fe ((hA (fE r j) (bX (r:=r) (j:=j) OQ (.head _))).2.2 hf) (m:=n) (by omega)
  exact ⟨g',k1,k2,.cons (k3 v hv) Cy .nil⟩
 ·split at hr
  ·rename_i uy h' T hf
   exact ⟨_,_,_,hr,pr _ _ _ _ _ _ _ hf⟩
  ·cases hr
end
set_option linter.unusedVariables false
set_option linter.unusedSimpArgs false
section
open Go.RowKit
theorem yd {S:Hp} {i:Nat} {x:Ob}:(S.set i x).ob i=some x:=if_pos rfl
theorem Ci {o:Nat} (h:o<16777215):o<16777216:=by omega
theorem aY {a b:Nat} (h:Nat.blt a b=true):a<b:=Nat.le_of_ble_eq_true h
theorem qR {α:Type} (l:List α) (i:Nat) (x:α):(upd l i x).length=l.length:=zM
theorem rz {t:Ty} {c:List (Option (List t.T))} {j:Nat} {l:List t.T} (hj:j<c.length) (i:Nat):dQ (.row t) (upd c j (some l)) i=if i=j then some (.cells (l.flatMap (aA t))) else dQ (.row t) c i:=by
 show (match lA (upd c j (some l)) i with | some (some l)=>some (Ob.cells (l.flatMap (aA t))) | _=>none)=if i=j then some (Ob.cells (l.flatMap (aA t))) else (match lA c i with | some (some l)=>some (Ob.cells (l.flatMap (aA t))) | _=>none)
 rw [pn]
 by_cases h:i=j
 ·rw [if_pos ⟨h,hj⟩,if_pos h]
 ·rw [if_neg (fun k=>h k.1),if_neg h]
theorem rC {t:Ty} {c:List t.T} {j:Nat} {x:t.T} (hj:j<c.length) (i:Nat):dQ (.box t) (upd c j x) i=if i=j then some (.cells (aA t x)) else dQ (.box t) c i:=by
 show (match lA (upd c j x) i with | some x=>some (Ob.cells (aA t x)) | none=>none)=if i=j then some (Ob.cells (aA t x)) else (match lA c i with | some x=>some (Ob.cells (aA t x)) | none=>none)
 rw [pn]
 by_cases h:i=j
 ·rw [if_pos ⟨h,hj⟩,if_pos h]
 ·rw [if_neg (fun k=>h k.1),if_neg h]
def jg:Ref→Nat
 | .loc o=>dz o
 | .eH r _=>iF r
def B8:Ref→Bool
 | .loc o=>Nat.blt o 16777216
 | .eH r _=>Nat.blt r 64
theorem bG {X:Ref} (h:B8 X=true) {l:List Nat} {w:Bool} {s:List Nat} (hm:jg X∈l):touch ⟨false,l,w,s⟩ X.id=true:=by
 cases X with
 | loc o=>exact aB (o:=o) (aY h) hm
 | eH r j=>exact bX (r:=r) (j:=j) (aY h) hm
def jL {β:Type} (h:H) (X:Ref) (k:(t:Ty)→List t.T→Option β):Option β:=match X with
 | .loc o=>match h.t.get o with
  | some (.row t l)=>bif Nat.blt o 16777216 then k t l else none
  | _=>none
 | .eH r j=>match bq h.rg r with
  | some ⟨_,.row t,c⟩=>bif Nat.blt r 64 then bd (aT (α:=t.T) c j) (fun l=>k t l) else none
  | _=>none
theorem yh {α:Type} {c:List (Option (List α))} {j:Nat} {l:List α} (h:aT c j=some l):lA c j=some (some l):=by
 unfold aT at h
 unfold lA
 rw [zA] at h
 cases hc:c[j]? with
 | none=>rw [hc] at h;cases h
 | some x=>rw [hc] at h;simp at h;rw [h]
theorem BF {t:Ty} {c:List (Option (List t.T))} {j:Nat} {l:List t.T} (h:lA c j=some (some l)):dQ (.row t) c j=some (.cells (l.flatMap (aA t))):=by
 show (match lA c j with | some (some l)=>some (Ob.cells (l.flatMap (aA t))) | _=>none)=_
 rw [h]
theorem eX {β:Type} {h:H} {X:Ref} {k:(t:Ty)→List t.T→Option β} {r:β} (hr:jL h X k=some r):∃t l,k t l=some r∧B8 X=true∧(hp h).ob X.id=some (.cells (l.flatMap (aA t))):=by
 cases X with
 | loc o=>
  unfold jL at hr
  simp only at hr
  split at hr
  ·rename_i t l hg
   obtain ⟨h1,h2⟩:=af hr
   exact ⟨t,l,h2,h1,rP (aY h1) hg⟩
  ·cases hr
 | eH r j=>
  unfold jL at hr
  simp only at hr
  split at hr
  ·rename_i _ t c hf
   obtain ⟨h1,h2⟩:=af hr
   obtain ⟨l,h3,h4⟩:=sC h2
   refine ⟨t,l,h4,h1,?_⟩
   show (hp h).ob (fE r j)=_
   rw [gA.1,lr (aY h1) hf]
   exact BF (yh h3)
  ·cases hr
def Gr {β:Type} (h:H) (X:Ref) (k:(t:Ty)→t.T→Option β):Option β:=match X with
 | .loc o=>match h.t.get o with
  | some (.one t x)=>bif Nat.blt o 16777216 then k t x else none
  | _=>none
 | .eH r j=>match bq h.rg r with
  | some ⟨_,.box t,c⟩=>bif Nat.blt r 64 then k t (nth (α:=t.T) t.cQ c j) else none
  | _=>none
theorem BI {t:Ty} {c:List t.T} {j:Nat} (h:j<c.length):dQ (.box t) c j=some (.cells (aA t (nth t.cQ c j))):=by
 show (match lA c j with | some x=>some (Ob.cells (aA t x)) | none=>none)=_
 have e:lA c j=some (nth t.cQ c j):=by simp [lA,nth,zA,zD h]
 rw [e]
theorem A6 {β:Type} {h:H} {X:Ref} {k:(t:Ty)→t.T→Option β} {r:β} (hr:Gr h X k=some r):∃t x,k t x=some r∧B8 X=true∧∀g S w b s,Inv g S w→S.ob X.id=(hp h).ob X.id→(S.fr X.id↔(hp h).fr X.id)→g.bm X.id=some (some b,s)→S.ob X.id=some (.cells (aA t x)):=by
 cases X with
 | loc o=>
  unfold Gr at hr
  simp only at hr
  split at hr
  ·rename_i t x hg
   obtain ⟨h1,h2⟩:=af hr
   refine ⟨t,x,h2,h1,fun g S w b s _ e _ _=>?_⟩
   rw [e]
   show (hp h).ob o=_
   rw [ku (aY h1)];unfold fO;rw [hg];rfl
  ·cases hr
 | eH r j=>
  unfold Gr at hr
  simp only at hr
  split at hr
  ·rename_i _ t c hf
   obtain ⟨h1,h2⟩:=af hr
   have h3:r<64:=aY h1
   refine ⟨t,_,h2,h1,fun g S w b s hI e e2 hg=>?_⟩
   have eO:j<List.length (α:=t.T) c:=by
    rcases Nat.lt_or_ge j (List.length (α:=t.T) c) with eO | vM
    ·exact eO
    ·have:S.fr (fE r j):=e2.2 (by rw [show (Ref.eH r j).id=fE r j from rfl,gA.2,f_ h3 hf];exact vM)
     have:=hI.fresh _ this
     rw [show (Ref.eH r j).id=fE r j from rfl,this] at hg;cases hg
   rw [e]
   show (hp h).ob (fE r j)=_
   rw [gA.1,lr h3 hf]
   exact BI eO
  ·cases hr
theorem mS (t:Ty) (l:List t.T) {i:Nat} (hi:i<l.length):l.flatMap (aA t)=(l.take i).flatMap (aA t)++(aA t (nth t.cQ l i)++(l.drop (i+1)).flatMap (aA t))∧((l.take i).flatMap (aA t)).length=i*t.size:=by
 refine ⟨?_,by rw [bb,List.length_take,Nat.min_eq_left (Nat.le_of_lt hi)]⟩
 have e:l=l.take i++nth t.cQ l i::l.drop (i+1):=by
  rw [show nth t.cQ l i=l[i] by simp [nth,zA,zD hi],List.getElem_cons_drop,zP]
 conv=>lhs;rw [e]
 rw [List.flatMap_append,List.flatMap_cons]
def rJ {β:Type} (h:H) (X:Ref) (π:List Sp) (k:Sg→Option β):Option β:=match π with
 | .ix i z::π'=>jL h X (fun t l=>bif Nat.beq z t.size && Nat.blt 0 z then (match oB π' t (nth t.cQ l i) with
  | some s=>k s
  | none=>none) else none)
 | π=>Gr h X (fun t x=>match oB π t x with
  | some s=>k s
  | none=>none)
theorem tC {β:Type} {h:H} {X:Ref} {π:List Sp} {k:Sg→Option β} {r:β} (hr:rJ h X π k=some r):∃sg,k sg=some r∧B8 X=true∧∀g S w v,Inv g S w→S.ob X.id=(hp h).ob X.id→(S.fr X.id↔(hp h).fr X.id)→V g (.tp X π) v→∃a c,S.ob X.id=some (.cells (a++(aA sg.t sg.x++c)))∧a.length=dE π:=by
 unfold rJ at hr
 split at hr
 ·rename_i i z π'
  obtain ⟨t,l,h1,h2,h3⟩:=eX hr
  obtain ⟨h4,h5⟩:=af h1
  simp only [zC] at h4
  obtain rfl:=beq_eq h4.1
  have h0:0<t.size:=aY h4.2
  split at h5
  ·rename_i sg hg
   refine ⟨sg,h5,h2,fun g S w v hI e _ hv=>?_⟩
   cases hv with
   | tp _ _ b s bK hk=>
    have fe:=e.trans h3
    rcases hI.cells _ _ fe with ⟨k1,_⟩ | ⟨b',tt,k1,_⟩
    ·rw [k1] at bK;cases bK
    rw [k1] at bK
    simp only [zI,zU] at bK
    obtain ⟨_,rfl⟩:=bK
    have hi:i<l.length:=by
     have:=hk.1
     simp only [bb] at this
     exact Nat.lt_of_succ_le (Nat.le_of_mul_le_mul_right this h0)
    obtain ⟨a,c,q1,q2⟩:=pq π' t _ _ _ hg hk.2
    obtain ⟨f1,f2⟩:=mS t l hi
    refine ⟨(l.take i).flatMap (aA t)++a,c++(l.drop (i+1)).flatMap (aA t),?_,?_⟩
    ·rw [fe,f1,q1];simp
    ·rw [zY,f2,q2];rfl
  ·cases h5
 ·obtain ⟨t,x,h1,h2,h3⟩:=A6 hr
  split at h1
  ·rename_i sg hg
   refine ⟨sg,h1,h2,fun g S w v hI e e2 hv=>?_⟩
   cases hv with
   | tp _ _ b s bK hk=>
    obtain ⟨a,c,q1,q2⟩:=pq π t x _ _ hg hk
    exact ⟨a,c,by rw [h3 g S w b s hI e e2 bK,q1],q2⟩
  ·cases h1
def rI {β:Type} (h:H) (X:Ref) (t:Ty) (l:List t.T) (k:H→Option β):Option β:=bif wR h (jg X) then none else match X with
 | .loc o=>fg h.t o (some (.row t l)) (fun t1=>k { h with t:=t1 })
 | .eH r j=>match bq h.rg r with
  | some ⟨_,.row t',c⟩=>match fR (.aF t) (.aF t') l with
   | some l'=>k { h with rg:=jK h.rg r (.row t') (upd (α:=Option (List t'.T)) c j (some l')) }
   | none=>none
  | _=>none
def Eb {β:Type} (h:H) (X:Ref) (t:Ty) (x:t.T) (k:H→Option β):Option β:=bif wR h (jg X) then none else match X with
 | .loc o=>fg h.t o (some (.one t x)) (fun t1=>k { h with t:=t1 })
 | .eH r j=>match bq h.rg r with
  | some ⟨_,.box t',c⟩=>match fR t t' x with
   | some x'=>k { h with rg:=jK h.rg r (.box t') (upd (α:=t'.T) c j x') }
   | none=>none
  | _=>none
theorem jH {α:Type} {c:Bool} {x:Option α} {r:α} (h:(bif c then none else x)=some r):c=false∧x=some r:=by
 cases c with
 | true=>cases h
 | false=>exact ⟨rfl,h⟩
def BA:List Sp→Ty→Option Ty
 | [],t=>some t
 | .fst::π,.pair a _=>BA π a
 | .snd _::π,.pair _ b=>BA π b
 | .ai _ _ _::π,.arr _ t=>BA π t
 | _,_=>none
def SR (π:List Sp) (t:Ty):Option Ty:=match π with
 | .ix _ _::π'=>BA π' t
 | _=>none
def plT (h:H) (X:Ref) (π:List Sp):Option Ty:=match X with
 | .loc o=>match h.t.get o with
  | some (.one t _)=>BA π t
  | some (.row t _)=>SR π t
  | _=>none
 | .eH r _=>match bq h.rg r with
  | some ⟨_,.box t,_⟩=>BA π t
  | some ⟨_,.row t,_⟩=>SR π t
  | _=>none
def xD (h h':H) (X:Ref) (x:Ob):Prop:=(∀i,touch (.wr [jg X]) i=false→(hp h').ob i=(hp h).ob i∧((hp h').fr i↔(hp h).fr i))∧(¬(hp h).fr X.id→hp h'=app [.set X.id x] (hp h))
theorem rj {r i:Nat} {w:Bool} {s:List Nat} (hr:r<64) (h:touch ⟨false,[iF r],w,s⟩ i=false):¬(¬i<cI∧mq i=r):=fun ⟨h1,h2⟩=>by
 have e:=rp h1
 rw [h2] at e
 rw [e,bX (r:=r) (j:=Av i) hr (.head _)] at h
 cases h
theorem Ag {h h':H} {o:Nat} {x:Ob} (ho:o<16777215) (e:hp h'=app [.set o x] (hp h)) (i:Nat) (hi:touch (.wr [jg (.loc o)]) i=false):(hp h').ob i=(hp h).ob i∧((hp h').fr i↔(hp h).fr i):=by
 rw [e]
 refine dj _ _ i (fun u hu he=>?_)
 rcases zF.1 hu with rfl
 have h2:i=o:=he
 subst h2
 rw [show touch (.wr [jg (.loc i)]) i=true from aB (o:=i) (Ci ho) (.head _)] at hi
 cases hi
theorem nj {β:Type} {h:H} {X:Ref} {t:Ty} {l:List t.T} {k:H→Option β} {r:β} (hx:B8 X=true) (hr:rI h X t l k=some r):∃h',k h'=some r∧xD h h' X (.cells (l.flatMap (aA t))):=by
 obtain ⟨_,hr⟩:=jH hr
 cases X with
 | loc o=>
  obtain ⟨hq,t1,k1,k2⟩:=bo hr
  have e:=qf (h:=h) (x:=.row t l) (Ci hq) k2
  exact ⟨_,k1,Ag hq e,fun _=>e⟩
 | eH r j=>
  simp only at hr
  split at hr
  ·rename_i _ t' c hf
   split at hr
   ·rename_i l' hl
    obtain ⟨e,rfl⟩:=cr hl
    cases e
    have h3:r<64:=aY hx
    refine ⟨_,hr,fun i hi=>?_,fun oH=>?_⟩
    ·have hn:=rj h3 hi
     have:=lY (h:=h) (k:=.row t) (c:=upd (α:=Option (List t.T)) c j (some l)) hf i
     rw [if_neg hn,if_neg hn] at this
     exact this
    ·have eO:j<List.length (α:=Option (List t.T)) c:=by
      rcases Nat.lt_or_ge j (List.length (α:=Option (List t.T)) c) with eO | vM
      ·exact eO
      ·exact absurd (by rw [show (Ref.eH r j).id=fE r j from rfl,gA.2,f_ h3 hf];exact vM) oH
     exact rX (j:=j) (u:=.set (fE r j) _) h3 hf (qR (α:=Option (List t.T)) c j _) (fun i hi=>by rw [rz (c:=c) eO,if_neg hi]) rfl (by rw [rz (c:=c) eO,if_pos rfl];exact yd) rfl
   ·cases hr
  ·cases hr
theorem BO {β:Type} {h:H} {X:Ref} {t:Ty} {x:t.T} {k:H→Option β} {r:β} (hx:B8 X=true) (hr:Eb h X t x k=some r):∃h',k h'=some r∧xD h h' X (.cells (aA t x)):=by
 obtain ⟨_,hr⟩:=jH hr
 cases X with
 | loc o=>
  obtain ⟨hq,t1,k1,k2⟩:=bo hr
  have e:=qf (h:=h) (x:=.one t x) (Ci hq) k2
  exact ⟨_,k1,Ag hq e,fun _=>e⟩
 | eH r j=>
  simp only at hr
  split at hr
  ·rename_i _ t' c hf
   split at hr
   ·rename_i l' hl
    obtain ⟨e,rfl⟩:=cr hl
    cases e
    have h3:r<64:=aY hx
    refine ⟨_,hr,fun i hi=>?_,fun oH=>?_⟩
    ·have hn:=rj h3 hi
     have:=lY (h:=h) (k:=.box t) (c:=upd (α:=t.T) c j x) hf i
     rw [if_neg hn,if_neg hn] at this
     exact this
    ·have eO:j<List.length (α:=t.T) c:=by
      rcases Nat.lt_or_ge j (List.length (α:=t.T) c) with eO | vM
      ·exact eO
      ·exact absurd (by rw [show (Ref.eH r j).id=fE r j from rfl,gA.2,f_ h3 hf];exact vM) oH
     exact rX (j:=j) (u:=.set (fE r j) _) h3 hf (qR (α:=t.T) c j _) (fun i hi=>by rw [rC (c:=c) eO,if_neg hi]) rfl (by rw [rC (c:=c) eO,if_pos rfl];exact yd) rfl
   ·cases hr
  ·cases hr
def qG {β:Type} (h:H) (X:Ref) (π:List Sp) (u:Ty) (y:u.T) (k:H→Option β):Option β:=match π with
 | .ix i z::π'=>jL h X (fun t l=>bif Nat.beq z t.size && Nat.blt 0 z then (match qF u y π' t (nth t.cQ l i) with
  | some x=>rI h X t (upd l i x) k
  | none=>none) else none)
 | π=>Gr h X (fun t x=>match qF u y π t x with
  | some x=>Eb h X t x k
  | none=>none)
theorem Dp (t:Ty) (l:List t.T) {i:Nat} (hi:i<l.length) (x:t.T) {k:Nat} {ps:List A} (he:aA t x=put (aA t (nth t.cQ l i)) k ps) (hk:k+ps.length≤t.size):(upd l i x).flatMap (aA t)=put (l.flatMap (aA t)) (i*t.size+k) ps:=by
 obtain ⟨f1,f2⟩:=mS t l hi
 have hu:i<(upd l i x).length:=by simpa [upd] using hi
 obtain ⟨g1,g2⟩:=mS t (upd l i x) hu
 have e1:(upd l i x).take i=l.take i:=by simp [upd,List.take_set_of_le]
 have e2:(upd l i x).drop (i+1)=l.drop (i+1):=by simp [upd,List.drop_set]
 have e3:nth t.cQ (upd l i x) i=x:=by simp [nth,upd,zA,hi]
 rw [g1,f1,e1,e2,e3,←f2,uv (by rw [bI];exact hk),he]
theorem Hz {β:Type} {h:H} {X:Ref} {π:List Sp} {u:Ty} {y:u.T} {k:H→Option β} {r:β} (hr:qG h X π u y k=some r):∃h',k h'=some r∧B8 X=true∧(∀i,touch (.wr [jg X]) i=false→(hp h').ob i=(hp h).ob i∧((hp h').fr i↔(hp h).fr i)) ∧
  ∀T,jg X∈T→∀g S w v,Inv g S w→Agree (Fp.wr (T)) (hp h) S→V g (.tp X π) v→∃cs,S.ob X.id=some (.cells cs)∧dE π+u.size≤cs.length∧iU (Fp.wr (T)) (hp h') S=S.set X.id (.cells (put cs (dE π) (aA u y))):=by
 have fin:∀{h':H} {x:Ob} {T:List Nat},B8 X=true→jg X∈T→xD h h' X x→∀g S w b s,Inv g S w→Agree (Fp.wr (T)) (hp h) S→g.bm X.id=some (some b,s)→iU (Fp.wr (T)) (hp h') S=S.set X.id x:=fun hx hT Cs g S w b s hI hA bK=>by
  have hT:=bG hx (l:=_) (w:=true) (s:=[]) hT
  have UX:¬(hp h).fr X.id:=fun hf=>by rw [hI.fresh _ ((hA _ hT).2.2 hf)] at bK;cases bK
  rw [Cs.2 UX,hP (fun u hu=>by rcases zF.1 hu with rfl;exact hT) hA];rfl
 unfold qG at hr
 split at hr
 ·rename_i i z π'
  obtain ⟨t,l,h1,h2,h3⟩:=eX hr
  obtain ⟨h4,h5⟩:=af h1
  simp only [zC] at h4
  obtain rfl:=beq_eq h4.1
  have h0:0<t.size:=aY h4.2
  split at h5
  ·rename_i x hg
   obtain ⟨h',k1,k2⟩:=nj h2 h5
   refine ⟨h',k1,h2,k2.1,fun T hT g S w v hI hA hv=>?_⟩
   cases hv with
   | tp _ _ b s bK hk=>
    have fe:=((hA _ (bG h2 hT)).1).trans h3
    have hov:=fin h2 hT k2 g S w b s hI hA bK
    rcases hI.cells _ _ fe with ⟨k1,_⟩ | ⟨b',tt,k1,_⟩
    ·rw [k1] at bK;cases bK
    rw [k1] at bK
    simp only [zI,zU] at bK
    obtain ⟨_,rfl⟩:=bK
    have hi:i<l.length:=by
     have:=hk.1
     simp only [bb] at this
     exact Nat.lt_of_succ_le (Nat.le_of_mul_le_mul_right this h0)
    obtain ⟨q1,q2⟩:=oR u y π' t _ x _ hg hk.2
    have sJ:dE (.ix i t.size::π')=i*t.size+dE π':=rfl
    refine ⟨_,fe,?_,?_⟩
    ·rw [bb,sJ]
     have:=zW t.size (show i+1≤l.length from hi)
     rw [Nat.add_mul,Nat.one_mul] at this
     omega
    ·rw [hov,Dp t l hi x q1 (by rw [bI];exact q2),sJ]
  ·cases h5
 ·obtain ⟨t,x,h1,h2,h3⟩:=A6 hr
  split at h1
  ·rename_i x' hg
   obtain ⟨h',k1,k2⟩:=BO h2 h1
   refine ⟨h',k1,h2,k2.1,fun T hT g S w v hI hA hv=>?_⟩
   cases hv with
   | tp _ _ b s bK hk=>
    have hT':=hA _ (bG h2 hT)
    obtain ⟨q1,q2⟩:=oR u y π t x x' _ hg hk
    exact ⟨_,h3 g S w b s hI hT'.1 hT'.2 bK,by rw [bI];exact q2,by rw [fin h2 hT k2 g S w b s hI hA bK,q1]⟩
  ·cases h1
end
end Go.Bm