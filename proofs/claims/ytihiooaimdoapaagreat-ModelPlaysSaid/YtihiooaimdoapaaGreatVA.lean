/- Texts of one proof, put together: see each part. -/
import Derived.WalkKit
import Derived.Deep.LoopGhost
import Derived.KernelRfl
import Derived.Great.BuildSlice
import Derived.Great.FillDense
import Derived.Deep.Slices
import Derived.Deep.OwnRows
import Derived.Laws.CopyRow
import Derived.Laws.IdiomCopy
import Derived.Laws.MakeOwn
import Derived.Laws.StructEq
import Derived.Carry
import Derived.MapKept
import Derived.WideKeyArgs
import Derived.OrdersIn
import Derived.RangeFuncRecord
set_option maxHeartbeats 2000000
theorem zA:type_of% @List.getD_eq_getElem?_getD:=@List.getD_eq_getElem?_getD
theorem zB:type_of% @List.getElem?_eq_some_iff:=@List.getElem?_eq_some_iff
theorem zC:type_of% @Bool.and_eq_true:=@Bool.and_eq_true
theorem zD:type_of% @List.getElem?_eq_getElem:=@List.getElem?_eq_getElem
theorem zE:type_of% @Int.toNat_natCast:=@Int.toNat_natCast
theorem zF:type_of% @List.mem_singleton:=@List.mem_singleton
theorem zG:type_of% @List.mem_of_getElem?:=@List.mem_of_getElem?
theorem zH:type_of% @List.length_map:=@List.length_map
theorem zI:type_of% @Option.some.injEq:=@Option.some.injEq
theorem zJ:type_of% @List.getElem?_append_right:=@List.getElem?_append_right
theorem zK:type_of% @List.getElem?_append_left:=@List.getElem?_append_left
theorem zL:type_of% @List.getElem?_map:=@List.getElem?_map
theorem zM:type_of% @List.length_set:=@List.length_set
theorem zO:type_of% @List.length_singleton:=@List.length_singleton
theorem zP:type_of% @List.take_append_drop:=@List.take_append_drop
theorem zQ:type_of% @List.mem_append_left:=@List.mem_append_left
theorem zR:type_of% @List.length_cons:=@List.length_cons
theorem zS:type_of% @List.mem_append_right:=@List.mem_append_right
theorem zT:type_of% @List.mem_cons_of_mem:=@List.mem_cons_of_mem
theorem zU:type_of% @Prod.mk.injEq:=@Prod.mk.injEq
theorem zV:type_of% @List.mem_cons_self:=@List.mem_cons_self
theorem zW:type_of% @Nat.mul_le_mul_right:=@Nat.mul_le_mul_right
theorem zX:type_of% @List.mem_append:=@List.mem_append
theorem zY:type_of% @List.length_append:=@List.length_append
theorem zZ:type_of% @List.eq_nil_of_length_eq_zero:=@List.eq_nil_of_length_eq_zero
theorem za:type_of% @List.take_of_length_le:=@List.take_of_length_le
theorem zb:type_of% @List.getElem?_eq_none:=@List.getElem?_eq_none
noncomputable section
set_option linter.unusedVariables false
set_option linter.unusedSimpArgs false
namespace Go.Bm
section
variable {α β σ ρ:Type}
def gd (p:Prop) [Decidable p] (x:Option α):Option α:=if p then x else none
def bd (x:Option α) (f:α→Option β):Option β:=match x with
 | some a=>f a
 | none=>none
def br (b:Bool) (x y:Option α):Option α:=match b with
 | true=>x
 | false=>y
def opt (x:Option α) (n:Option β) (s:α→Option β):Option β:=match x with
 | some a=>s a
 | none=>n
def iter (f:(σ→Option α)→σ→Option α):Nat→σ→Option α
 | 0,_=>none
 | n+1,s=>f (iter f n) s
def lD:Nat:=9223372036854775808
abbrev LpT:Type 1:=(α σ:Type)→((σ→Option α)→σ→Option α)→σ→Option α
abbrev JnT:Type 1:=(σ ρ:Type)→((σ→Option ρ)→Option ρ)→(σ→Option ρ)→Option ρ
def lpE:LpT:=fun _ _ f s=>iter f lD s
def jnE:JnT:=fun _ _ f k=>f k
theorem EL:∃L:LpT,L=lpE:=⟨lpE,rfl⟩
theorem PZ:∃J:JnT,J=jnE:=⟨jnE,rfl⟩
def lpO:LpT:=Classical.choose EL
def jnO:JnT:=Classical.choose PZ
def loop (f:(σ→Option α)→σ→Option α) (s:σ):Option α:=lpO α σ f s
def jn (f:(σ→Option ρ)→Option ρ) (k:σ→Option ρ):Option ρ:=jnO σ ρ f k
theorem Rl:lpO=lpE:=Classical.choose_spec EL
theorem Rw:jnO=jnE:=Classical.choose_spec PZ
theorem qa (f:(σ→Option α)→σ→Option α) (s:σ):loop f s=iter f lD s:=by unfold loop;rw [Rl];rfl
theorem cJ (f:(σ→Option ρ)→Option ρ) (k:σ→Option ρ):jn f k=f k:=by unfold jn;rw [Rw];rfl
def nth (d:α) (l:List α) (i:Nat):α:=l.getD i d
def aT (l:List α) (i:Nat) (x:α):List α:=l.set i x
def cm (d:α) (l:List α) (i:Nat) (x:α):List α:=if i<l.length then l.set i x else l++(List.replicate (i-l.length) d++[x])
def cat (l k:List α):List α:=l++k
def len (l:List α):Nat:=l.length
def tk (n:Nat) (l:List α):List α:=l.take n
def dr (n:Nat) (l:List α):List α:=l.drop n
def rep (n:Nat) (x:α):List α:=List.replicate n x
def nN (n:Int):Nat:=n.toNat
def zN (n:Nat):Int:=n
def aU (a b:Nat):Nat:=a+b
def aG (a b:Nat):Nat:=a-b
def dv (a b:Nat):Prop:=a≤b
def bl (a b:Nat):Prop:=a<b
def neq (a b:Nat):Prop:=a=b
def bf (a:Int):Prop:=0≤a
def P4 (a:Int):Prop:=a≠0
instance (a b:Nat):Decidable (dv a b):=inferInstanceAs (Decidable (a≤b))
instance (a b:Nat):Decidable (bl a b):=inferInstanceAs (Decidable (a<b))
instance (a b:Nat):Decidable (neq a b):=inferInstanceAs (Decidable (a=b))
instance (a:Int):Decidable (bf a):=inferInstanceAs (Decidable (0≤a))
instance (a:Int):Decidable (P4 a):=inferInstanceAs (Decidable (a≠0))
def aE (l:List (Option (List α))) (j:Nat):Option (List α):=l.getD j none
def cX (a b:Int):Bool:=decide (a≤b)
def bw (a b:Int):Bool:=decide (a<b)
def aj (a b:Int):Bool:=decide (a=b)
def aC (b:Bool):Bool:=!b
def qx (a b:Bool):Bool:=a == b
def j7 (a b:Bool):Bool:=a && b
def P5 (a b:Int):Prop:=a=b
instance (a b:Int):Decidable (P5 a b):=inferInstanceAs (Decidable (a=b))
def kQ (k:IntKind) (n:Int):Int:=k.wrap n
def ae (k:IntKind) (a b:Int):Int:=k.wrap (a+b)
def aK (k:IntKind) (a b:Int):Int:=k.wrap (a-b)
def fI (k:IntKind) (a b:Int):Int:=k.wrap (a*b)
def iI (k:IntKind) (a b:Int):Int:=k.wrap (a.tdiv b)
def eg (a b:Int):Int:=a.tmod b
def GJ (k:IntKind) (a b:Int):Int:=k.wrap (a*2^(min b.toNat k.bits))
def uA (k:IntKind) (a b:Int):Int:=a.fdiv (2^(min b.toNat k.bits))
def YJ (a b:Int):Int:=if b<a then b else a
def imax (a b:Int):Int:=if a<b then b else a
theorem cE {p:Prop} [Decidable p] {x:Option α} {r:α} (h:gd p x=some r):p∧x=some r:=by
 unfold gd at h;split at h
 ·exact ⟨by assumption,h⟩
 ·cases h
theorem wF {x:Option α} {f:α→Option β} {r:β} (h:bd x f=some r):∃a,x=some a∧f a=some r:=by
 cases x with
 | none=>cases h
 | some a=>exact ⟨a,rfl,h⟩
theorem tS {b:Bool} {x y:Option α} {r:α} (h:br b x y=some r):(b=true∧x=some r)∨(b=false∧y=some r):=by
 cases b with
 | true=>exact .inl ⟨rfl,h⟩
 | false=>exact .inr ⟨rfl,h⟩
theorem kF {x:Option α} {n:Option β} {s:α→Option β} {r:β} (h:opt x n s=some r):(x=none∧n=some r)∨∃a,x=some a∧s a=some r:=by
 cases x with
 | none=>exact .inl ⟨rfl,h⟩
 | some a=>exact .inr ⟨a,rfl,h⟩
theorem RV {p:Prop} [Decidable p] {x:Option α} (h:p):gd p x=x:=if_pos h
theorem a8 {a:α} {f:α→Option β}:bd (some a) f=f a:=rfl
theorem a7 {x y:Option α}:br true x y=x:=rfl
theorem aO {x y:Option α}:br false x y=y:=rfl
theorem bh {n:Option β} {s:α→Option β}:opt none n s=n:=rfl
theorem ba {a:α} {n:Option β} {s:α→Option β}:opt (some a) n s=s a:=rfl
theorem kc {d x:α} {l:List α} {i k:Nat}:(cm d l i x).getD k d=if k=i then x else l.getD k d:=by
 unfold cm
 simp only [zA]
 split
 ·rename_i h
  by_cases hk:k=i
  ·subst hk;simp [h]
  ·rw [if_neg hk,List.getElem?_set_ne (fun e=>hk e.symm)]
 ·rename_i h
  by_cases hk:k=i
  ·subst hk
   rw [zJ (by omega),zJ (by simp)]
   simp
  ·rw [if_neg hk]
   by_cases h1:k<l.length
   ·rw [zK h1]
   ·rw [zJ (by omega),zb (l:=l) (by omega)]
    by_cases h2:k-l.length<i-l.length
    ·rw [zK (by simpa using h2),List.getElem?_replicate,if_pos h2];rfl
    ·rw [zJ (by simp;omega),zb (by simp;omega)]
end
inductive Tr (α:Type) where
 | nil
 | node (l:Tr α) (v:Option α) (r:Tr α)
section
open Go.RowKit
inductive Ty where
 | int (k:IntKind)
 | bool
 | unit
 | pair (a b:Ty)
 | arr (n:Nat) (t:Ty)
 | cB (t:Ty)
 | ptr (r:Nat)
 | dH (r:Nat)
 | kz (r:Nat) (z:Nat)
 | sU (r:Nat) (z:Nat)
 | mp (r:Nat)
 deriving DecidableEq
def Ty.T:Ty→Type
 | .int _=>Int
 | .bool=>Bool
 | .unit=>Unit
 | .pair a b=>a.T×b.T
 | .arr _ t=>List t.T
 | .cB t=>List t.T
 | .ptr _=>Option Nat
 | .dH _=>Nat
 | .kz _ _=>Option Nat
 | .sU _ _=>Nat
 | .mp _=>Option Nat
def Ty.dO:(t:Ty)→t.T
 | .int _=>(0:Int)
 | .bool=>false
 | .unit=>()
 | .pair a b=>(a.dO,b.dO)
 | .arr n t=>List.replicate n t.dO
 | .cB _=>[]
 | .ptr _=>none
 | .dH _=>(0:Nat)
 | .kz _ _=>none
 | .sU _ _=>(0:Nat)
 | .mp _=>none
def Ty.size:Ty→Nat
 | .int _=>1
 | .bool=>1
 | .unit=>0
 | .pair a b=>a.size+b.size
 | .arr n t=>n*t.size
 | _=>1
def Ty.data:Ty→Bool
 | .int _=>true
 | .bool=>true
 | .unit=>true
 | .pair a b=>a.data && b.data
 | .arr _ t=>t.data
 | .cB t=>t.data
 | _=>false
inductive RK where
 | box (t:Ty)
 | row (t:Ty)
 | map (ka:Bool) (tk:Ty) (va:Bool) (tv:Ty)
structure LH where
 qH:List (Nat×Bool×Ty)
 grow:List (Nat×Ty)
 boxes:List ((Nat×Option Nat)×Ty)
 Ca:List ((Nat×Option Nat)×List (Bool×Ty))
 loops:List Nat
 cP:List (Nat×RK)
inductive az where
 | skip
 | ret
 | exit (id:Nat)
 | bad (c:Code)
 | region (id:Nat) (ops:List Oper) (draw:Bool)
 | seq (x y:az)
 | cut (h:LH) (x y:az)
 | cond (c:Operand) (x y:az)
 | block (id:Nat) (x:az)
 | loop (h:LH) (x:az)
 | range (g:Operand) (ps:List Tmp) (h:LH) (aa bd:az)
def az.code:az→Code
 | .skip=>.skip
 | .ret=>.ret
 | .exit id=>.exit id
 | .bad c=>c
 | .region id ops dr=>.region id ops.toArray dr
 | .seq x y=>.seq x.code y.code
 | .cut _ x y=>.seq x.code y.code
 | .cond c x y=>.cond c x.code y.code
 | .block id x=>.block id x.code
 | .loop _ x=>.loop x.code
 | .range g ps _ aa bd=>.rangeFunc g ps.toArray aa.code bd.code
def Tr.get {α:Type} (t:Tr α):Nat→Option α:=
 Tr.rec (motive:=fun _=>Nat→Option α) (fun _=>none) (fun _ v _ gl gr n=>Nat.rec (motive:=fun _=>Option α) v (fun n _=>Nat.rec (motive:=fun _=>Option α) (gl (n / 2)) (fun _ _=>gr (n / 2)) (n%2)) n) t
theorem Tr.get_nil {α:Type} (n:Nat):(Tr.nil:Tr α).get n=none:=rfl
theorem Tr.mo {α:Type} (l:Tr α) (v:Option α) (r:Tr α):(Tr.node l v r).get 0=v:=rfl
theorem Tr.j_ {α:Type} (l:Tr α) (v:Option α) (r:Tr α) (n:Nat):(Tr.node l v r).get (n+1)=bif Nat.beq (n%2) 0 then l.get (n / 2) else r.get (n / 2):=by
 show Nat.rec (motive:=fun _=>Option α) (l.get (n / 2)) (fun _ _=>r.get (n / 2)) (n%2)=_
 cases n%2<;>rfl
abbrev Mem:=Nat→Nat→Option Value
def adr (p:Nat×Nat):Addr:=⟨p.1,p.2,none⟩
inductive D where
 | v (x:Value)
 | sl (sz:Nat) (full:Bool) (es:List (List D))
inductive VD (M:Mem):D→Value→Prop
 | v (x:Value) (h:x.oneCell'=true):VD M (.v x) x
 | sl (sz:Nat) (full:Bool) (es:List (List D)) (a:Option (Nat×Nat)) (cap:Nat) (vs:List Value)
   (hz:∀e,e∈es→e.length=sz) (hc:es.length≤cap) (hf:full=true→cap=es.length) (hn:a=none→cap=0) (hx:cap≤maxLen)
   (hl:es.flatten.length=vs.length)
   (hm:∀(p:Nat×Nat) (j:Nat) (x:Value),a=some p→vs[j]?=some x→M p.1 (p.2+j)=some x)
   (hv:∀(j:Nat) (c:D) (x:Value),es.flatten[j]?=some c→vs[j]?=some x→VD M c x) :
   VD M (.sl sz full es) (.slice (a.map adr) es.length cap)
 | wR (sz:Nat) (full:Bool) (A:Option Addr):VD M (.sl sz full []) (.slice A 0 0)
theorem VD.mono {M M':Mem} (h:∀b o x,M b o=some x→M' b o=some x) {d:D} {v:Value} (hv:VD M d v):VD M' d v:=by
 induction hv with
 | v x h1=>exact .v x h1
 | sl sz full es a cap vs hz hc hf hn hx hl hm _ ih=>exact .sl sz full es a cap vs hz hc hf hn hx hl (fun p j x h1 h2=>h _ _ _ (hm p j x h1 h2)) ih
 | wR sz f A=>exact .wR sz f A
def KP {α β:Type} (f:α→List β) (d:α) (n:Nat) (l:List α):List β:=(List.range n).flatMap fun i=>f (nth d l i)
def eH:(t:Ty)→t.T→List D
 | .int k,x=>[.v (.int k x)]
 | .bool,x=>[.v (.bool x)]
 | .unit,_=>[]
 | .pair a b,x=>eH a x.1++eH b x.2
 | .arr n t,l=>KP (eH t) t.dO n l
 | .cB t,l=>[.sl t.size false (List.map (eH t) l)]
 | _,_=>[.v undef]
inductive Ref where
 | loc (o:Nat)
 | cT (r j:Nat)
def dJ:Nat:=16777216
def oM (i:Nat):Nat:=(i-dJ)%64
def EU (i:Nat):Nat:=(i-dJ) / 64
theorem NM (m L:Nat):m+L=64*(m / 64)+(m%64+L):=by have:=Nat.div_add_mod m 64;omega
theorem vf:∃f:Nat→Nat→Nat,(∀r j,dJ≤f r j)∧(∀r j,r<64→oM (f r j)=r∧EU (f r j)=j)∧∀i,¬i<dJ→i=f (oM i) (EU i):=by
 unfold oM EU
 generalize dJ=L
 refine ⟨fun r j=>64*j+(r+L),fun r j=>by show L≤64*j+(r+L);omega,fun r j h=>by show (64*j+(r+L)-L)%64=r∧(64*j+(r+L)-L) / 64=j;omega,fun i h=>?_⟩
 have h2:=NM (i-L) L
 rw [Nat.sub_add_cancel (Nat.le_of_not_lt h)] at h2
 exact h2
def gV:Nat→Nat→Nat:=Classical.choose vf
theorem qL (r j:Nat):dJ≤gV r j:=(Classical.choose_spec vf).1 r j
theorem nW {r j:Nat} (h:r<64):oM (gV r j)=r:=((Classical.choose_spec vf).2.1 r j h).1
theorem lT {r j:Nat} (h:r<64):EU (gV r j)=j:=((Classical.choose_spec vf).2.1 r j h).2
theorem ve {i:Nat} (h:¬i<dJ):i=gV (oM i) (EU i):=(Classical.choose_spec vf).2.2 i h
def Ref.id:Ref→Nat
 | .loc o=>o
 | .cT r j=>gV r j
inductive Sp where
 | fst
 | snd (c:Nat)
 | ix (i z:Nat)
 | ai (i n z:Nat)
def fg:List Sp→Nat
 | []=>0
 | .fst::π=>fg π
 | .snd c::π=>c+fg π
 | .ix i z::π=>i*z+fg π
 | .ai i _ z::π=>i*z+fg π
def HE (s:Nat):List Sp→Prop
 | []=>True
 | .ix i z::π=>(i+1)*z≤s∧HE s π
 | .ai i n _::π=>i<n∧HE s π
 | _::π=>HE s π
inductive A where
 | v (x:Value)
 | agg (cs:List A)
 | mA (cs:List A)
 | ptr (o off:Nat)
 | tp (x:Ref) (π:List Sp)
 | sl (o off z n:Nat)
 | ts (x:Ref) (z off n:Nat)
 | tf (x:Ref) (z off n:Nat)
 | tw (x:Ref) (z:Nat)
 | aa (x:Ref) (π:List Sp) (n z:Nat)
 | e0
 | tl (t:Ty) (full:Bool) (l:List t.T)
 | nn (t:Ty) (l:List t.T)
 | dp (t:Ty) (x:t.T)
 | mp (x:Ref)
 | op (r:Nat) (o:Option Nat)
 | os (r z:Nat) (o:Option Nat)
 | om (r:Nat) (o:Option Nat)
 | fn (f:FuncId) (fi ca:List A)
 | wL (q n:Nat) (F:Tr A) (ps:List Tmp) (h:LH) (aa bd:az)
 | un
 | dI
instance:Inhabited A:=⟨.dI⟩
def cd (F:Nat→Option A) (i:Nat):A:=match F i with
 | some p=>p
 | none=>.un
structure Lp where
 tmps:Array Value
 params:List Tmp
 assign:Code
 body:Code
def yZ (r:Loop):Lp:=⟨r.tmps,r.params.toList,r.assign,r.body⟩
def aJ:(t:Ty)→t.T→List A
 | .int k,x=>[.v (.int k x)]
 | .bool,x=>[.v (.bool x)]
 | .unit,_=>[]
 | .pair a b,x=>aJ a x.1++aJ b x.2
 | .arr n t,l=>KP (aJ t) t.dO n l
 | .cB t,l=>[.tl t false l]
 | .ptr r,x=>[.op r x]
 | .dH r,j=>[.tp (.cT r j) []]
 | .kz r z,x=>[.os r z x]
 | .sU r z,j=>[.tw (.cT r j) z]
 | .mp r,x=>[.om r x]
theorem sO {α β:Type} {f:α→List β} {d:α} {s:Nat} (h:∀x,(f x).length=s) (n:Nat) (l:List α):(KP f d n l).length=n*s:=by
 have:∀m:List Nat,(m.flatMap fun i=>f (nth d l i)).length=m.length*s:=fun m=>by
  induction m with
  | nil=>simp
  | cons a m ih=>rw [List.flatMap_cons,zY,ih,h,zR,Nat.succ_mul,Nat.add_comm]
 have:=this (List.range n)
 rwa [List.length_range] at this
theorem fO:∀(t:Ty) (x:t.T),(eH t x).length=t.size
 | .int _,_=>rfl
 | .bool,_=>rfl
 | .unit,_=>rfl
 | .pair a b,x=>by simp [eH,Ty.size,fO a,fO b]
 | .arr n t,l=>sO (fO t) n l
 | .cB _,_=>rfl
 | .ptr _,_=>rfl
 | .dH _,_=>rfl
 | .kz _ _,_=>rfl
 | .sU _ _,_=>rfl
 | .mp _,_=>rfl
theorem cQ:∀(t:Ty) (x:t.T),(aJ t x).length=t.size
 | .int _,_=>rfl
 | .bool,_=>rfl
 | .unit,_=>rfl
 | .pair a b,x=>by simp [aJ,Ty.size,cQ a,cQ b]
 | .arr n t,l=>sO (cQ t) n l
 | .cB _,_=>rfl
 | .ptr _,_=>rfl
 | .dH _,_=>rfl
 | .kz _ _,_=>rfl
 | .sU _ _,_=>rfl
 | .mp _,_=>rfl
structure G where
 cn:Nat→Option (Option Nat×(Nat×Nat))
 mem:Mem
 lp:Nat→Option Lp
inductive V (g:G):A→Value→Prop
 | v (x:Value):V g (.v x) x
 | agg (cs:List A) (vs:Array Value) (hl:cs.length=vs.size) (h1:∀v∈vs.toList,v.oneCell'=true) (h:∀(i:Nat) (c:A) (x:Value),cs[i]?=some c→vs[i]?=some x→V g c x):V g (.agg cs) (.agg vs)
 | mA (cs:List A) (vs:Array Value) (hl:cs.length=vs.size) (h:∀(i:Nat) (c:A) (x:Value),cs[i]?=some c→vs[i]?=some x→V g c x):V g (.mA cs) (.tuple vs)
 | ptr (o off b:Nat) (s:Nat×Nat) (h:g.cn o=some (some b,s)):V g (.ptr o off) (.pointer (some ⟨b,off,none⟩))
 | tp (x:Ref) (π:List Sp) (b:Nat) (s:Nat×Nat) (h:g.cn x.id=some (some b,s)) (hk:HE s.1 π):V g (.tp x π) (.pointer (some ⟨b,fg π,none⟩))
 | sl (o off z n b cap:Nat) (s:Nat×Nat) (h:g.cn o=some (some b,s)) (hn:n≤cap) (hx:cap≤maxLen) (hs:off+n*z≤s.1):V g (.sl o off z n) (.slice (some ⟨b,off,none⟩) n cap)
 | ts (x:Ref) (z off n b cap:Nat) (s:Nat×Nat) (h:g.cn x.id=some (some b,s)) (hn:n≤cap) (hx:cap≤maxLen) (hs:(off+n)*z≤s.1) (hp:(off+cap)*z≤s.2) (d:Nat) (hd:cap≠0→d=off*z) (hq:s.1≤(off+cap)*z):V g (.ts x z off n) (.slice (some ⟨b,d,none⟩) n cap)
 | xv (x:Ref) (z off n:Nat) (ad:Option Addr) (h:g.cn x.id=some (none,(0,0))) (hn:off+n=0):V g (.ts x z off n) (.slice ad 0 0)
 | tf (x:Ref) (z off n b:Nat) (s:Nat×Nat) (h:g.cn x.id=some (some b,s)) (hx:n≤maxLen) (hs:(off+n)*z≤s.1) (d:Nat) (hd:n≠0→d=off*z):V g (.tf x z off n) (.slice (some ⟨b,d,none⟩) n n)
 | HU (x:Ref) (z off n:Nat) (ad:Option Addr) (h:g.cn x.id=some (none,(0,0))) (hn:off+n=0):V g (.tf x z off n) (.slice ad 0 0)
 | Ai (x:Ref) (z:Nat) (ad:Option Addr) (h:g.cn x.id=some (none,(0,0))):V g (.tw x z) (.slice ad 0 0)
 | tw (x:Ref) (z n b cap t:Nat) (h:g.cn x.id=some (some b,(n*z,t))) (hn:n≤cap) (hx:cap≤maxLen) (hp:cap*z≤t) (d:Nat) (hd:cap≠0→d=0):V g (.tw x z) (.slice (some ⟨b,d,none⟩) n cap)
 | aa (x:Ref) (π:List Sp) (n z b cap:Nat) (s:Nat×Nat) (h:g.cn x.id=some (some b,s)) (hk:HE s.1 π) (hn:n≤cap) (hx:cap≤maxLen):V g (.aa x π n z) (.slice (some ⟨b,fg π,none⟩) n cap)
 | e0 (ad:Option Addr):V g .e0 (.slice ad 0 0)
 | tl (t:Ty) (full:Bool) (l:List t.T) (v:Value) (h:VD g.mem (.sl t.size full (l.map (eH t))) v):V g (.tl t full l) v
 | nn (t:Ty) (l:List t.T) (a:Addr) (n c:Nat) (h:VD g.mem (.sl t.size false (l.map (eH t))) (.slice (some a) n c)):V g (.nn t l) (.slice (some a) n c)
 | dp (t:Ty) (x:t.T) (b off:Nat) (f:Nat→Value) (hm:∀(j:Nat) (c:D),(eH t x)[j]?=some c→g.mem b (off+j)=some (f j)∧VD g.mem c (f j)):V g (.dp t x) (.pointer (some ⟨b,off,none⟩))
 | mp (x:Ref) (b:Nat) (s:Nat×Nat) (h:g.cn x.id=some (some b,s)):V g (.mp x) (.map (some b))
 | op (r:Nat) (o:Option Nat) (v:Value) (h0:o=none→v = .pointer none) (h1:∀j,o=some j→V g (.tp (.cT r j) []) v):V g (.op r o) v
 | os (r z:Nat) (o:Option Nat) (v:Value) (h0:o=none→V g .e0 v) (h1:∀j,o=some j→V g (.tw (.cT r j) z) v):V g (.os r z o) v
 | om (r:Nat) (o:Option Nat) (v:Value) (h0:o=none→v = .map none) (h1:∀j,o=some j→V g (.mp (.cT r j)) v):V g (.om r o) v
 | fn (f:FuncId) (fi ca:List A) (fv cv:Array Value) (hf:fi.length=fv.size) (hc:ca.length=cv.size) (h1:∀(i:Nat) (c:A) (x:Value),fi[i]?=some c→fv[i]?=some x→V g c x) (h2:∀(i:Nat) (c:A) (x:Value),ca[i]?=some c→cv[i]?=some x→V g c x) :
   V g (.fn f fi ca) (.func (.func f) fv cv)
 | wL (q n:Nat) (F:Tr A) (ps:List Tmp) (j:LH) (aa bd:az) (b:Nat) (s:Nat×Nat) (l:Lp) (h:g.cn q=some (some b,s)) (hl:g.lp b=some l) (h1:l.params=ps) (h2:l.assign=aa.code) (h3:l.body=bd.code) (h4:l.tmps.size=n) (h5:∀i,i<n→V g (cd F.get i) (l.tmps.getD i undef)):V g (.wL q n F ps j aa bd) (.func (.yield b) #[] #[])
 | un:V g .un undef
 | dI (v:Value):V g .dI v
structure Le (g g':G):Prop where
 cn:∀o p,g.cn o=some p→g'.cn o=some p
 mem:∀b o x,g.mem b o=some x→g'.mem b o=some x
 lp:∀b l,g.lp b=some l→g'.lp b=some l
theorem Le.refl (g:G):Le g g:=⟨fun _ _ h=>h,fun _ _ _ h=>h,fun _ _ h=>h⟩
theorem Le.trans {a b c:G} (h:Le a b) (k:Le b c):Le a c:=⟨fun _ _ e=>k.cn _ _ (h.cn _ _ e),fun _ _ _ e=>k.mem _ _ _ (h.mem _ _ _ e),fun _ _ e=>k.lp _ _ (h.lp _ _ e)⟩
theorem V.mono {g g':G} (h:Le g g') {p:A} {v:Value} (hv:V g p v):V g' p v:=by
 induction hv with
 | v x=>exact .v x
 | agg cs vs hl h1 _ ih=>exact .agg cs vs hl h1 ih
 | mA cs vs hl _ ih=>exact .mA cs vs hl ih
 | ptr o off b s h1=>exact .ptr o off b s (h.cn _ _ h1)
 | tp x π b s h1 hk=>exact .tp x π b s (h.cn _ _ h1) hk
 | sl o off z n b cap s h1 hn hx hs=>exact .sl o off z n b cap s (h.cn _ _ h1) hn hx hs
 | ts x z off n b cap s h1 hn hx hs hp d hd hq=>exact .ts x z off n b cap s (h.cn _ _ h1) hn hx hs hp d hd hq
 | xv x z off n ad h1 hn=>exact .xv x z off n ad (h.cn _ _ h1) hn
 | HU x z off n ad h1 hn=>exact .HU x z off n ad (h.cn _ _ h1) hn
 | tf x z off n b s h1 hx hs d hd=>exact .tf x z off n b s (h.cn _ _ h1) hx hs d hd
 | Ai x z ad h1=>exact .Ai x z ad (h.cn _ _ h1)
 | tw x z n b cap t h1 hn hx hp d hd=>exact .tw x z n b cap t (h.cn _ _ h1) hn hx hp d hd
 | aa x π n z b cap s h1 hk hn hx=>exact .aa x π n z b cap s (h.cn _ _ h1) hk hn hx
 | e0 ad=>exact .e0 ad
 | tl t f l v h1=>exact .tl t f l v (h1.mono h.mem)
 | nn t l a n c h1=>exact .nn t l a n c (h1.mono h.mem)
 | dp t x b off f hm=>exact .dp t x b off f (fun j c e=>⟨h.mem _ _ _ (hm j c e).1,(hm j c e).2.mono h.mem⟩)
 | mp x b s h1=>exact .mp x b s (h.cn _ _ h1)
 | op r o v h0 _ ih=>exact .op r o v h0 ih
 | os r z o v _ _ ih0 JC=>exact .os r z o v ih0 JC
 | om r o v h0 _ ih=>exact .om r o v h0 ih
 | fn f fi ca fv cv hf hc _ _ JC Li=>exact .fn f fi ca fv cv hf hc JC Li
 | wL q n F ps j aa bd b s l h0 hl h1 h2 h3 h4 _ ih=>exact .wL q n F ps j aa bd b s l (h.cn _ _ h0) (h.lp _ _ hl) h1 h2 h3 h4 ih
 | un=>exact .un
 | dI v=>exact .dI v
def Vs (g:G) (ps:List A) (vs:List Value):Prop:=ps.length=vs.length∧∀(j:Nat) (c:A) (x:Value),ps[j]?=some c→vs[j]?=some x→V g c x∧x.oneCell'=true
def nh (M:Mem) (ds:List D) (vs:List Value):Prop:=ds.length=vs.length∧∀(j:Nat) (c:D) (x:Value),ds[j]?=some c→vs[j]?=some x→VD M c x
theorem VD.one {M:Mem} {c:D} {x:Value} (h:VD M c x):x.oneCell'=true:=by cases h<;>first | assumption | rfl
theorem Vs.mono {g g':G} (h:Le g g') {ps:List A} {vs:List Value} (k:Vs g ps vs):Vs g' ps vs:=⟨k.1,fun j c x e1 e2=>⟨(k.2 j c x e1 e2).1.mono h,(k.2 j c x e1 e2).2⟩⟩
theorem Vs.one {g:G} {ps:List A} {vs:List Value} (h:Vs g ps vs):∀u∈vs,u.oneCell'=true:=fun u hu=>by
 obtain ⟨j,hj,rfl⟩:=List.getElem_of_mem hu
 exact (h.2 j _ _ (zD (by rw [h.1];exact hj)) (zD hj)).2
theorem Vs.nil {g:G}:Vs g [] []:=⟨rfl,fun j c x h=>by simp at h⟩
theorem Vs.append {g:G} {ds es:List A} {vs us:List Value} (h:Vs g ds vs) (k:Vs g es us):Vs g (ds++es) (vs++us):=by
 refine ⟨by simp [h.1,k.1],fun j c x e1 e2=>?_⟩
 by_cases hj:j<ds.length
 ·rw [zK hj] at e1
  rw [zK (by rw [←h.1];exact hj)] at e2
  exact h.2 j c x e1 e2
 ·rw [zJ (by omega)] at e1
  rw [zJ (by rw [←h.1];omega),←h.1] at e2
  exact k.2 _ c x e1 e2
theorem Vs.part {g:G} {cs:List A} {xs:List Value} (h:Vs g cs xs) (off n:Nat):Vs g ((cs.drop off).take n) ((xs.drop off).take n):=by
 refine ⟨by simp [h.1],fun j c x h1 h2=>?_⟩
 rw [List.getElem?_take] at h1 h2
 split at h1
 ·rename_i hj
  rw [if_pos hj] at h2
  rw [List.getElem?_drop] at h1 h2
  exact h.2 _ c x h1 h2
 ·cases h1
theorem Vs.cons {g:G} {c:A} {x:Value} {cs:List A} {xs:List Value} (h:V g c x) (h1:x.oneCell'=true) (k:Vs g cs xs):Vs g (c::cs) (x::xs):=
 Vs.append (ds:=[c]) (vs:=[x]) ⟨rfl,fun j c' x' e1 e2=>by
  cases j with
  | zero=>simp at e1 e2;subst e1 e2;exact ⟨h,h1⟩
  | succ j=>simp at e1⟩ k
theorem nh.append {M:Mem} {ds es:List D} {vs us:List Value} (h:nh M ds vs) (k:nh M es us):nh M (ds++es) (vs++us):=by
 refine ⟨by simp [h.1,k.1],fun j c x e1 e2=>?_⟩
 by_cases hj:j<ds.length
 ·rw [zK hj] at e1
  rw [zK (by rw [←h.1];exact hj)] at e2
  exact h.2 j c x e1 e2
 ·rw [zJ (by omega)] at e1
  rw [zJ (by rw [←h.1];omega),←h.1] at e2
  exact k.2 _ c x e1 e2
theorem Vs.split {g:G} {ds es:List A} {vs:List Value} (h:Vs g (ds++es) vs):Vs g ds (vs.take ds.length)∧Vs g es (vs.drop ds.length):=by
 have hl:=h.1
 rw [zY] at hl
 refine ⟨⟨by simp;omega,fun j c x e1 e2=>?_⟩,⟨by simp;omega,fun j c x e1 e2=>?_⟩⟩
 ·have hj:=(zB.1 e1).1
  rw [List.getElem?_take,if_pos hj] at e2
  exact h.2 j c x (by rw [zK hj];exact e1) e2
 ·rw [List.getElem?_drop] at e2
  exact h.2 (ds.length+j) c x (by rw [zJ (by omega),Nat.add_sub_cancel_left];exact e1) e2
theorem nh.split {M:Mem} {ds es:List D} {vs:List Value} (h:nh M (ds++es) vs):nh M ds (vs.take ds.length)∧nh M es (vs.drop ds.length):=by
 have hl:=h.1
 rw [zY] at hl
 refine ⟨⟨by simp;omega,fun j c x e1 e2=>?_⟩,⟨by simp;omega,fun j c x e1 e2=>?_⟩⟩
 ·have hj:=(zB.1 e1).1
  rw [List.getElem?_take,if_pos hj] at e2
  exact h.2 j c x (by rw [zK hj];exact e1) e2
 ·rw [List.getElem?_drop] at e2
  exact h.2 (ds.length+j) c x (by rw [zJ (by omega),Nat.add_sub_cancel_left];exact e1) e2
theorem I0 {g:G} {c:A} {d:D} (h1:∀x,V g c x→x.oneCell'=true→VD g.mem d x) {vs:List Value} (h:Vs g [c] vs):nh g.mem [d] vs:=by
 obtain ⟨x,rfl⟩:∃x,vs=[x]:=by
  match vs,h.1 with
  | [x],_=>exact ⟨x,rfl⟩
 refine ⟨rfl,fun j c' x' e1 e2=>?_⟩
 cases j with
 | zero=>simp at e1 e2;subst e1 e2;have:=h.2 0 c x rfl rfl;exact h1 x this.1 this.2
 | succ j=>simp at e1
theorem I1 {g:G} {c:A} {d:D} (h1:∀x,VD g.mem d x→V g c x) {vs:List Value} (h:nh g.mem [d] vs):Vs g [c] vs:=by
 obtain ⟨x,rfl⟩:∃x,vs=[x]:=by
  match vs,h.1 with
  | [x],_=>exact ⟨x,rfl⟩
 exact .cons (h1 x (h.2 0 d x rfl rfl)) (h.2 0 d x rfl rfl).one .nil
theorem J8 {α:Type} {g:G} {f:α→List A} {f':α→List D} (h:∀x vs,Vs g (f x) vs→nh g.mem (f' x) vs) (hl:∀x,(f x).length=(f' x).length):∀(l:List α) (vs:List Value),Vs g (l.flatMap f) vs→nh g.mem (l.flatMap f') vs
 | [],vs,hv=>⟨by simpa using hv.1,fun j c x e=>by simp at e⟩
 | a::l,vs,hv=>by
  rw [List.flatMap_cons] at hv ⊢
  obtain ⟨h1,h2⟩:=hv.split
  have:=(h a _ h1).append (J8 h hl l _ h2)
  rwa [zP] at this
theorem J9 {α:Type} {g:G} {f:α→List A} {f':α→List D} (h:∀x vs,nh g.mem (f' x) vs→Vs g (f x) vs) (hl:∀x,(f x).length=(f' x).length):∀(l:List α) (vs:List Value),nh g.mem (l.flatMap f') vs→Vs g (l.flatMap f) vs
 | [],vs,hv=>⟨by simpa using hv.1,fun j c x e=>by simp at e⟩
 | a::l,vs,hv=>by
  rw [List.flatMap_cons] at hv ⊢
  obtain ⟨h1,h2⟩:=hv.split
  have:=(h a _ h1).append (J9 h hl l _ h2)
  rwa [zP] at this
theorem Vs.data {g:G}:∀(t:Ty) (x:t.T) (vs:List Value),t.data=true→Vs g (aJ t x) vs→nh g.mem (eH t x) vs
 | .int k,x,vs,_,h=>I0 (fun y hy h1=>by cases hy;exact .v _ rfl) h
 | .bool,x,vs,_,h=>I0 (fun y hy h1=>by cases hy;exact .v _ rfl) h
 | .unit,_,vs,_,h=>⟨h.1,fun j c x e=>by simp [eH] at e⟩
 | .pair a b,x,vs,hd,h=>by
  simp only [Ty.data,zC] at hd
  obtain ⟨h1,h2⟩:=Vs.split (show Vs g (aJ a x.1++aJ b x.2) vs from h)
  have:=(Vs.data a x.1 _ hd.1 h1).append (Vs.data b x.2 _ hd.2 h2)
  rwa [zP] at this
 | .arr n t,l,vs,hd,h=>J8 (fun i us hu=>Vs.data t _ us hd hu) (fun i=>by rw [cQ,fO]) _ vs h
 | .cB t,l,vs,_,h=>I0 (fun y hy h1=>by cases hy;assumption) h
 | .ptr _,_,_,hd,_=>by cases hd
 | .dH _,_,_,hd,_=>by cases hd
 | .kz _ _,_,_,hd,_=>by cases hd
 | .sU _ _,_,_,hd,_=>by cases hd
 | .mp _,_,_,hd,_=>by cases hd
theorem nh.cells {g:G}:∀(t:Ty) (x:t.T) (vs:List Value),t.data=true→nh g.mem (eH t x) vs→Vs g (aJ t x) vs
 | .int k,x,vs,_,h=>I1 (fun y hy=>by cases hy;exact .v _) h
 | .bool,x,vs,_,h=>I1 (fun y hy=>by cases hy;exact .v _) h
 | .unit,_,vs,_,h=>⟨h.1,fun j c x e=>by simp [aJ] at e⟩
 | .pair a b,x,vs,hd,h=>by
  simp only [Ty.data,zC] at hd
  obtain ⟨h1,h2⟩:=nh.split (show nh g.mem (eH a x.1++eH b x.2) vs from h)
  have:=(nh.cells a x.1 _ hd.1 h1).append (nh.cells b x.2 _ hd.2 h2)
  rwa [zP] at this
 | .arr n t,l,vs,hd,h=>J9 (fun i us hu=>nh.cells t _ us hd hu) (fun i=>by rw [cQ,fO]) _ vs h
 | .cB t,l,vs,_,h=>I1 (fun y hy=>.tl t false l y hy) h
 | .ptr _,_,_,hd,_=>by cases hd
 | .dH _,_,_,hd,_=>by cases hd
 | .kz _ _,_,_,hd,_=>by cases hd
 | .sU _ _,_,_,hd,_=>by cases hd
 | .mp _,_,_,hd,_=>by cases hd
end
section
open Go.RowKit
inductive SW where
 | map (es:List (A×A))
 | Fm
 | loop (st:LoopState) (pe:Option Code)
inductive Ob where
 | cells (cs:List A)
 | d_ (x:SW)
structure Hp where
 ob:Nat→Option Ob
 fr:Nat→Prop
def wI (g:G) (lM:Array MapEntry) (es:List (A×A)):Prop:=es.length=lM.size∧∀(i:Nat) (e:MapEntry) (q:A×A),lM[i]?=some e→es[i]?=some q→V g q.1 e.key∧V g q.2 e.val
theorem wI.mono {g g':G} (h:Le g g') {lM:Array MapEntry} {es:List (A×A)} (k:wI g lM es):wI g' lM es:=⟨k.1,fun i e q e1 e2=>⟨(k.2 i e q e1 e2).1.mono h,(k.2 i e q e1 e2).2.mono h⟩⟩
def sQ (g:G):SW→Obj→Prop
 | .map es,ob=>∃lM clock,ob = .map lM clock∧wI g lM es
 | .Fm,ob=>ob = .deferred (some [])
 | .loop st pe,ob=>∃r:Loop,ob = .loop r∧r.state=st∧r.pending=pe
def MM:Ob→Bool
 | .d_ (.loop _ _)=>true
 | _=>false
theorem sQ.mono {g g':G} (h:Le g g') {x:SW} {ob:Obj} (k:sQ g x ob):sQ g' x ob:=by
 cases x with
 | map es=>obtain ⟨lM,clock,k1,k2⟩:=k;exact ⟨lM,clock,k1,k2.mono h⟩
 | Fm=>exact k
 | loop=>exact k
def pS (g:G) (w:World) (b t:Nat) (cs:List A):Prop:=∃cur ty,w.heap[b]?=some (.cells cur ty (0,0))∧cur.size=t∧Vs g cs (cur.toList.take cs.length)
def K6 (g:G) (w:World) (b:Nat) (s:Nat×Nat):Ob→Prop
 | .cells cs=>s.1=cs.length∧pS g w b s.2 cs
 | .d_ x=>∃ob,w.heap[b]?=some ob∧sQ g x ob
structure Inv (g:G) (S:Hp) (w:World):Prop where
 cells:∀(o:Nat) (cs:List A),S.ob o=some (.cells cs)→(g.cn o=some (none,(0,0))∧cs=[])∨∃b t,g.cn o=some (some b,(cs.length,t))∧pS g w b t cs
 d_:∀(o:Nat) (x:SW),S.ob o=some (.d_ x)→∃b s ob,g.cn o=some (some b,s)∧w.heap[b]?=some ob∧sQ g x ob
 fresh:∀o:Nat,S.fr o→g.cn o=none
 lt:∀(o b:Nat) (s:Nat×Nat),g.cn o=some (some b,s)→b<w.heap.size
 inj:∀(o o':Nat) (x x':Ob) (b:Nat) (s s':Nat×Nat),S.ob o=some x→S.ob o'=some x'→g.cn o=some (some b,s)→g.cn o'=some (some b,s')→o=o'
 mem:∀(b i:Nat) (x:Value),g.mem b i=some x→∃cur ty fz,w.heap[b]?=some (.cells cur ty fz)∧cur[i]?=some x
 o_:∀(o b:Nat) (s:Nat×Nat) (i:Nat) (x:Ob),S.ob o=some x→g.cn o=some (some b,s)→g.mem b i=none
 lp:∀(b:Nat) (l:Lp),g.lp b=some l→∃r,w.heap[b]?=some (.loop r)∧yZ r=l
def ur (S:Hp) (g:G) (k:Nat):Prop:=∃o s x,S.ob o=some x∧g.cn o=some (some k,s)
structure Ext (S:Hp) (g:G) (w:World) (S':Hp) (g':G) (w':World):Prop where
 le:Le g g'
 os:w'.os=w.os
 tape:w'.tape=w.tape
 output:w'.output=w.output
 size:w.heap.size≤w'.heap.size
 frame:∀k,k<w.heap.size→¬ur S g k→w'.heap[k]?=w.heap[k]?
 own:∀k,ur S' g' k→ur S g k∨w.heap.size≤k
 Qo:∀o p,g'.cn o=some p→g.cn o=some p∨(g.cn o=none∧S.fr o)
 fr:∀o,S'.fr o→S.fr o
 yX:∀b i x,g'.mem b i=some x→g.mem b i=some x∨ur S g b∨w.heap.size≤b
 lpo:∀b l,g'.lp b=some l→g.lp b=some l∨w.heap.size≤b
theorem Ext.refl (S:Hp) (g:G) (w:World):Ext S g w S g w:=⟨.refl g,rfl,rfl,rfl,Nat.le_refl _,fun _ _ _=>rfl,fun _ h=>.inl h,fun _ _ h=>.inl h,fun _ h=>h,fun _ _ _ h=>.inl h,fun _ _ h=>.inl h⟩
theorem Ext.trans {S1 S2 S3:Hp} {g1 g2 g3:G} {w1 w2 w3:World} (h:Ext S1 g1 w1 S2 g2 w2) (k:Ext S2 g2 w2 S3 g3 w3):Ext S1 g1 w1 S3 g3 w3 where
 le:=h.le.trans k.le
 os:=k.os.trans h.os
 tape:=k.tape.trans h.tape
 output:=k.output.trans h.output
 size:=Nat.le_trans h.size k.size
 frame:=fun i hi hn=>by
  rw [k.frame i (Nat.lt_of_lt_of_le hi h.size) (fun ho=>(h.own i ho).elim hn (fun hh=>absurd hi (by omega)))]
  exact h.frame i hi hn
 own:=fun i ho=>(k.own i ho).elim (fun ho=>h.own i ho) (fun hh=>.inr (Nat.le_trans h.size hh))
 Qo:=fun o p e=>by
  rcases k.Qo o p e with e1 | ⟨e1,e2⟩
  ·exact h.Qo o p e1
  ·refine .inr ⟨?_,h.fr o e2⟩
   cases hg:g1.cn o with
   | none=>rfl
   | some q=>rw [h.le.cn _ _ hg] at e1;cases e1
 fr:=fun o e=>h.fr o (k.fr o e)
 yX:=fun b i x e=>by
  rcases k.yX b i x e with e1 | e1 | e1
  ·exact h.yX b i x e1
  ·exact .inr (h.own b e1)
  ·exact .inr (.inr (Nat.le_trans h.size e1))
 lpo:=fun b l e=>by
  rcases k.lpo b l e with e1 | e1
  ·exact h.lpo b l e1
  ·exact .inr (Nat.le_trans h.size e1)
theorem Inv.less {g:G} {S S':Hp} {w:World} (h:Inv g S w) (hs:∀o x,S'.ob o=some x→S.ob o=some x) (hf:∀o,S'.fr o→S.fr o):Inv g S' w where
 cells:=fun o cs e=>h.cells o cs (hs _ _ e)
 d_:=fun o x e=>h.d_ o x (hs _ _ e)
 fresh:=fun o e=>h.fresh o (hf o e)
 lt:=h.lt
 inj:=fun o o' x x' b s s' e1 e2=>h.inj o o' x x' b s s' (hs _ _ e1) (hs _ _ e2)
 mem:=h.mem
 o_:=fun o b s i x e=>h.o_ o b s i x (hs _ _ e)
 lp:=h.lp
theorem Ext.less {S S':Hp} {g:G} {w:World} (hs:∀o x,S'.ob o=some x→S.ob o=some x) (hf:∀o,S'.fr o→S.fr o):Ext S g w S' g w where
 le:=.refl g
 os:=rfl
 tape:=rfl
 output:=rfl
 size:=Nat.le_refl _
 frame:=fun _ _ _=>rfl
 own:=fun k ⟨o,s,x,e1,e2⟩=>.inl ⟨o,s,x,hs _ _ e1,e2⟩
 Qo:=fun _ _ e=>.inl e
 fr:=hf
 yX:=fun _ _ _ e=>.inl e
 lpo:=fun _ _ e=>.inl e
theorem Inv.drew {g:G} {S:Hp} {w:World} (h:Inv g S w):Inv g S w.drew:=⟨h.cells,h.d_,h.fresh,h.lt,h.inj,h.mem,h.o_,h.lp⟩
theorem Inv.mlt {g:G} {S:Hp} {w:World} (h:Inv g S w) {b i:Nat} {x:Value} (e:g.mem b i=some x):b<w.heap.size:=let ⟨_,_,_,k,_⟩:=h.mem b i x e;(Array.getElem?_eq_some_iff.1 k).1
def Hp.set (S:Hp) (o:Nat) (x:Ob):Hp:=⟨fun i=>if i=o then some x else S.ob i,S.fr⟩
def Hp.new (S:Hp) (o:Nat) (x:Ob):Hp:=⟨fun i=>if i=o then some x else S.ob i,fun i=>S.fr i∧i≠o⟩
def Hp.del (S:Hp) (o:Nat):Hp:=⟨fun i=>if i=o then none else S.ob i,S.fr⟩
def lV (g:G) (o:Nat) (p:Option Nat×(Nat×Nat)):G:=⟨fun i=>if i=o then some p else g.cn i,g.mem,g.lp⟩
theorem oi {g:G} {o:Nat} {p:Option Nat×(Nat×Nat)} (h:g.cn o=none):Le g (lV g o p):=⟨fun i q e=>by
 show (if i=o then some p else g.cn i)=some q
 split
 ·rename_i hh;subst hh;rw [h] at e;cases e
 ·exact e,fun _ _ _ e=>e,fun _ _ e=>e⟩
theorem dG {g:G} {o:Nat} {p:Option Nat×(Nat×Nat)}:(lV g o p).cn o=some p:=if_pos rfl
theorem mO {g:G} {o i:Nat} {p:Option Nat×(Nat×Nat)} (h:i≠o):(lV g o p).cn i=g.cn i:=if_neg h
theorem Inv.aT {g g':G} {S S':Hp} {w w':World} {o b:Nat} {s:Nat×Nat} {x:Ob} (h:Inv g S w) (hle:Le g g') (GN:g'.mem=g.mem) (hlp:g'.lp=g.lp) (hlb:∀l,g.lp b=some l→∃r,w'.heap[b]?=some (.loop r)∧yZ r=l) (cR:∀i p,i≠o→g'.cn i=some p→g.cn i=some p) (hg:g'.cn o=some (some b,s))
  (fQ:S'.ob o=some x) (hS:∀i y,i≠o→S'.ob i=some y→S.ob i=some y) (mF:∀i,S'.fr i→S.fr i∧g'.cn i=none) (qq:w.heap.size≤w'.heap.size) (hb:b<w'.heap.size)
  (mN:∀k,k≠b→k<w.heap.size→w'.heap[k]?=w.heap[k]?) (M7:∀i y s',i≠o→S'.ob i=some y→g.cn i=some (some b,s')→False) (hmb:∀i,g.mem b i=none)
  (Ds:K6 g' w' b s x):Inv g' S' w' where
 cells:=fun i cs e=>by
  by_cases hi:i=o
  ·subst hi
   rw [fQ] at e
   obtain rfl:=Option.some.inj e
   obtain ⟨h1,h2⟩:s.1=cs.length∧pS g' w' b s.2 cs:=Ds
   exact .inr ⟨b,s.2,by rw [←h1];exact hg,h2⟩
  ·rcases h.cells i cs (hS i _ hi e) with ⟨k1,k2⟩ | ⟨b',t,k1,cur,ty,k2,sW,k3⟩
   ·exact .inl ⟨hle.cn _ _ k1,k2⟩
   ·exact .inr ⟨b',t,hle.cn _ _ k1,cur,ty,by rw [mN b' (fun hh=>M7 i _ _ hi e (hh▸k1)) (h.lt _ _ _ k1)];exact k2,sW,k3.mono hle⟩
 d_:=fun i y e=>by
  by_cases hi:i=o
  ·subst hi
   rw [fQ] at e
   obtain rfl:=Option.some.inj e
   obtain ⟨ob,h1,h2⟩:∃ob,w'.heap[b]?=some ob∧sQ g' y ob:=Ds
   exact ⟨b,s,ob,hg,h1,h2⟩
  ·obtain ⟨b',s',ob,k1,k2,k3⟩:=h.d_ i y (hS i _ hi e)
   exact ⟨b',s',ob,hle.cn _ _ k1,by rw [mN b' (fun hh=>M7 i _ _ hi e (hh▸k1)) (h.lt _ _ _ k1)];exact k2,k3.mono hle⟩
 fresh:=fun i e=>(mF i e).2
 lt:=fun i b' s' e=>by
  by_cases hi:i=o
  ·subst hi;rw [hg] at e;simp at e;omega
  ·exact Nat.lt_of_lt_of_le (h.lt i b' s' (cR i _ hi e)) qq
 inj:=fun i j y z b' s1 s2 e1 e2 k1 k2=>by
  by_cases hi:i=o
  ·by_cases hj:j=o
   ·exact hi.trans hj.symm
   ·subst hi;rw [hg] at k1;simp at k1
    exact (M7 j z s2 hj e2 (by rw [k1.1];exact cR j _ hj k2)).elim
  ·by_cases hj:j=o
   ·subst hj;rw [hg] at k2;simp at k2
    exact (M7 i y s1 hi e1 (by rw [k2.1];exact cR i _ hi k1)).elim
   ·exact h.inj i j y z b' s1 s2 (hS i _ hi e1) (hS j _ hj e2) (cR i _ hi k1) (cR j _ hj k2)
 mem:=fun b' i y e=>by
  rw [GN] at e
  obtain ⟨cur,ty,fz,k1,k2⟩:=h.mem b' i y e
  exact ⟨cur,ty,fz,by rw [mN b' (fun hh=>by subst hh;rw [hmb] at e;cases e) (h.mlt e)];exact k1,k2⟩
 o_:=fun i b' s' j y e k=>by
  rw [GN]
  by_cases hi:i=o
  ·subst hi;rw [hg] at k;simp at k;rw [←k.1];exact hmb j
  ·exact h.o_ i b' s' j y (hS i _ hi e) (cR i _ hi k)
 lp:=fun b' l e=>by
  rw [hlp] at e
  by_cases vW:b'=b
  ·subst vW;exact hlb l e
  ·obtain ⟨r,k1,k2⟩:=h.lp b' l e
   exact ⟨r,by rw [mN b' vW (Array.getElem?_eq_some_iff.1 k1).1];exact k1,k2⟩
theorem Inv.nlp {g:G} {S:Hp} {w:World} (h:Inv g S w) {o b:Nat} {s:Nat×Nat} {x:Ob} (ho:S.ob o=some x) (hg:g.cn o=some (some b,s)) (hx:MM x=false):g.lp b=none:=by
 cases hl:g.lp b with
 | none=>rfl
 | some l=>
  obtain ⟨r,k1,k2⟩:=h.lp b l hl
  cases x with
  | cells cs=>
   rcases h.cells o cs ho with ⟨q,_⟩ | ⟨b',t,q1,cur,ty,q2,_⟩
   ·rw [q] at hg;cases hg
   ·rw [q1] at hg;simp at hg;rw [hg.1,k1] at q2;cases q2
  | d_ y=>
   obtain ⟨b',s',ob,q1,q2,q3⟩:=h.d_ o y ho
   rw [q1] at hg;simp at hg;rw [hg.1,k1] at q2
   cases q2
   cases y with
   | map es=>obtain ⟨lM,clock,k,_⟩:=q3;cases k
   | Fm=>cases q3
   | loop=>cases hx
theorem Inv.alloc {g:G} {S:Hp} {w:World} (h:Inv g S w) {o:Nat} {s:Nat×Nat} (ho:S.fr o) {x:Ob} {ob:Obj} (Ds:K6 (lV g o (some w.heap.size,s)) (w.alloc ob) w.heap.size s x) :
  Inv (lV g o (some w.heap.size,s)) (S.new o x) (w.alloc ob)∧Ext S g w (S.new o x) (lV g o (some w.heap.size,s)) (w.alloc ob):=by
 have hg:=h.fresh o ho
 have hle:=oi (p:=(some w.heap.size,s)) hg
 have qq:(w.alloc ob).heap.size=w.heap.size+1:=Array.size_push _
 have hold:∀i,i≠o→(lV g o (some w.heap.size,s)).cn i=g.cn i:=fun i hi=>mO hi
 have hs:∀i y,i≠o→(S.new o x).ob i=some y→S.ob i=some y:=fun i y hi e=>by
  have e:(if i=o then some x else S.ob i)=some y:=e
  rwa [if_neg hi] at e
 refine ⟨h.aT hle rfl rfl (fun l e=>by obtain ⟨r,k1,_⟩:=h.lp _ l e;have:=(Array.getElem?_eq_some_iff.1 k1).1;omega) (fun i p hi e=>by rwa [hold i hi] at e) dG (show (if o=o then _ else _)=_ from if_pos rfl) hs (fun i hi=>⟨hi.1,by rw [hold i hi.2];exact h.fresh i hi.1⟩) (by omega) (by omega)
  (fun k _ hk=>Below.heap_alloc w _ k hk) (fun i y s' _ _ e=>by have:=h.lt _ _ _ e;omega) (fun i=>?_) Ds,
  ⟨hle,rfl,rfl,rfl,by omega,fun k hk _=>Below.heap_alloc w _ k hk,fun k ⟨i,s',y,e1,e2⟩=>?_,fun i p e=>?_,fun i hi=>hi.1,fun _ _ _ e=>.inl e,fun _ _ e=>.inl e⟩⟩
 ·cases hm:g.mem w.heap.size i with
  | none=>rfl
  | some x=>have:=h.mlt hm;omega
 ·by_cases hi:i=o
  ·subst hi;rw [dG] at e2;simp at e2;exact .inr (by omega)
  ·rw [hold i hi] at e2;exact .inl ⟨i,s',y,hs i y hi e1,e2⟩
 ·by_cases hi:i=o
  ·subst hi;exact .inr ⟨hg,ho⟩
  ·rw [hold i hi] at e;exact .inl e
theorem Inv.HJ {g:G} {S:Hp} {w w':World} (h:Inv g S w) {o b:Nat} {s:Nat×Nat} {x y:Ob} (ho:S.ob o=some x) (hg:g.cn o=some (some b,s)) (qq:w'.heap.size=w.heap.size) (mN:∀k,k≠b→w'.heap[k]?=w.heap[k]?)
  (BB:w'.os=w.os) (vP:w'.tape=w.tape) (sw:w'.output=w.output) (Ds:K6 g w' b s y) (hlb:∀l,g.lp b=some l→∃r,w'.heap[b]?=some (.loop r)∧yZ r=l):Inv g (S.set o y) w'∧Ext S g w (S.set o y) g w':=by
 have hs:∀i z,i≠o→(S.set o y).ob i=some z→S.ob i=some z:=fun i z hi e=>by
  have e:(if i=o then some y else S.ob i)=some z:=e
  rwa [if_neg hi] at e
 refine ⟨h.aT (.refl g) rfl rfl hlb (fun i p _ e=>e) hg (show (if o=o then _ else _)=_ from if_pos rfl) hs (fun i hi=>⟨hi,h.fresh i hi⟩) (by omega) (by rw [qq];exact h.lt _ _ _ hg)
  (fun k hk _=>mN k hk) (fun i z s' hi e k=>hi (h.inj i o z x b s' s (hs i z hi e) ho k hg)) (fun i=>h.o_ o b s i x ho hg) Ds,
  ⟨.refl g,BB,vP,sw,by omega,fun k _ hn=>mN k (fun hh=>hn ⟨o,s,x,ho,hh▸hg⟩),fun k ⟨i,s',z,e1,e2⟩=>?_,fun i p e=>.inl e,fun i hi=>hi,fun _ _ _ e=>.inl e,fun _ _ e=>.inl e⟩⟩
 by_cases hi:i=o
 ·subst hi;exact .inl ⟨i,s',x,ho,e2⟩
 ·exact .inl ⟨i,s',z,hs i z hi e1,e2⟩
theorem Inv.write {g:G} {S:Hp} {w w':World} (h:Inv g S w) {o b:Nat} {s:Nat×Nat} {x y:Ob} (ho:S.ob o=some x) (hg:g.cn o=some (some b,s)) (qq:w'.heap.size=w.heap.size) (mN:∀k,k≠b→w'.heap[k]?=w.heap[k]?)
  (BB:w'.os=w.os) (vP:w'.tape=w.tape) (sw:w'.output=w.output) (Ds:K6 g w' b s y) (hx:MM x=false:=by rfl):Inv g (S.set o y) w'∧Ext S g w (S.set o y) g w':=
 h.HJ ho hg qq mN BB vP sw Ds (fun l e=>by rw [h.nlp ho hg hx] at e;cases e)
theorem Inv.mvw {g:G} {S:Hp} {w w':World} (h:Inv g S w) {o o' b:Nat} {s s':Nat×Nat} {x x':Ob} (ho:S.ob o=some x) (hf:S.fr o') (hg:g.cn o=some (some b,s)) (qq:w'.heap.size=w.heap.size) (mN:∀k,k≠b→w'.heap[k]?=w.heap[k]?)
  (BB:w'.os=w.os) (vP:w'.tape=w.tape) (sw:w'.output=w.output) (Ds:K6 (lV g o' (some b,s')) w' b s' x') (hx:MM x=false:=by rfl) :
  Inv (lV g o' (some b,s')) ((S.del o).new o' x') w'∧Ext S g w ((S.del o).new o' x') (lV g o' (some b,s')) w':=by
 have hg':=h.fresh o' hf
 have jI:o≠o':=fun e=>by rw [e,hg'] at hg;cases hg
 have hle:=oi (p:=(some b,s')) hg'
 have hs:∀i z,i≠o'→((S.del o).new o' x').ob i=some z→i≠o∧S.ob i=some z:=fun i z hi e=>by
  have e:(if i=o' then some x' else if i=o then none else S.ob i)=some z:=e
  rw [if_neg hi] at e
  split at e
  ·cases e
  ·exact ⟨by assumption,e⟩
 refine ⟨h.aT (o:=o') (b:=b) (s:=s') hle rfl rfl (fun l e=>by rw [h.nlp ho hg hx] at e;cases e) (fun i p hi e=>by rwa [mO hi] at e) dG (show (if o'=o' then _ else _)=_ from if_pos rfl) (fun i y hi e=>(hs i y hi e).2) (fun i hi=>⟨hi.1,by rw [mO hi.2];exact h.fresh i hi.1⟩) (by omega) (by rw [qq];exact h.lt _ _ _ hg) (fun k hk _=>mN k hk) ?_ (fun i=>h.o_ o b s i _ ho hg) Ds,⟨hle,BB,vP,sw,by omega,fun k _ hn=>mN k (fun hh=>hn ⟨o,s,x,ho,hh▸hg⟩),fun k ⟨i,s',y,e1,e2⟩=>?_,fun i p e=>?_,fun i hi=>hi.1,fun _ _ _ e=>.inl e,fun _ _ e=>.inl e⟩⟩
 ·intro i y s' hi e k
  obtain ⟨Lq,e'⟩:=hs i y hi e
  exact Lq (h.inj i o y _ b s' s e' ho k hg)
 ·by_cases hi:i=o'
  ·subst hi;rw [dG] at e2;simp at e2;exact .inl ⟨o,s,_,ho,e2.1▸hg⟩
  ·rw [mO hi] at e2;exact .inl ⟨i,s',y,(hs i y hi e1).2,e2⟩
 ·by_cases hi:i=o'
  ·subst hi;exact .inr ⟨hg',hf⟩
  ·rw [mO hi] at e;exact .inl e
theorem Inv.grow {g:G} {S:Hp} {w w':World} (h:Inv g S w) {o o' b:Nat} {s:Nat×Nat} {x:Ob} {kq:List A} (ho:S.ob o=some x) (hf:S.fr o') (hg:g.cn o=some (some b,s)) (qq:w'.heap.size=w.heap.size) (mN:∀k,k≠b→w'.heap[k]?=w.heap[k]?)
  (BB:w'.os=w.os) (vP:w'.tape=w.tape) (sw:w'.output=w.output) (Ds:pS g w' b s.2 kq) (hx:MM x=false:=by rfl) :
  Inv (lV g o' (some b,(kq.length,s.2))) ((S.del o).new o' (.cells kq)) w'∧Ext S g w ((S.del o).new o' (.cells kq)) (lV g o' (some b,(kq.length,s.2))) w':=by
 obtain ⟨cur,ty,k2,sW,k3⟩:=Ds
 exact h.mvw ho hf hg qq mN BB vP sw ⟨rfl,cur,ty,k2,sW,k3.mono (oi (h.fresh o' hf))⟩ hx
theorem Inv.ren {g:G} {S:Hp} {w:World} (h:Inv g S w) {o o' b m:Nat} {s:Nat×Nat} {cs:List A} (ho:S.ob o=some (.cells cs)) (hf:S.fr o') (hg:g.cn o=some (some b,s)) (hm:m≤cs.length) :
  Inv (lV g o' (some b,(m,s.2))) ((S.del o).new o' (.cells (cs.take m))) w∧Ext S g w ((S.del o).new o' (.cells (cs.take m))) (lV g o' (some b,(m,s.2))) w:=by
 have hl:(cs.take m).length=m:=by simp;omega
 have uD:pS g w b s.2 (cs.take m):=by
  rcases h.cells o cs ho with ⟨k1,_⟩ | ⟨b',t,k1,cur,ty,k2,sW,k3⟩
  ·rw [k1] at hg;cases hg
  ·rw [k1] at hg;simp at hg
   obtain ⟨rfl,rfl⟩:=hg
   refine ⟨cur,ty,k2,sW,?_⟩
   have:=k3.part 0 m
   simp only [List.drop_zero] at this
   rw [hl]
   rwa [List.take_take,Nat.min_eq_left hm] at this
 have:=h.grow ho hf hg rfl (fun _ _=>rfl) rfl rfl rfl uD rfl
 rwa [hl] at this
theorem Inv.emp {g:G} {S:Hp} {w:World} (h:Inv g S w) {o:Nat} (hf:S.fr o):Inv (lV g o (none,(0,0))) (S.new o (.cells [])) w∧Ext S g w (S.new o (.cells [])) (lV g o (none,(0,0))) w:=by
 have hg:=h.fresh o hf
 have hle:=oi (p:=(none,(0,0))) hg
 have hs:∀i z,i≠o→(S.new o (.cells [])).ob i=some z→S.ob i=some z:=fun i z hi e=>by
  have e:(if i=o then some (.cells []) else S.ob i)=some z:=e
  rwa [if_neg hi] at e
 have ho:(S.new o (.cells [])).ob o=some (.cells []):=if_pos rfl
 have hn:∀i b s,(lV g o (none,(0,0))).cn i=some (some b,s)→i≠o∧g.cn i=some (some b,s):=fun i b s e=>by
  have hi:i≠o:=by rintro rfl;rw [dG] at e;simp at e
  exact ⟨hi,by rwa [mO hi] at e⟩
 refine ⟨⟨fun i cs e=>?_,fun i x e=>?_,fun i hi=>by rw [mO hi.2];exact h.fresh i hi.1,fun i b s e=>h.lt i b s (hn i b s e).2,fun i j x x' b s s' e1 e2 k1 k2=>?_,h.mem,fun i b s j x e k=>?_,h.lp⟩,
  ⟨hle,rfl,rfl,rfl,Nat.le_refl _,fun _ _ _=>rfl,fun k ⟨i,s',y,e1,e2⟩=>?_,fun i p e=>?_,fun i hi=>hi.1,fun _ _ _ e=>.inl e,fun _ _ e=>.inl e⟩⟩
 ·by_cases hi:i=o
  ·subst hi;rw [ho] at e;simp at e;subst e;exact .inl ⟨dG,rfl⟩
  ·rcases h.cells i cs (hs i _ hi e) with ⟨k1,k2⟩ | ⟨b',t,k1,cur,ty,k2,sW,k3⟩
   ·exact .inl ⟨hle.cn _ _ k1,k2⟩
   ·exact .inr ⟨b',t,hle.cn _ _ k1,cur,ty,k2,sW,k3.mono hle⟩
 ·have hi:i≠o:=by rintro rfl;rw [ho] at e;cases e
  obtain ⟨b',s',ob,k1,k2,k3⟩:=h.d_ i x (hs i _ hi e)
  exact ⟨b',s',ob,hle.cn _ _ k1,k2,k3.mono hle⟩
 ·exact h.inj i j x x' b s s' (hs i _ (hn _ _ _ k1).1 e1) (hs j _ (hn _ _ _ k2).1 e2) (hn _ _ _ k1).2 (hn _ _ _ k2).2
 ·exact h.o_ i b s j x (hs i _ (hn _ _ _ k).1 e) (hn _ _ _ k).2
 ·exact .inl ⟨i,s',y,hs i y (hn _ _ _ e2).1 e1,(hn _ _ _ e2).2⟩
 ·by_cases hi:i=o
  ·subst hi;exact .inr ⟨hg,hf⟩
  ·rw [mO hi] at e;exact .inl e
def J5 (g:G) (b:Nat) (f:Nat→Option Value):G:=⟨g.cn,fun b' i=>if b'=b then f i else g.mem b' i,g.lp⟩
theorem Nh {g:G} {b:Nat} {f:Nat→Option Value} (h:∀i,g.mem b i=none):Le g (J5 g b f):=⟨fun _ _ e=>e,fun b' i x e=>by
 show (if b'=b then f i else g.mem b' i)=some x
 split
 ·rename_i hh;subst hh;rw [h] at e;cases e
 ·exact e,fun _ _ e=>e⟩
theorem Inv.frz {g:G} {S:Hp} {w:World} (h:Inv g S w) {o b:Nat} {s:Nat×Nat} {cs:List A} (ho:S.ob o=some (.cells cs)) (hg:g.cn o=some (some b,s)) :
  ∃cur:Array Value,∃ty,w.heap[b]?=some (.cells cur ty (0,0))∧s.1=cs.length∧Vs g cs (cur.toList.take cs.length)∧Le g (J5 g b fun i=>if i<cs.length then cur[i]? else none) ∧
   Inv (J5 g b fun i=>if i<cs.length then cur[i]? else none) (S.del o) w∧Ext S g w (S.del o) (J5 g b fun i=>if i<cs.length then cur[i]? else none) w:=by
 rcases h.cells o cs ho with ⟨k1,_⟩ | ⟨b',t,k1,cur,ty,k2,sW,k3⟩
 ·rw [k1] at hg;cases hg
 rw [k1] at hg;simp at hg
 obtain ⟨rfl,rfl⟩:=hg
 have hle:Le g (J5 g b' fun i=>if i<cs.length then cur[i]? else none):=Nh (fun i=>h.o_ o b' _ i _ ho k1)
 have hs:∀i z,(S.del o).ob i=some z→i≠o∧S.ob i=some z:=fun i z e=>by
  have e:(if i=o then none else S.ob i)=some z:=e
  split at e
  ·cases e
  ·exact ⟨by assumption,e⟩
 refine ⟨cur,ty,k2,rfl,k3,hle,⟨fun i kq e=>?_,fun i x e=>?_,h.fresh,h.lt,fun i j x x' b s s' e1 e2=>h.inj i j x x' b s s' (hs _ _ e1).2 (hs _ _ e2).2,fun b i x e=>?_,fun i b s j x e k=>?_,h.lp⟩,
  ⟨hle,rfl,rfl,rfl,Nat.le_refl _,fun _ _ _=>rfl,fun k ⟨i,s',y,e1,e2⟩=>.inl ⟨i,s',y,(hs i y e1).2,e2⟩,fun i p e=>.inl e,fun i hi=>hi,fun b i x e=>?_,fun _ _ e=>.inl e⟩⟩
 ·rcases h.cells i kq (hs i _ e).2 with ⟨k1,k2⟩ | ⟨b',t,k1,cur,ty,k2,sW,k3⟩
  ·exact .inl ⟨k1,k2⟩
  ·exact .inr ⟨b',t,k1,cur,ty,k2,sW,k3.mono hle⟩
 ·obtain ⟨b',s',ob,k1,k2,k3⟩:=h.d_ i x (hs i _ e).2
  exact ⟨b',s',ob,k1,k2,k3.mono hle⟩
 ·have e:(if b=b' then (if i<cs.length then cur[i]? else none) else g.mem b i)=some x:=e
  by_cases hb:b=b'
  ·rw [if_pos hb] at e
   by_cases hi:i<cs.length
   ·rw [if_pos hi] at e;rw [hb];exact ⟨cur,ty,_,k2,e⟩
   ·rw [if_neg hi] at e;cases e
  ·rw [if_neg hb] at e;exact h.mem b i x e
 ·show (if b=b' then (if j<cs.length then cur[j]? else none) else g.mem b j)=none
  have jI:b≠b':=fun hb=>by
   subst hb
   exact (hs i x e).1 (h.inj i o x _ b s _ (hs i x e).2 ho k k1)
  rw [if_neg jI]
  exact h.o_ i b s j x (hs i x e).2 k
 ·have e:(if b=b' then (if i<cs.length then cur[i]? else none) else g.mem b i)=some x:=e
  split at e
  ·rename_i hb;exact .inr (.inl ⟨o,_,_,ho,hb▸k1⟩)
  ·exact .inl e
end
section
open Go.RowKit
section
variable {P:Program}
theorem BL {α:Type} {sz:Nat}:∀{es:List (List α)},(∀e,e∈es→e.length=sz)→es.flatten.length=es.length*sz
 | [],_=>by simp
 | d::es,hz=>by
  rw [List.flatten_cons,zY,hz d (zV ..),BL (fun e he=>hz e (zT _ he)),zR,Nat.add_mul]
  omega
theorem flat_get {α:Type} {sz:Nat}:∀{es:List (List α)} (_:∀e,e∈es→e.length=sz) {i j:Nat} {e:List α} {c:α},es[i]?=some e→e[j]?=some c→es.flatten[i*sz+j]?=some c
 | [],_,i,j,e,c,h1,_=>by simp at h1
 | d::es,hz,0,j,e,c,h1,h2=>by
  simp at h1
  subst h1
  rw [List.flatten_cons,Nat.zero_mul,Nat.zero_add,zK (zB.1 h2).1]
  exact h2
 | d::es,hz,i+1,j,e,c,h1,h2=>by
  have hd:=hz d (zV ..)
  rw [List.flatten_cons,zJ (by rw [hd,Nat.add_mul];omega)]
  rw [show (i+1)*sz+j-d.length=i*sz+j from by rw [hd,Nat.add_mul];omega]
  exact flat_get (fun e he=>hz e (zT _ he)) (by simpa using h1) h2
def gC (P:Program) (t:TypeId) (n:Nat):Prop:=∃i,P.info? t=some i∧i.size=n
theorem gC.run {t:TypeId} {n:Nat} (h:gC P t n) (w:World):(sizeOf t).run P w = .ok n w:=by
 obtain ⟨i,hi,rfl⟩:=h
 simp [sizeOf,typeInfo,hi]
def lZ:TypeDesc→Bool
 | .struct _ | .array _ _=>true
 | _=>false
theorem nk {t:TypeId} {d:TypeDesc} (h:P.underlying t=some d) (w:World):(isAgg t).run P w = .ok (lZ d) w:=by
 simp only [isAgg,Sem.run_bind,run_underlying h,Result.andThen_ok]
 cases d<;>rfl
def MN:BinOp→IntKind→Int→Int→Option Value
 | .add,k,a,b=>some (.int k (k.wrap (a+b)))
 | .sub,k,a,b=>some (.int k (k.wrap (a-b)))
 | .mul,k,a,b=>some (.int k (k.wrap (a*b)))
 | .quo,k,a,b=>if b=0 then none else some (.int k (k.wrap (a.tdiv b)))
 | .rem,k,a,b=>if b=0 then none else some (.int k (a.tmod b))
 | .and,k,a,b=>some (.int k (bits .and k a b))
 | .or,k,a,b=>some (.int k (bits .or k a b))
 | .xor,k,a,b=>some (.int k (bits .xor k a b))
 | .andNot,k,a,b=>some (.int k (bits .andNot k a b))
 | .eql,_,a,b=>some (.bool (decide (a=b)))
 | .neq,_,a,b=>some (.bool (!decide (a=b)))
 | .lss,_,a,b=>some (.bool (decide (a<b)))
 | .leq,_,a,b=>some (.bool (decide (a≤b)))
 | .gtr,_,a,b=>some (.bool (decide (b<a)))
 | .geq,_,a,b=>some (.bool (decide (b≤a)))
 | _,_,_,_=>none
theorem Ia {op:BinOp} {k:IntKind} {a b:Int} {r:Value} (h:MN op k a b=some r) (T:TypeId) (w:World):(binOp op T (.int k a) (.int k b)).run P w = .ok r w:=by
 cases op<;>simp only [MN] at h<;>(try (split at h))<;>simp at h<;>subst h <;>
  simp_all [binOp,Op.intArith,Op.intDiv,Op.intBits,Op.intCmp,bits,bne]<;>(rw [Bool.eq_iff_iff];simp)
def Dj:BinOp→IntKind→Int→Int→Option Value
 | .shl,k,a,b=>if b<0 then none else some (.int k (k.wrap (a*2^(min b.toNat k.bits))))
 | .shr,k,a,b=>if b<0 then none else some (.int k (a.fdiv (2^(min b.toNat k.bits))))
 | _,_,_,_=>none
theorem run_equalIn_bool (d:Nat) {T:TypeId} (hT:P.underlying T=some .bool) (m n:Bool) (w:World):(Op.equalIn (d+1) T (.bool m) (.bool n)).run P w = .ok (m == n) w:=by
 simp [Op.equalIn,run_underlying hT]
theorem run_equal_bool {T:TypeId} (hT:P.underlying T=some .bool) (m n:Bool) (w:World):(Op.equal T (.bool m) (.bool n)).run P w = .ok (m == n) w:=
 run_equalIn_bool 9999 hT m n w
theorem AN {T:TypeId} {fs:Array Field} {f:Nat} {fd:Field} {s:Nat} (hT:P.underlying T=some (.struct fs)) (hf:fs[f]?=some fd) (hs:gC P fd.type s) (h0:s≠0) (b off:Nat) (w:World) :
  (Instr.fieldAt T (.pointer (some ⟨b,off,none⟩)) f).run P w = .ok (.pointer (some ⟨b,off+fd.offset,none⟩)) w:=by
 simp [Instr.fieldAt,run_underlying hT,hf,Instr.sureAddr,fieldPlace,hs.run w,h0,Addr.add_lit]
def TI (P:Program) (T:TypeId) (sz bytes:Nat) (z:Value):Prop:=∃i,P.info? T=some i∧i.zero=some z∧i.size=sz∧i.bytes=bytes∧z.cells.size=sz∧(z.cells.toList.all (·.oneCell'))=true
theorem bo {T:TypeId} {sz bytes:Nat} {z:Value} (h:(P.info? T).map (fun i=>(i.zero,i.size,i.bytes))=some (some z,sz,bytes)) (h1:z.cells.size=sz) (h2:(z.cells.toList.all (·.oneCell'))=true):TI P T sz bytes z:=by
 cases hi:P.info? T with
 | none=>simp [hi] at h
 | some i=>
  simp [hi] at h
  exact ⟨i,hi,h.1,h.2.1,h.2.2,h1,h2⟩
theorem TI.size {T:TypeId} {sz bytes:Nat} {z:Value} (h:TI P T sz bytes z):gC P T sz:=let ⟨i,h1,_,h2,_⟩:=h;⟨i,h1,h2⟩
def tj {α:Type} (n:Nat) (zs:List α):List α:=(List.replicate n zs).flatten
theorem mb {α:Type} (n:Nat) (zs:List α):(tj n zs).length=n*zs.length:=by
 unfold tj;rw [BL (sz:=zs.length) (fun e he=>by rw [(List.mem_replicate.1 he).2])];simp
theorem AT {α:Type} {n:Nat} {zs:List α} {j:Nat} (h:j<n*zs.length):(tj n zs)[j]?=zs[j%zs.length]?:=by
 have h0:0<zs.length:=by
  rcases Nat.eq_zero_or_pos zs.length with h1 | h1
  ·rw [h1] at h;omega
  ·exact h1
 have hd:j / zs.length<n:=Nat.div_lt_of_lt_mul (by rw [Nat.mul_comm];exact h)
 have hm:=Nat.mod_lt j h0
 have:=flat_get (sz:=zs.length) (es:=List.replicate n zs) (i:=j / zs.length) (j:=j%zs.length) (e:=zs) (c:=zs[j%zs.length]) (fun e he=>by rw [(List.mem_replicate.1 he).2]) (by simp [hd]) (by simp [hm])
 unfold tj
 rw [show j / zs.length*zs.length+j%zs.length=j by rw [Nat.mul_comm];exact Nat.div_add_mod j zs.length] at this
 rw [this];simp [hm]
theorem xc {z:Array Value} {n j:Nat} (h0:0<z.size) (h:j<n*z.size):(madeCells z (n*z.size))[j]?=z[j%z.size]?:=by
 have hm:=Nat.mod_lt j h0
 simp [madeCells,h,hm]
theorem GW (off:Nat) (l:List Value) (cs:Array Value) (h:off+l.length≤cs.size) :
  ((l.zipIdx 0).foldl (fun cs (x:Value×Nat)=>cs.setIfInBounds (off+x.2) x.1) cs).toList=cs.toList.take off++l++cs.toList.drop (off+l.length):=by
 obtain ⟨h1,h2⟩:=Go.Great.foldl_set off l 0 cs
 generalize (l.zipIdx 0).foldl (fun cs (x:Value×Nat)=>cs.setIfInBounds (off+x.2) x.1) cs=r at *
 apply List.ext_getElem?
 intro k
 have h3:=h2 k
 simp only [Nat.add_zero] at h3
 rw [Array.getElem?_toList,h3]
 by_cases hk:k<off
 ·rw [if_neg (by omega),List.append_assoc,zK (by simp;omega),List.getElem?_take,if_pos hk,Array.getElem?_toList]
 ·by_cases TJ:k<off+l.length
  ·rw [if_pos ⟨by omega,TJ,by omega⟩,List.append_assoc,zJ (by simp;omega),zK (by simp;omega)]
   simp [Nat.min_eq_left (show off≤cs.size by omega)]
  ·rw [if_neg (by omega),zJ (by simp;omega),List.getElem?_drop]
   simp only [zY,List.length_take,Array.length_toList,Nat.min_eq_left (show off≤cs.size by omega)]
   rw [Array.getElem?_toList]
   congr 1;omega
theorem FW {x:Value} {k:IntKind} {n:Int} (hx:x = .int k n) {y:Nat} (c:BoundsCode) (h:0≤n∧n≤y) (w:World):(Instr.sliceBound x y c).run P w = .ok n.toNat w:=by
 subst hx
 simp [Instr.sliceBound,asIntOf,h]
theorem jL (w:World) (T E ty:TypeId) (hT:P.underlying T=some (.slice E)) {sz:Nat} (hE:gC P E sz) (A:Option Addr) (b:Option Addr) (n cap c:Nat) (h:n≤cap) :
  (Builtin.append_ #[T,T] ty #[.slice A n cap,.slice b 0 c]).run P w = .ok (.slice A n cap) w:=by
 have hf:(Builtin.firstCells sz 0 (.slice b 0 c)).run P w = .ok #[] w:=by
  cases b<;>simp [Builtin.firstCells,loadCells,loadCellsFrom]
 cases A<;>simp [Builtin.append_,run_underlying hT,hE.run,Builtin.lenOf,h,hf,storeCells]
theorem FV (w:World) {T T' ty E t:TypeId} {sz HD off n cap m c2:Nat} {q:Addr} {cur:Array Value} {us:List Value} (hT:P.underlying T=some (.slice E)) (hE:gC P E sz) (hg:w.heap[HD]?=some (.cells cur t (0,0)))
  (qb:us.length=m*sz) (hq:∀j v,us[j]?=some v→w.cell? (q.add j)=some v) (h1:∀v∈us,v.oneCell'=true) (hm:m≤n) (RN:off+us.length≤cur.size) :
  (Builtin.copy_ #[T,T'] ty #[.slice (some ⟨HD,off,none⟩) n cap,.slice (some q) m c2]).run P w = .ok (.int .i64 ((m:Nat):Int)) (w.setRow HD (cur.toList.take off++us++cur.toList.drop (off+us.length)).toArray):=by
 have hl:=run_loadCells_list (P:=P) w q us hq
 rw [qb] at hl
 have qF:=run_storeCells_at P HD off t us 0 cur w hg (by simpa using RN) h1
 simp only [Nat.add_zero] at qF
 have aes:Nat.min m n=m:=Nat.min_eq_left hm
 simp only [Builtin.copy_,List.getElem?_toArray,List.getElem?_cons_zero,List.getElem?_cons_succ,Sem.run_bind,run_underlying hT,Result.andThen_ok,Builtin.lenOf,Sem.run_pure,aes,hE.run w,Builtin.firstCells,hl]
 simp only [qF,Result.andThen_ok,Sem.run_pure,goInt]
theorem wU (w:World) {T T' ty E:TypeId} {sz n cap c2:Nat} {A B:Option Addr} (hT:P.underlying T=some (.slice E)) (hE:gC P E sz) :
  (Builtin.copy_ #[T,T'] ty #[.slice A n cap,.slice B 0 c2]).run P w = .ok (.int .i64 ((0:Nat):Int)) w:=by
 have hl:∀(x:Addr),(loadCells x 0).run P w = .ok #[] w:=fun x=>by simpa using run_loadCells_list (P:=P) w x [] (by simp)
 cases A<;>cases B<;>simp [Builtin.copy_,run_underlying hT,Builtin.lenOf,Builtin.firstCells,hE.run w,storeCells,hl,goInt]
def AS (rv:ResultVar) (tmps:Array Value):Sem Value:=
 match rv with
 | .tmp t=>pure (tmps.getD t undef)
 | .cell a t=>do loadVar t (←asAddr (tmps.getD a undef))
theorem AR {fn:Func} {tmps:Array Value} {w:World} {vs:List Value} (h:(fn.results.toList.mapM (fun rv=>AS rv tmps)).run P w = .ok vs w) :
  (results fn tmps).run P w = .ok (if h:vs.toArray.size=1 then vs.toArray[0] else .tuple vs.toArray) w:=by
 show (do
  let vs ←fn.results.mapM (fun rv=>AS rv tmps)
  pure (if h:vs.size=1 then vs[0] else .tuple vs):Sem Value).run P w=_
 rw [Array.mapM_eq_mapM_toList]
 simp only [Sem.run_bind,Sem.run_map,h,Result.andThen_ok,Sem.run_pure]
structure D_ (P:Program) (f:FuncId):Prop where
 out : ∃ fn, P.funcs[f]? = some fn ∧ (fn.name == "runtime.NumGoroutine") = false ∧ fn.body.isSome = true
theorem D_.run {f:FuncId} (h:D_ P f) (args:Array Value) (w:World):(callFunc f args).run P w = .ok (.enter f args) w:=by
 obtain ⟨fn,h1,h2,h3⟩:=h.out
 have h4:fn.body.isNone=false:=by cases hb:fn.body<;>simp_all
 simp only [callFunc,Sem.run_bind,run_program,Result.andThen_ok,h1,h2,h4,Bool.false_eq_true,if_false,Sem.run_pure]
theorem np (w:World) (t ty e e':TypeId) (i:TypeInfo) (ht:P.underlying t=some (.slice e)) (hi:P.info? e=some i)
  (g CU QX:Nat) (cur:Array Value) (hg:w.heap[g]?=some (.cells cur e' (0,0)))
  (a:Addr) (m c:Nat) (news:List Value) (hl:news.length=m*i.size) (ph:∀j u,news[j]?=some u→w.cell? (a.add j)=some u) (h1:∀u∈news,u.oneCell'=true)
  (uc:CU+m≤QX) (RN:CU*i.size+news.length≤cur.size) :
  (Builtin.append_ #[t,t] ty #[.slice (some ⟨g,0,none⟩) CU QX,.slice (some a) m c]).run P w =
   .ok (.slice (some ⟨g,0,none⟩) (CU+m) QX) (w.setRow g (cur.toList.take (CU*i.size)++news++cur.toList.drop (CU*i.size+news.length)).toArray):=by
 have hf:=run_firstCells_some (P:=P) w i.size m a m c news hl ph
 have qF:=run_storeCells_at P g (CU*i.size) e' news 0 cur w hg (by simpa using RN) h1
 simp only [Nat.add_zero] at qF
 simp [Builtin.append_,run_underlying ht,sizeOf,typeInfo,hi,Builtin.lenOf,uc,hf,Addr.add_lit,qF]
end
end
section
open Go.RowKit
def gJ (P:Program) (o:Oper) (ρ:Operand→A) (S S':Hp) (pv:A):Prop:=
  ∀(g:G) (w:World) (a:Act) (next:Act→World→Prop) (Q:Exit→Act→World→Prop),Inv g S w→(∀x∈o.op.operands,V g (ρ x) (a.eval x)) →
   (∀v g' w',V g' pv v→Inv g' S' w'→Ext S g w S' g' w'→next (a.put o.dst v) w')→o.wp P a w next Q
def K5 (P:Program) (o:Oper) (ρ:Operand→A) (S:Hp) (pv:A):Prop:=
 ∀(g:G) (w:World) (a:Act),Inv g S w→(∀x∈o.op.operands,V g (ρ x) (a.eval x))→∃v,(execOp a.eval o).run P w = .ok (.value v) w∧V g pv v
theorem K5.cn {P:Program} {o:Oper} {ρ:Operand→A} {S:Hp} {pv:A} (h:∀(g:G) (w:World) (a:Act),Inv g S w→(∀x∈o.op.operands,V g (ρ x) (a.eval x))→K5 P o ρ S pv):K5 P o ρ S pv:=fun g w a hI hv=>h g w a hI hv g w a hI hv
theorem gJ.value {P:Program} {o:Oper} {ρ:Operand→A} {S:Hp} {pv:A}
  (h:∀(g:G) (w:World) (a:Act),Inv g S w→(∀x∈o.op.operands,V g (ρ x) (a.eval x))→∃v,(execOp a.eval o).run P w = .ok (.value v) w∧V g pv v):gJ P o ρ S S pv:=by
 intro g w a next Q hI hx K
 obtain ⟨v,hr,hv⟩:=h g w a hI hx
 unfold Oper.wp
 rw [hr]
 exact K v g w hv hI (.refl S g w)
section
variable {P:Program} {o:Oper} {ρ:Operand→A} {S:Hp}
def A.cells:A→Option (List A)
 | .agg cs=>some cs
 | .v x=>bif x.oneCell' then some [.v x] else none
 | .mA _ | .dI | .un=>none
 | p=>some [p]
theorem xM {v:Value} (h1:v.oneCell'=true):v.cells = #[v]:=by cases v<;>first | rfl | (cases h1)
theorem tV {g:G} {p:A} {v:Value} (h:V g p v) (h1:v.oneCell'=true):Vs g [p] v.cells.toList:=by
 rw [xM h1]
 exact .cons h h1 .nil
theorem V.Gs {g:G} {p:A} {v:Value} (h:V g p v) (hp:match p with | .op _ _ | .os _ _ _ | .om _ _=>True | _=>False:=by trivial):v.oneCell'=true:=by
 cases h with
 | op r o v h0 h1=>cases o with
  | none=>rw [h0 rfl];rfl
  | some j=>have:=h1 j rfl;cases this;rfl
 | os r z o v h0 h1=>cases o with
  | none=>have:=h0 rfl;cases this;rfl
  | some j=>have:=h1 j rfl;cases this<;>rfl
 | om r o v h0 h1=>cases o with
  | none=>rw [h0 rfl];rfl
  | some j=>have:=h1 j rfl;cases this;rfl
 | _=>exact hp.elim
theorem V.cells {g:G} {p:A} {v:Value} {ps:List A} (h:V g p v) (hp:p.cells=some ps):Vs g ps v.cells.toList:=by
 cases p with
 | v y=>
  cases h
  have hp:(bif v.oneCell' then some [A.v v] else none)=some ps:=hp
  cases hy:v.oneCell' with
  | true=>rw [hy] at hp;cases hp;exact tV (.v v) hy
  | false=>rw [hy] at hp;cases hp
 | agg cs=>
  cases hp
  cases h with
  | agg _ vs hl h1 h=>exact ⟨by simp [Value.cells,hl],fun j c x h2 h3=>⟨h j c x h2 (by simpa [Value.cells] using h3),h1 x (zG h3)⟩⟩
 | mA _=>cases hp
 | dI=>cases hp
 | un=>cases hp
 | tl t f l=>cases hp;refine tV h ?_;cases h with | tl _ _ _ _ h1=>exact h1.one
 | op r o=>cases hp;exact tV h h.Gs
 | os r z o=>cases hp;exact tV h h.Gs
 | om r o=>cases hp;exact tV h h.Gs
 | _=>cases hp;refine tV h ?_;cases h<;>rfl
def l9 (z:Value):List A:=z.cells.toList.map .v
theorem rB {z:Value} (h:(z.cells.toList.all (·.oneCell'))=true) (g:G):Vs g (l9 z) z.cells.toList:=by
 refine ⟨by simp [l9],fun j c x h1 h2=>?_⟩
 simp only [l9,zL,h2,Option.map_some,zI] at h1
 subst h1
 exact ⟨.v x,List.all_eq_true.1 h x (zG h2)⟩
theorem V.jq {g:G} {x v:Value} (h:V g (.v x) v):v=x:=by cases h;rfl
theorem IW {x:Operand} (ho:o.op = .move x):gJ P o ρ S S (ρ x):=
 .value fun g w a _ hx=>⟨a.eval x,by simp [execOp,ho],hx x (by simp [ho,Op.operands])⟩
theorem Da {x:Operand} (ho:o.op = .assign x):gJ P o ρ S S (ρ x):=
 .value fun g w a _ hx=>⟨a.eval x,by simp [execOp,ho],hx x (by simp [ho,Op.operands])⟩
theorem Bg {x:Operand} {ix:Nat} {cs:List A} {p:A} (ho:o.op = .extract x ix) (hx:ρ x = .mA cs) (hp:cs[ix]?=some p):gJ P o ρ S S p:=
 .value fun g w a _ hv=>by
  have e1:=hv x (by simp [ho,Op.operands])
  rw [hx] at e1
  generalize hu:a.eval x=u at e1
  cases e1 with
  | mA _ vs hl h=>
   have dP:ix<vs.size:=by rw [←hl];exact (zB.1 hp).1
   exact ⟨vs[ix],by simp [execOp,ho,hu,Instr.extract,dP],h ix p vs[ix] hp (by simp [dP])⟩
theorem Be {x y z:Operand} {b:Bool} (ho:o.op = .pick x y z) (hx:ρ x = .v (.bool b)):gJ P o ρ S S (if b then ρ y else ρ z):=
 .value fun g w a _ hv=>by
  have e1:=(hx▸hv x (by simp [ho,Op.operands])).jq
  refine ⟨if b then a.eval y else a.eval z,by simp [execOp,ho,e1,asBool],?_⟩
  cases b
  ·exact hv z (by simp [ho,Op.operands])
  ·exact hv y (by simp [ho,Op.operands])
theorem Mo {op:BinOp} {T T':TypeId} {x y:Operand} {k:IntKind} {m n:Int} {r:Value} (ho:o.op = .binOp op T x y T') (hx:ρ x = .v (.int k m)) (hy:ρ y = .v (.int k n)) (h:MN op k m n=some r):gJ P o ρ S S (.v r):=
 .value fun g w a _ hv=>by
  have e1:=(hx▸hv x (by simp [ho,Op.operands])).jq
  have e2:=(hy▸hv y (by simp [ho,Op.operands])).jq
  exact ⟨r,by simp only [execOp,ho,e1,e2,eqGuard_at_int,pure_bind,Sem.run_bind,Ia h,Result.andThen_ok,Sem.run_pure],.v r⟩
theorem Gj {op:BinOp} {T T':TypeId} {x y:Operand} {k k':IntKind} {m n:Int} {r:Value} (ho:o.op = .binOp op T x y T') (hx:ρ x = .v (.int k m)) (hy:ρ y = .v (.int k' n)) (h:Dj op k m n=some r):gJ P o ρ S S (.v r):=
 .value fun g w a _ hv=>by
  have k1:=(hx▸hv x (by simp [ho,Op.operands])).jq
  have k2:=(hy▸hv y (by simp [ho,Op.operands])).jq
  cases op<;>simp only [Dj] at h<;>(try (split at h))<;>simp at h
  all_goals
   subst h
   refine ⟨_,?_,.v _⟩
   clear hv
   simp only [execOp,ho,k1,k2,eqGuard_at_int,pure_bind,Sem.run_bind,binOp,Op.shift]
   rw [if_neg (by assumption)]
   simp
theorem Mn {op:BinOp} {T T':TypeId} {x y:Operand} {m n:Bool} (ho:o.op = .binOp op T x y T') (hT:P.underlying T=some .bool) (hx:ρ x = .v (.bool m)) (hy:ρ y = .v (.bool n))
  (h:op = .eql∨op = .neq):gJ P o ρ S S (.v (.bool (if op = .eql then m == n else m != n))):=
 .value fun g w a _ hv=>by
  have k1:=(hx▸hv x (by simp [ho,Op.operands])).jq
  have k2:=(hy▸hv y (by simp [ho,Op.operands])).jq
  refine ⟨_,?_,.v _⟩
  rcases h with rfl | rfl
  ·simp only [execOp,ho,k1,k2,eqGuard_at_bool,pure_bind,Sem.run_bind,binOp,run_equal_bool hT,Result.andThen_ok,Sem.run_pure,if_true]
  ·simp only [execOp,ho,k1,k2,eqGuard_at_bool,pure_bind,Sem.run_bind,binOp,run_equal_bool hT,Result.andThen_ok,Sem.run_pure]
   simp [bne]
theorem Mh {T:TypeId} {x:Operand} {b:Bool} (ho:o.op = .unOp .not T x) (hx:ρ x = .v (.bool b)):gJ P o ρ S S (.v (.bool (!b))):=
 .value fun g w a _ hv=>⟨_,by simp [execOp,ho,(hx▸hv x (by simp [ho,Op.operands])).jq,Op.unary],.v _⟩
theorem IY {s t:TypeId} {x:Operand} {k k':IntKind} {n:Int} (ho:o.op = .convert s t x) (hs:(P.underlying s).isSome=true) (ht:P.underlying t=some (.int k')) (hx:ρ x = .v (.int k n)) :
  gJ P o ρ S S (.v (.int k' (k'.wrap n))):=
 .value fun g w a _ hv=>by
  have e1:=(hx▸hv x (by simp [ho,Op.operands])).jq
  obtain ⟨d,hd⟩:=Option.isSome_iff_exists.mp hs
  exact ⟨_,by simp [execOp,ho,e1,convert,run_underlying hd,run_underlying ht,Conv.intToInt],.v _⟩
def Pl:A→Option (Nat×Nat)
 | .ptr o off=>some (o,off)
 | .tp x π=>some (x.id,fg π)
 | _=>none
theorem V.pl {g:G} {p:A} {v:Value} {i off:Nat} (h:V g p v) (hp:Pl p=some (i,off)):∃b s,g.cn i=some (some b,s)∧v = .pointer (some ⟨b,off,none⟩):=by
 cases h<;>simp only [Pl,zI,zU,reduceCtorEq] at hp
 ·obtain ⟨rfl,rfl⟩:=hp;exact ⟨_,_,by assumption,rfl⟩
 ·obtain ⟨rfl,rfl⟩:=hp;exact ⟨_,_,by assumption,rfl⟩
def Jy:A→Bool
 | .ptr _ _=>true
 | .tp _ _=>true
 | .dp _ _=>true
 | _=>false
theorem V.Jy {g:G} {p:A} {v:Value} (h:V g p v) (hp:Jy p=true):∃ad,v = .pointer (some ad):=by
 cases h<;>first | exact ⟨_,rfl⟩ | cases hp
theorem yO {x:Operand} (ho:o.op = .nilCheck x) (hx:Jy (ρ x)=true):gJ P o ρ S S (ρ x):=
 .value fun g w a _ hv=>by
  have e1:=hv x (by simp [ho,Op.operands])
  obtain ⟨ad,hu⟩:=e1.Jy hx
  exact ⟨a.eval x,by simp [execOp,ho,hu],e1⟩
theorem Gk {T:TypeId} {fs:Array Field} {f s:Nat} {fd:Field} {x:Operand} {r:A} (ho:o.op = .fieldAddr T x f) (hT:P.underlying T=some (.struct fs)) (hf:fs[f]?=some fd) (hs:gC P fd.type s) (h0:s≠0)
  (hr:∀g v,V g (ρ x) v→∃b off,v = .pointer (some ⟨b,off,none⟩)∧V g r (.pointer (some ⟨b,off+fd.offset,none⟩))):gJ P o ρ S S r:=
 .value fun g w a _ hv=>by
  obtain ⟨b,off,hu,h1⟩:=hr g _ (hv x (by simp [ho,Op.operands]))
  exact ⟨_,by simp only [execOp,ho,hu,Sem.run_bind,AN hT hf hs h0,Result.andThen_ok,Sem.run_pure],h1⟩
theorem w_ {T E:TypeId} {x y:Operand} {len sz:Nat} {k:IntKind} {n:Int} {r:A} (ho:o.op = .indexAddr T x y) (hT:P.underlying T=some (.array len E)) (hE:gC P E sz)
  (hy:ρ y = .v (.int k n)) (hn:0≤n∧n<len) (hr:∀g v,V g (ρ x) v→∃b off,v = .pointer (some ⟨b,off,none⟩)∧V g r (.pointer (some ⟨b,off+n.toNat*sz,none⟩))):gJ P o ρ S S r:=
 .value fun g w a _ hv=>by
  obtain ⟨b,off,hu,h1⟩:=hr g _ (hv x (by simp [ho,Op.operands]))
  have k2:=(hy▸hv y (by simp [ho,Op.operands])).jq
  refine ⟨_,?_,h1⟩
  simp only [execOp,ho,hu,k2,Sem.run_bind,run_indexAt_array (P:=P) w T ⟨b,off,none⟩ k n (by simp [Program.elem,Program.arrayLen,hT])]
  simp only [Program.elem,Program.arrayLen,hT,if_pos hn,hE.run w,Result.andThen_ok,Addr.add_lit,Sem.run_pure]
theorem yQ {T E:TypeId} {x y:Operand} {z:Nat} {k:IntKind} {n:Int} {r:A} (ho:o.op = .indexAddr T x y) (hT:P.underlying T=some (.slice E)) (hE:gC P E z)
  (hy:ρ y = .v (.int k n)) (hr:∀g w v,Inv g S w→V g (ρ x) v→∃b off m cap,v = .slice (some ⟨b,off,none⟩) m cap∧(0≤n∧n<m)∧V g r (.pointer (some ⟨b,off+n.toNat*z,none⟩))):gJ P o ρ S S r:=
 .value fun g w a hI hv=>by
  obtain ⟨b,off,m,cap,hu,hn,h1⟩:=hr g w _ hI (hv x (by simp [ho,Op.operands]))
  have k2:=(hy▸hv y (by simp [ho,Op.operands])).jq
  refine ⟨_,?_,h1⟩
  simp only [execOp,ho,hu,k2,Sem.run_bind,run_indexAt_slice (P:=P) w T ⟨b,off,none⟩ m cap k n (by simp [Program.elem,hT]),if_pos hn]
  simp only [Program.elem,hT,hE.run w,Result.andThen_ok,Addr.add_lit,Sem.run_pure]
theorem rO {g:G} {w:World} {b off n:Nat} {cur:Array Value} {ty:TypeId} {cs:List A} (k2:w.heap[b]?=some (.cells cur ty (0,0))) (k3:Vs g cs (cur.toList.take cs.length)) (hn:off+n≤cs.length) :
  ∃us:List Value,Vs g ((cs.drop off).take n) us∧us.length=n∧∀j x,us[j]?=some x→w.cell? ((⟨b,off,none⟩:Addr).add j)=some x:=by
 have h1:=k3.part off n
 have hl:=h1.1
 have hl0:=k3.1
 simp only [List.length_take,List.length_drop,Array.length_toList] at hl hl0
 generalize y_:((cur.toList.take cs.length).drop off).take n=us at h1
 refine ⟨us,h1,by have:=h1.1;simp at this;omega,fun j x hj=>?_⟩
 rw [Addr.add_lit,cell_of_row w b _ cur ty _ k2]
 rw [←y_,List.getElem?_take] at hj
 split at hj
 ·rw [List.getElem?_drop,List.getElem?_take] at hj
  split at hj
  ·simpa using hj
  ·cases hj
 ·cases hj
theorem Dh {g:G} {w:World} {b off n:Nat} {cur:Array Value} {ty:TypeId} {cs:List A} (k2:w.heap[b]?=some (.cells cur ty (0,0))) (k3:Vs g cs (cur.toList.take cs.length)) (hn:off+n≤cs.length) :
  ∃us:List Value,(loadCells ⟨b,off,none⟩ n).run P w = .ok us.toArray w∧Vs g ((cs.drop off).take n) us∧us.length=n∧∀j x,us[j]?=some x→w.cell? ((⟨b,off,none⟩:Addr).add j)=some x:=by
 obtain ⟨us,h1,h2,h3⟩:=rO k2 k3 hn
 have:=run_loadCells_list (P:=P) w ⟨b,off,none⟩ us h3
 rw [h2] at this
 exact ⟨us,this,h1,h2,h3⟩
theorem Bc {T:TypeId} {d:TypeDesc} {x:Operand} {p off:Nat} {cs:List A} {q:A} (ho:o.op = .load T x) (hT:P.underlying T=some d) (hd:lZ d=false) (hx:Pl (ρ x)=some (p,off))
  (hp:S.ob p=some (.cells cs)) (hq:cs[off]?=some q):K5 P o ρ S q:=
 fun g w a hI hv=>by
  obtain ⟨b',s,h,hu⟩:=(hv x (by simp [ho,Op.operands])).pl hx
  rcases hI.cells p cs hp with ⟨k1,_⟩ | ⟨b,t,k1,cur,ty,k2,sW,k3⟩
  ·rw [k1] at h;cases h
  rw [k1] at h;simp at h
  obtain ⟨rfl,_⟩:=h
  have dP:off<cs.length:=(zB.1 hq).1
  have hl:=k3.1
  simp only [List.length_take,Array.length_toList] at hl
  have hc:w.cell? ⟨b,off,none⟩=some cur[off]:=by rw [cell_of_row w b off cur ty _ k2];simp [show off<cur.size by omega]
  have:=k3.2 off q cur[off] hq (by rw [List.getElem?_take,if_pos dP];simp [show off<cur.size by omega])
  exact ⟨cur[off],by simp [execOp,ho,hu,Instr.loadAt,Instr.sureAddr,loadVar,nk hT,hd,hc],this.1⟩
theorem Vs.agg {g:G} {cs:List A} {us:List Value} (h:Vs g cs us):V g (.agg cs) (.agg us.toArray):=
 .agg _ _ (by simpa using h.1) (by simpa using h.one) (fun i c x e1 e2=>(h.2 i c x e1 (by simpa using e2)).1)
theorem rW {T:TypeId} {d:TypeDesc} {x:Operand} {p off n:Nat} {cs:List A} (ho:o.op = .load T x) (hT:P.underlying T=some d) (hd:lZ d=true) (hs:gC P T n) (hx:Pl (ρ x)=some (p,off))
  (hp:S.ob p=some (.cells cs)) (hn:off+n≤cs.length):K5 P o ρ S (.agg ((cs.drop off).take n)):=
 fun g w a hI hv=>by
  obtain ⟨b',s,h,hu⟩:=(hv x (by simp [ho,Op.operands])).pl hx
  rcases hI.cells p cs hp with ⟨k1,_⟩ | ⟨b,t,k1,cur,ty,k2,sW,k3⟩
  ·rw [k1] at h;cases h
  rw [k1] at h;simp at h
  obtain ⟨rfl,_⟩:=h
  obtain ⟨us,h1,h2,_⟩:=Dh (P:=P) k2 k3 hn
  exact ⟨.agg us.toArray,by simp [execOp,ho,hu,Instr.loadAt,Instr.sureAddr,loadVar,nk hT,hd,hs.run w,h1],h2.agg⟩
theorem V.aaz {g:G} {S:Hp} {w:World} (hI:Inv g S w) {t:Ty} {x:t.T} {v:Value} (hd:t.data=true) (h:V g (.dp t x) v):∃b off us,v = .pointer (some ⟨b,off,none⟩)∧Vs g (aJ t x) us∧us.length=t.size∧∀j y,us[j]?=some y→w.cell? ((⟨b,off,none⟩:Addr).add j)=some y:=by
 cases h with
 | dp _ _ b off f hm=>
  have hl:=fO t x
  refine ⟨b,off,(List.range t.size).map f,rfl,nh.cells t x _ hd ⟨by simp [hl],fun j c y e1 e2=>?_⟩,by simp,fun j y e=>?_⟩
  ·have:=(hm j c e1).2
   simp only [zL,Option.map_eq_some_iff] at e2
   obtain ⟨k,hk,rfl⟩:=e2
   have hj:j<t.size:=by rw [←hl];exact (zB.1 e1).1
   rw [List.getElem?_range hj] at hk
   obtain rfl:=Option.some.inj hk
   exact this
  ·simp only [zL,Option.map_eq_some_iff] at e
   obtain ⟨k,hk,rfl⟩:=e
   have hj:j<t.size:=by
    rcases Nat.lt_or_ge j t.size with h | h
    ·exact h
    ·rw [zb (by simpa using h)] at hk;cases hk
   rw [List.getElem?_range hj] at hk
   obtain rfl:=Option.some.inj hk
   have hc : (eH t x)[j]? = some ((eH t x)[j]'(by rw [hl]; exact hj)) := zD _
   obtain ⟨cur,ty,fz,q1,q2⟩:=hI.mem _ _ _ (hm j _ hc).1
   rw [Addr.add_lit,cell_of_row w b _ cur ty _ q1];exact q2
theorem t_ {T:TypeId} {d:TypeDesc} {x:Operand} {t:Ty} {y:t.T} {r:A} (ho:o.op = .load T x) (hT:P.underlying T=some d) (hs:gC P T t.size) (hx:ρ x = .dp t y) (hd:t.data=true) (hr:if lZ d=true then r = .agg (aJ t y) else aJ t y=[r]):K5 P o ρ S r:=
 fun g w a hI hv=>by
  obtain ⟨b,off,us,hu,h1,h2,h3⟩:=V.aaz hI hd (hx▸hv x (by simp [ho,Op.operands]))
  cases ha:lZ d with
  | true=>
   rw [ha,if_pos rfl] at hr;subst hr
   have:=run_loadCells_list (P:=P) w ⟨b,off,none⟩ us h3
   rw [h2] at this
   exact ⟨.agg us.toArray,by simp [execOp,ho,hu,Instr.loadAt,Instr.sureAddr,loadVar,nk hT,ha,hs.run w,this],h1.agg⟩
  | false=>
   rw [ha,if_neg (by simp)] at hr
   rw [hr] at h1
   match us,h1 with
   | [u],h1=>
    have:=h3 0 u rfl
    rw [Addr.add_lit,Nat.add_zero] at this
    exact ⟨u,by simp [execOp,ho,hu,Instr.loadAt,Instr.sureAddr,loadVar,nk hT,ha,this],(h1.2 0 r u rfl rfl).1⟩
   | [],h1=>exact absurd h1.1 (by simp)
   | _::_::_,h1=>exact absurd h1.1 (by simp)
def put (cs:List A) (off:Nat) (ps:List A):List A:=cs.take off++(ps++cs.drop (off+ps.length))
theorem yI {cs ps:List A} {off:Nat} (h:off+ps.length≤cs.length):(put cs off ps).length=cs.length:=by simp [put];omega
theorem Vs.put {g:G} {cs ps:List A} {vs us:List Value} (h:Vs g cs vs) (k:Vs g ps us) {off:Nat} (ho:off+ps.length≤cs.length):Vs g (put cs off ps) (vs.take off++(us++vs.drop (off+us.length))):=by
 unfold Bm.put
 have h1:=h.part 0 off
 have h2:=h.part (off+ps.length) (cs.length-(off+ps.length))
 simp only [List.drop_zero] at h1
 refine h1.append (k.append ?_)
 have e1:(cs.drop (off+ps.length)).take (cs.length-(off+ps.length))=cs.drop (off+ps.length):=za (by simp)
 have e2:(vs.drop (off+ps.length)).take (cs.length-(off+ps.length))=vs.drop (off+us.length):=by rw [k.1];exact za (by rw [List.length_drop,h.1];omega)
 rwa [e1,e2] at h2
theorem Inv.store {g:G} {S:Hp} {w:World} (h:Inv g S w) {p b off:Nat} {s:Nat×Nat} {cs ps:List A} {us:List Value} (hp:S.ob p=some (.cells cs)) (hg:g.cn p=some (some b,s)) (hv:Vs g ps us) (hn:off+ps.length≤cs.length) :
  ∃cur ty,w.heap[b]?=some (.cells cur ty (0,0))∧off+us.length≤cur.size∧Inv g (S.set p (.cells (put cs off ps))) (w.setRow b (cur.toList.take off++us++cur.toList.drop (off+us.length)).toArray) ∧
   Ext S g w (S.set p (.cells (put cs off ps))) g (w.setRow b (cur.toList.take off++us++cur.toList.drop (off+us.length)).toArray):=by
 rcases h.cells p cs hp with ⟨k1,_⟩ | ⟨b',t,k1,cur,ty,k2,sW,k3⟩
 ·rw [k1] at hg;cases hg
 have Lt:=hg
 rw [k1] at hg;simp at hg
 obtain ⟨rfl,rfl⟩:=hg
 have hl:=k3.1
 simp only [List.length_take,Array.length_toList] at hl
 have qb:=hv.1
 obtain ⟨h1,h2⟩:=h.write (w':=w.setRow b' (cur.toList.take off++us++cur.toList.drop (off+us.length)).toArray) (y:=.cells (put cs off ps)) hp k1 (size_setRow ..) (fun k hk=>setRow_other w b' k _ hk) rfl rfl rfl
  ⟨(yI hn).symm,_,ty,setRow_heap w b' cur _ ty _ k2,by simp;omega,by
   rw [yI hn]
   have:=k3.put hv hn
   have e:((cur.toList.take off++us++cur.toList.drop (off+us.length)).toArray.toList).take cs.length=(cur.toList.take cs.length).take off++(us++(cur.toList.take cs.length).drop (off+us.length)):=by
    apply List.ext_getElem?
    intro j
    have xh:cur.toList.length=cur.size:=Array.length_toList
    simp only [List.append_assoc,List.getElem?_take,List.getElem?_append,List.length_take,List.getElem?_drop]
    have m1:min off cur.toList.length=off:=by omega
    have m2:min off (min cs.length cur.toList.length)=off:=by omega
    rw [m1,m2]
    by_cases c1:j<off
    ·simp [c1,show j<cs.length by omega]
    ·by_cases c2:j-off<us.length
     ·simp [c1,c2,show j<cs.length by omega]
     ·simp only [c1,c2,if_false,show off+us.length+(j-off-us.length)=j by omega]
   rw [e];exact this⟩
 exact ⟨cur,ty,k2,by omega,h1,h2⟩
theorem Gh {T:TypeId} {x y:Operand} {p off n:Nat} {cs ps:List A} (ho:o.op = .store T x y) (hs:gC P T n) (hx:Pl (ρ x)=some (p,off)) (hy:(ρ y).cells=some ps) (hl:ps.length=n)
  (hp:S.ob p=some (.cells cs)) (hn:off+n≤cs.length):gJ P o ρ S (S.set p (.cells (put cs off ps))) .dI:=by
 intro g w a next Q hI hv K
 obtain ⟨b,s,h,hu⟩:=(hv x (by simp [ho,Op.operands])).pl hx
 have e2:=(hv y (by simp [ho,Op.operands])).cells hy
 obtain ⟨cur,ty,k2,sW,h3,h4⟩:=hI.store (off:=off) hp h e2 (by omega)
 unfold Oper.wp
 have qq:(a.eval y).cells.size=n:=by have:=e2.1;simp at this;omega
 have qF:=run_storeCells_at P b off ty (a.eval y).cells.toList 0 cur w k2 (by simpa using sW) e2.one
 simp only [execOp,ho,hu,Instr.storeAt,Instr.sureAddr,pure_bind,storeVar,Sem.run_bind,hs.run w,Result.andThen_ok,qq,ne_eq,not_true_eq_false,if_false]
 simp only [Nat.add_zero] at qF
 simp only [qF,Result.andThen_ok,Sem.run_pure]
 exact K _ g _ (.dI _) h3 h4
theorem Vs.all {g:G} {cs:List A} {vs:Array Value} (h:Vs g cs vs.toList):Vs g cs (vs.toList.take cs.length):=by
 rw [za (by rw [h.1];exact Nat.le_refl _)];exact h
theorem Inv.pN {g:G} {S:Hp} {w:World} (h:Inv g S w) {q:Nat} (hf:S.fr q) {cs:List A} {vs:Array Value} (ty:TypeId) (hl:cs.length≤vs.size) (hv:Vs g cs (vs.toList.take cs.length)) :
  Inv (lV g q (some w.heap.size,(cs.length,vs.size))) (S.new q (.cells cs)) (w.alloc (.cells vs ty))∧Ext S g w (S.new q (.cells cs)) (lV g q (some w.heap.size,(cs.length,vs.size))) (w.alloc (.cells vs ty)):=
 h.alloc hf ⟨rfl,vs,ty,heap_alloc_new w _,rfl,hv.mono (oi (h.fresh q hf))⟩
end
end
section
open Go.RowKit
section
variable {P:Program} {o:Oper} {ρ:Operand→A} {S:Hp}
def Zs (zs:List A) (z:Value):Prop:=∀g,Vs g zs z.cells.toList
theorem HF {z:Value} (h:(z.cells.toList.all (·.oneCell'))=true):Zs (l9 z) z:=fun g=>rB h g
def wk (ρ:Operand→A) (place:Nat→Option (Nat×Nat)):List A→List (Nat×Operand)→Option (List A)
 | cs,[]=>some cs
 | cs,(i,x)::r=>match place i,(ρ x).cells with
  | some (off,size),some ps=>bif Nat.beq ps.length size && Nat.ble (off+size) cs.length then wk ρ place (put cs off ps) r else none
  | _,_=>none
theorem wj {g:G} {a:Act} {place:Nat→Option (Nat×Nat)}:∀(l:List (Nat×Operand)) (cs kq:List A) (cells:Array Value),(∀x∈l,V g (ρ x.2) (a.eval x.2))→Vs g cs cells.toList→wk ρ place cs l=some kq →
  ∃pH,Instr.fill place cells (l.map fun (i,x)=>(i,a.eval x))=some pH∧Vs g kq pH.toList
 | [],cs,kq,cells,_,hc,h=>by cases h;exact ⟨cells,rfl,hc⟩
 | (i,x)::r,cs,kq,cells,hv,hc,h=>by
  unfold wk at h
  split at h
  ·rename_i off size ps h1 h2
   cases h3:(Nat.beq ps.length size && Nat.ble (off+size) cs.length) with
   | false=>rw [h3] at h;cases h
   | true=>
    rw [h3] at h;simp only [cond_true] at h
    simp only [zC] at h3
    have h31:=Nat.eq_of_beq_eq_true h3.1
    have h32:=Nat.le_of_ble_eq_true h3.2
    have hx:=(hv (i,x) (zV ..)).cells h2
    have qq:(a.eval x).cells.size=size:=by have:=hx.1;rw [h31] at this;simpa using this.symm
    have hle:off+(a.eval x).cells.size≤cells.size:=by have:=hc.1;simp at this;omega
    have Ln:=hc.put hx (off:=off) (by omega)
    rw [←List.append_assoc] at Ln
    have hf:=GW off (a.eval x).cells.toList cells (by simpa using hle)
    have ans:(a.eval x).cells.zipIdx.foldl (fun cs (y:Value×Nat)=>cs.setIfInBounds (off+y.2) y.1) cells=(cells.toList.take off++(a.eval x).cells.toList++cells.toList.drop (off+(a.eval x).cells.toList.length)).toArray:=by
     apply Array.ext'
     rw [←Array.foldl_toList,Array.toList_zipIdx,hf]
    obtain ⟨pH,h4,h5⟩:=wj r (Bm.put cs off ps) kq (cells.toList.take off++(a.eval x).cells.toList++cells.toList.drop (off+(a.eval x).cells.toList.length)).toArray (fun y hy=>hv y (zT _ hy)) (by simpa using Ln) h
    refine ⟨pH,?_,h5⟩
    simp only [List.map_cons,Instr.fill,h1,qq,ne_eq,not_true_eq_false,decide_false,Bool.false_or,decide_eq_true_eq]
    rw [if_neg (by omega)]
    rw [←h4]
    congr 1
  ·cases h
theorem Gq {T:TypeId} {fs:Array Field} {it:TypeInfo} {z:Value} {cs:List A} {pl:Array (Nat×Nat)} {parts:Array (Nat×Operand)} (ho:o.op = .build T parts) (hT:P.underlying T=some (.struct fs))
  (hi:P.info? T=some it) (hz:it.zero=some z) (YK:(z.cells.toList.all (·.oneCell'))=true) (JI:∀w:World,(fs.mapM fun f=>(do pure (f.offset,←sizeOf f.type):Sem (Nat×Nat))).run P w = .ok pl w)
  (hf:wk ρ (pl[·]?) (l9 z) parts.toList=some cs):gJ P o ρ S S (.agg cs):=
 .value fun g w a _ hv=>by
  obtain ⟨pH,h1,h2⟩:=wj (g:=g) (a:=a) parts.toList (l9 z) cs z.cells (fun x hx=>hv x.2 (by
   simp only [ho,Op.operands]
   rw [List.mem_toArray]
   exact List.mem_map.2 ⟨x,hx,rfl⟩)) (rB YK g) hf
  have vQ:(parts.map fun (i,x)=>(i,a.eval x)).toList=parts.toList.map fun (i,x)=>(i,a.eval x):=by simp
  refine ⟨.agg pH,?_,.agg _ _ (by have:=h2.1;simpa using this) h2.one (fun i c x e1 e2=>(h2.2 i c x e1 (by simpa using e2)).1)⟩
  simp only [execOp,ho,Instr.build,Sem.run_bind,zeroValue,typeInfo,run_program,Result.andThen_ok,hi,hz,Sem.run_pure,run_underlying hT,JI,vQ,h1]
theorem xa {T El:TypeId} {n es sz b:Nat} {z:Value} {cs:List A} {parts:Array (Nat×Operand)} (ho:o.op = .build T parts) (hT:P.underlying T=some (.array n El)) (hti:TI P T sz b z) (hE:gC P El es)
  (hf:wk ρ (fun i=>some (i*es,es)) (l9 z) parts.toList=some cs):gJ P o ρ S S (.agg cs):=
 .value fun g w a _ hv=>by
  obtain ⟨it,hi,hz,_,_,_,h6⟩:=hti
  obtain ⟨pH,h1,h2⟩:=wj (g:=g) (a:=a) parts.toList (l9 z) cs z.cells (fun x hx=>hv x.2 (by
   simp only [ho,Op.operands]
   rw [List.mem_toArray]
   exact List.mem_map.2 ⟨x,hx,rfl⟩)) (rB h6 g) hf
  have vQ:(parts.map fun (i,x)=>(i,a.eval x)).toList=parts.toList.map fun (i,x)=>(i,a.eval x):=by simp
  refine ⟨.agg pH,?_,.agg _ _ (by have:=h2.1;simpa using this) h2.one (fun i c x e1 e2=>(h2.2 i c x e1 (by simpa using e2)).1)⟩
  simp only [execOp,ho,Instr.build,Sem.run_bind,zeroValue,typeInfo,run_program,Result.andThen_ok,hi,hz,Sem.run_pure,run_underlying hT,hE.run w,vQ,h1]
def Kr (ρ:Operand→A) (z:Nat):List (Nat×Operand)→Nat→Option (List A)
 | [],_=>some []
 | (i,x)::r,k=>bif Nat.beq i k then match (ρ x).cells,Kr ρ z r (k+1) with
   | some e,some es=>bif Nat.beq e.length z then some (e++es) else none
   | _,_=>none
  else none
theorem uV {g:G} {a:Act} {z:Nat}:∀(l:List (Nat×Operand)) (k:Nat) (es:List A),(∀x∈l,V g (ρ x.2) (a.eval x.2))→Kr ρ z l k=some es →
  (l.map fun (i,x)=>(i,a.eval x))=((l.map fun x=>a.eval x.2).zipIdx k).map (fun x=>(x.2,x.1))∧es.length=l.length*z ∧
   (∀v∈l.map fun x=>a.eval x.2,v.cells.size=z)∧Vs g es ((l.map fun x=>a.eval x.2).flatMap fun v=>v.cells.toList)
 | [],k,es,_,h=>by cases h;exact ⟨rfl,by simp,by simp,⟨rfl,fun j c x h=>by simp at h⟩⟩
 | (i,x)::r,k,es,hv,h=>by
  unfold Kr at h
  cases RL:Nat.beq i k with
  | false=>rw [RL] at h;cases h
  | true=>
   rw [RL] at h;simp only [cond_true] at h
   split at h
   ·rename_i e sY h1 h2
    cases hl:Nat.beq e.length z with
    | false=>rw [hl] at h;cases h
    | true=>
     rw [hl] at h;simp only [cond_true,zI] at h;subst h
     have RL:=Nat.eq_of_beq_eq_true RL
     have hl:=Nat.eq_of_beq_eq_true hl
     have hx:=(hv (i,x) (zV ..)).cells h1
     obtain ⟨e2,e1,e3,e4⟩:=uV r (k+1) sY (fun y hy=>hv y (zT _ hy)) h2
     have qq:(a.eval x).cells.size=z:=by have:=hx.1;rw [hl] at this;simpa using this.symm
     refine ⟨?_,by rw [zY,e1,hl,zR,Nat.add_mul];omega,?_,?_⟩
     ·simp only [List.map_cons,List.zipIdx_cons,RL,e2]
     ·intro v hm
      simp only [List.map_cons,List.mem_cons] at hm
      rcases hm with rfl | hm
      ·exact qq
      ·exact e3 v hm
     ·simp only [List.map_cons,List.flatMap_cons]
      exact hx.append e4
   ·cases h
theorem LI {zs:List A} {z:Value} {sz n:Nat} (hz:Zs zs z) (hl:z.cells.size=sz) (h0:0<sz) (g:G):Vs g (tj n zs) (madeCells z.cells (n*sz)).toList:=by
 have Lj:zs.length=sz:=by have:=(hz g).1;simp at this;omega
 subst hl
 refine ⟨by rw [mb,Lj];simp [size_madeCells],fun j c x q1 q2=>?_⟩
 have hj:j<n*zs.length:=by have:=(zB.1 q1).1;rwa [mb] at this
 rw [AT hj] at q1
 rw [Array.getElem?_toList,xc h0 (by rw [←Lj];exact hj),←Lj] at q2
 exact (hz g).2 _ c x q1 (by simpa using q2)
theorem w9 {T E:TypeId} {z b n q:Nat} {zv:Value} {zs:List A} {x y:Operand} {k k':IntKind} (ho:o.op = .makeSlice T x y) (hT:P.underlying T=some (.slice E)) (hE:TI P E z b zv) (h0:0<z)
  (hx:ρ x = .v (.int k ((n:Nat):Int))) (hy:ρ y = .v (.int k' ((n:Nat):Int))) (hb:n*b≤281474976710656) (hm:n≤9223372036854775807) (hf:S.fr q) (hz:Zs zs zv) :
  gJ P o ρ S (S.new q (.cells (tj n zs))) (.tw (.loc q) z):=by
 intro g w a next Q hI hv K
 obtain ⟨i,t1,t2,t3,t4,t5,t6⟩:=hE
 subst t3 t4
 have e1:=(hx▸hv x (by simp [ho,Op.operands])).jq
 have e2:=(hy▸hv y (by simp [ho,Op.operands])).jq
 have hr:=run_make (P:=P) w T E i zv hT t1 t2 k k' ((n:Nat):Int) ((n:Nat):Int) (by omega) (by omega) (by rw [←Int.natCast_mul,Nat.mul_comm];omega) (by omega)
 simp only [zE] at hr
 have Lj:zs.length=i.size:=by have:=(hz g).1;simp at this;omega
 have qq:(madeCells zv.cells (n*i.size)).size=n*i.size:=size_madeCells _ _
 obtain ⟨h1,h2⟩:=hI.pN hf (cs:=tj n zs) (vs:=madeCells zv.cells (n*i.size)) E (by rw [mb,Lj,qq];exact Nat.le_refl _) (Vs.all (LI hz t5 h0 g))
 unfold Oper.wp
 simp only [execOp,ho,e1,e2,Sem.run_bind,hr,Result.andThen_ok,Sem.run_pure]
 refine K _ _ _ (.tw (.loc q) i.size n w.heap.size n _ (by rw [show (Ref.loc q).id=q from rfl,dG,mb,Lj]) (Nat.le_refl _) (by simp only [maxLen];omega) (by omega) 0 (fun _=>rfl)) h1 h2
def Bd (ρ:Operand→A) (d:Nat):Option Operand→Nat→Prop
 | none,n=>n=d
 | some x,n=>∃k,ρ x = .v (.int k ((n:Nat):Int))
theorem Bd.run {g:G} {a:Act} {x:Operand} {d n:Nat} (hv:V g (ρ x) (a.eval x)) (h:Bd ρ d (some x) n) {y:Nat} (c:BoundsCode) (hn:n≤y) (w:World):(Instr.sliceBound (a.eval x) y c).run P w = .ok n w:=by
 obtain ⟨k,h⟩:=h
 have:=FW (P:=P) (h▸hv).jq c ⟨by omega,by omega⟩ w (y:=y)
 simpa using this
theorem Gi {T E:TypeId} {x:Operand} {lo hi:Option Operand} {z l h:Nat} {r:A} (ho:o.op = .slice T x lo hi none) (hT:P.underlying T=some (.slice E)) (hE:gC P E z) (ze:Bd ρ 0 lo l) (h1:l≤h)
  (hr:∀g w v,Inv g S w→V g (ρ x) v→∃ad n cap,v = .slice ad n cap∧Bd ρ n hi h∧h≤cap∧V g r (.slice (if cap=l then ad else ad.map (·.add (l*z))) (h-l) (cap-l))):gJ P o ρ S S r:=
 .value fun g w a hI hv=>by
  obtain ⟨ad,n,cap,hu,zg,h2,hV⟩:=hr g w _ hI (hv x (by simp [ho,Op.operands]))
  refine ⟨_,?_,hV⟩
  have Zf:(Instr.sliceBounds true n cap (lo.map a.eval) (hi.map a.eval) none).run P w = .ok (l,h,cap) w:=by
   have hh:∀y,hi=some y→(Instr.sliceBound (a.eval y) cap .sliceAcap).run P w = .ok h w:=fun y hy=>by
    subst hy;exact Bd.run (hv y (by simp [ho,Op.operands])) zg _ (by omega) w
   have hl:∀y,lo=some y→(Instr.sliceBound (a.eval y) h .sliceB).run P w = .ok l w:=fun y hy=>by
    subst hy;exact Bd.run (hv y (by simp [ho,Op.operands])) ze _ h1 w
   cases hi with
   | none=>
    have hhn:h=n:=zg
    subst hhn
    cases lo with
    | none=>
     have:l=0:=ze
     subst this
     simp [Instr.sliceBounds]
    | some y=>simp [Instr.sliceBounds,hl y rfl]
   | some y=>
    cases lo with
    | none=>
     have:l=0:=ze
     subst this
     simp [Instr.sliceBounds,hh y rfl]
    | some y'=>simp [Instr.sliceBounds,hh y rfl,hl y' rfl]
  simp only [execOp,ho,hu,Option.map_none,Sem.run_bind,Instr.sliceAt,run_underlying hT,Result.andThen_ok,Instr.slice,Zf,hE.run w,Sem.run_pure]
theorem vv {T E:TypeId} {x hi mx:Operand} {lo:Option Operand} {z l h m:Nat} {r:A} (ho:o.op = .slice T x lo (some hi) (some mx)) (hT:P.underlying T=some (.slice E)) (hE:gC P E z)
  (ze:Bd ρ 0 lo l) (zg:Bd ρ 0 (some hi) h) (hmx:Bd ρ 0 (some mx) m) (h1:l≤h) (h2:h≤m)
  (hr:∀g w v,Inv g S w→V g (ρ x) v→∃ad n cap,v = .slice ad n cap∧m≤cap∧V g r (.slice (if m=l then ad else ad.map (·.add (l*z))) (h-l) (m-l))):gJ P o ρ S S r:=
 .value fun g w a hI hv=>by
  obtain ⟨ad,n,cap,hu,h3,hV⟩:=hr g w _ hI (hv x (by simp [ho,Op.operands]))
  refine ⟨_,?_,hV⟩
  have q1:=Bd.run (P:=P) (hv mx (by simp [ho,Op.operands])) hmx (y:=cap) BoundsCode.slice3Acap (by omega) w
  have q2:=Bd.run (P:=P) (hv hi (by simp [ho,Op.operands])) zg (y:=m) BoundsCode.slice3B h2 w
  have Zf:(Instr.sliceBounds true n cap (lo.map a.eval) (some (a.eval hi)) (some (a.eval mx))).run P w = .ok (l,h,m) w:=by
   cases lo with
   | none=>
    have:l=0:=ze
    subst this
    simp [Instr.sliceBounds,q1,q2]
   | some y=>
    have q3:=Bd.run (P:=P) (hv y (by simp [ho,Op.operands])) ze (y:=h) BoundsCode.slice3C h1 w
    simp [Instr.sliceBounds,q1,q2,q3]
  simp only [execOp,ho,hu,Option.map_some,Sem.run_bind,Instr.sliceAt,run_underlying hT,Result.andThen_ok,Instr.slice,Zf,hE.run w,Sem.run_pure]
theorem qC {T E:TypeId} {x:Operand} {n:Nat} {r:A} (ho:o.op = .slice T x none none none) (hT:P.underlying T=some (.array n E)) (hE:∃z,gC P E z)
  (hr:∀g w v,Inv g S w→V g (ρ x) v→∃b off,v = .pointer (some ⟨b,off,none⟩)∧V g r (.slice (some ⟨b,off,none⟩) n n)):gJ P o ρ S S r:=
 .value fun g w a hI hv=>by
  obtain ⟨b,off,hu,hV⟩:=hr g w _ hI (hv x (by simp [ho,Op.operands]))
  obtain ⟨z,hE⟩:=hE
  have GM:=run_sliceAt_array_all (P:=P) w T ⟨b,off,none⟩ (by simp [Program.arrayLen,Program.elem,hT])
  have zh:P.elem T=E:=by simp [Program.elem,hT]
  have hal:P.arrayLen T=n:=by simp [Program.arrayLen,hT]
  rw [zh,hE.run w,hal] at GM
  refine ⟨.slice (some ⟨b,off,none⟩) n n,?_,hV⟩
  simp only [execOp,ho,hu,Sem.run_bind,Option.map_none,GM,Result.andThen_ok,slicedAt,Sem.run_pure]
  simp [Addr.add_lit]
def Given (g:G) (w:World) (v:Value) (sz m:Nat) (ps:List A):Prop:=∃(A2:Option Addr) (oQ:Nat) (us:List Value),v = .slice A2 m oQ∧Vs g ps us∧us.length=m*sz∧(0<m→∃q,A2=some q∧∀j x,us[j]?=some x→w.cell? (q.add j)=some x)
theorem Given.zero {g:G} {w:World} {v:Value} {sz:Nat} (h:∃ad c,v = .slice ad 0 c):Given g w v sz 0 []:=let ⟨ad,c,h⟩:=h;⟨ad,c,[],h,.nil,by simp,fun h=>absurd h (Nat.lt_irrefl _)⟩
theorem Inv.given {g:G} {S:Hp} {w:World} (h:Inv g S w) {i b off sz m cap:Nat} {s:Nat×Nat} {cs:List A} (hp:S.ob i=some (.cells cs)) (hg:g.cn i=some (some b,s)) (hn:off+m*sz≤cs.length) :
  Given g w (.slice (some ⟨b,off,none⟩) m cap) sz m ((cs.drop off).take (m*sz)):=by
 rcases h.cells i cs hp with ⟨k1,_⟩ | ⟨b',t,k1,cur,ty,k2,sW,k3⟩
 ·rw [k1] at hg;cases hg
 rw [k1] at hg;simp at hg
 obtain ⟨rfl,_⟩:=hg
 obtain ⟨us,h2,h3,h4⟩:=rO k2 k3 hn
 exact ⟨_,cap,us,rfl,h2,h3,fun _=>⟨_,rfl,h4⟩⟩
theorem gJ.app {T:TypeId} {x y:Operand} {S':Hp} {pv:A} (ho:o.op = .call { callee:=.builtin .append,args:=#[x,y],argTypes:=#[T,T] })
  (h:∀(g:G) (w:World) (a:Act),Inv g S w→V g (ρ x) (a.eval x)→V g (ρ y) (a.eval y)→∃v g' w',(Builtin.append_ #[T,T] o.type #[a.eval x,a.eval y]).run P w = .ok v w'∧V g' pv v∧Inv g' S' w'∧Ext S g w S' g' w'):gJ P o ρ S S' pv:=by
 intro g w a next Q hI hv K
 obtain ⟨v,g',w',h1,h2,h3,h4⟩:=h g w a hI (hv x (by simp [ho,Op.operands,Call.operands])) (hv y (by simp [ho,Op.operands,Call.operands]))
 unfold Oper.wp
 simp only [execOp,ho,resolve,invoke,builtin,Sem.run_bind,Sem.run_pure,Result.andThen_ok,List.map_toArray,List.map_cons,List.map_nil,h1]
 exact K v g' w' h2 h3 h4
theorem Inv.CH {g:G} {S S':Hp} {g':G} {w w':World} (h:Ext S g w.drew S' g' w'):Ext S g w S' g' w':=⟨h.le,h.os,h.tape,h.output,h.size,h.frame,h.own,h.Qo,h.fr,h.yX,h.lpo⟩
theorem qc {g:G} {ps Mp:List A} {us os:List Value} {ex:List Value} (h:Vs g Mp os) (k:Vs g ps us):Vs g (Mp++ps) ((os++us++ex).take (Mp++ps).length):=by
 have:=h.append k
 rw [List.take_append_of_le_length (by rw [this.1];exact Nat.le_refl _),za (by rw [this.1];exact Nat.le_refl _)]
 exact this
theorem nc {S:Hp} {T E ty:TypeId} {z b m q:Nat} {zv:Value} {ps:List A} {g:G} {w:World} {vy:Value} (ad:Option Addr) (hT:P.underlying T=some (.slice E)) (hE:TI P E z b zv) (hI:Inv g S w)
  (hy:Given g w vy z m ps) (hf:S.fr q) (hb:m*b≤140737488355328) (sy:m≤maxLen):∃v g' w',(Builtin.append_ #[T,T] ty #[.slice ad 0 0,vy]).run P w = .ok v w'∧V g' (.tw (.loc q) z) v∧Inv g' (S.new q (.cells ps)) w'∧Ext S g w (S.new q (.cells ps)) g' w':=by
  obtain ⟨i,t1,t2,t3,t4,t5,t6⟩:=hE
  subst t3 t4
  obtain ⟨A2,oQ,us,xV,tG,qb,J0⟩:=hy
  rw [xV]
  rcases Nat.eq_zero_or_pos m with rfl | hm
  ·have xf:ps=[]:=zZ (by rw [tG.1,qb];simp)
   subst xf
   obtain ⟨q1,q2⟩:=hI.emp hf
   exact ⟨_,_,w,jL w T E ty hT ⟨i,t1,rfl⟩ ad A2 0 0 oQ (Nat.le_refl _),.Ai (.loc q) i.size ad dG,q1,q2⟩
  ·obtain ⟨LA,rfl,ph⟩:=J0 hm
   have Am:=grownCap_ge w m 0 E
   have TN:=grownCap_le_maxLen w m 0 E sy
   have m6:(us.toArray++Builtin.zeroCells zv.cells (grownCap w m 0 E-m)).size=grownCap w m 0 E*i.size:=by
    simp only [Array.size_append,List.size_toArray,size_zeroCells,t5,qb,←Nat.add_mul]
    congr 1;omega
   have hle:m*i.size≤grownCap w m 0 E*i.size:=zW _ Am
   have hr:∃w',(Builtin.append_ #[T,T] ty #[.slice ad 0 0,.slice (some LA) m oQ]).run P w = .ok (.slice (some ⟨w.heap.size,0,none⟩) m (grownCap w m 0 E)) w'∧w'=w.drew.alloc (.cells (us.toArray++Builtin.zeroCells zv.cells (grownCap w m 0 E-m)) E):=by
    cases ad with
    | none=>exact ⟨_,run_append_nil (P:=P) w T ty E i zv hT t1 t2 LA m oQ us qb ph hm (by simp only [maxLen] at sy;omega) (by omega),rfl⟩
    | some ad=>
     have:=run_append_grow (P:=P) w T ty E i zv hT t1 t2 ad 0 0 [] (by simp) (fun j v hj=>by simp at hj) LA m oQ us qb ph (by omega) (by simp only [maxLen] at sy;omega) (growslice_fits (by omega) (by simpa using hb))
     simp only [Nat.zero_add] at this
     exact ⟨_,this,by simp⟩
   obtain ⟨w',hr,rfl⟩:=hr
   obtain ⟨q1,q2⟩:=hI.drew.pN hf (cs:=ps) (vs:=us.toArray++Builtin.zeroCells zv.cells (grownCap w m 0 E-m)) E (by rw [m6,tG.1,qb];exact hle)
    (by have:=qc (g:=g) (Mp:=[]) (os:=[]) (ex:=(Builtin.zeroCells zv.cells (grownCap w m 0 E-m)).toList) .nil tG;simpa using this)
   refine ⟨_,_,_,hr,?_,q1,Inv.CH q2⟩
   refine .tw (.loc q) i.size m _ _ _ ?_ Am TN (Nat.le_of_eq m6.symm) 0 (fun _=>rfl)
   rw [show (Ref.loc q).id=q from rfl,dG,tG.1,qb];rfl
theorem oZ {T E:TypeId} {z b m q:Nat} {zv:Value} {ps:List A} {x y:Operand} (ho:o.op = .call { callee:=.builtin .append,args:=#[x,y],argTypes:=#[T,T] }) (hT:P.underlying T=some (.slice E)) (hE:TI P E z b zv)
  (hx:∀g v,V g (ρ x) v→∃ad,v = .slice ad 0 0) (hy:∀g w v,Inv g S w→V g (ρ y) v→Given g w v z m ps) (hf:S.fr q) (hb:m*b≤140737488355328) (sy:m≤maxLen):gJ P o ρ S (S.new q (.cells ps)) (.tw (.loc q) z):=
 .app ho fun g w a hI e1 e2=>by
  obtain ⟨ad,hu⟩:=hx g _ e1
  rw [hu]
  exact nc ad hT hE hI (hy g w _ hI e2) hf hb sy
theorem vB {T E:TypeId} {z b m n p q:Nat} {zv:Value} {cs ps:List A} {x y:Operand} (ho:o.op = .call { callee:=.builtin .append,args:=#[x,y],argTypes:=#[T,T] }) (hT:P.underlying T=some (.slice E)) (hE:TI P E z b zv) (h0:0<z)
  (hp:S.ob p=some (.cells cs)) (hx:∀g w v,Inv g S w→V g (ρ x) v→(∃ad,v = .slice ad 0 0∧n=0)∨∃bk s cap d,g.cn p=some (some bk,s)∧v = .slice (some ⟨bk,d,none⟩) n cap∧(cap≠0→d=0)∧n≤cap∧cap≤maxLen∧cap*z≤s.2) (sB:n*z≤cs.length)
  (hy:∀g w v,Inv g S w→V g (ρ y) v→Given g w v z m ps) (hf:S.fr q) (hb:(n+m)*b≤140737488355328) (sy:n+m≤maxLen):gJ P o ρ S ((S.del p).new q (.cells (cs.take (n*z)++ps))) (.tw (.loc q) z):=
 .app ho fun g w a hI e1 e2=>by
  obtain ⟨i,t1,t2,t3,t4,t5,t6⟩:=hE
  subst t3 t4
  have M_:gC P E i.size:=⟨i,t1,rfl⟩
  obtain ⟨A2,oQ,us,xV,tG,qb,J0⟩:=hy g w _ hI e2
  rw [xV]
  have JT:∀k,((S.del p).new q (.cells (cs.take (n*i.size)++ps))).fr k→(S.new q (.cells (cs.take (n*i.size)++ps))).fr k:=fun k hk=>hk
  have JS:∀k y,((S.del p).new q (.cells (cs.take (n*i.size)++ps))).ob k=some y→(S.new q (.cells (cs.take (n*i.size)++ps))).ob k=some y:=fun k y hk=>by
   have hk:(if k=q then some (.cells (cs.take (n*i.size)++ps)) else if k=p then none else S.ob k)=some y:=hk
   show (if k=q then some (.cells (cs.take (n*i.size)++ps)) else S.ob k)=some y
   by_cases h1:k=q
   ·rwa [if_pos h1] at hk ⊢
   ·rw [if_neg h1] at hk ⊢
    split at hk
    ·cases hk
    ·exact hk
  have less:∀(w':World) (g':G) (v:Value),V g' (.tw (.loc q) i.size) v→Inv g' (S.new q (.cells (cs.take (n*i.size)++ps))) w'→Ext S g w (S.new q (.cells (cs.take (n*i.size)++ps))) g' w'→V g' (.tw (.loc q) i.size) v∧Inv g' ((S.del p).new q (.cells (cs.take (n*i.size)++ps))) w'∧Ext S g w ((S.del p).new q (.cells (cs.take (n*i.size)++ps))) g' w':=
   fun w' g' v k1 k2 k3=>⟨k1,k2.less JS JT,k3.trans (Ext.less JS JT)⟩
  rcases hx g w _ hI e1 with ⟨ad,hu,rfl⟩ | ⟨bk,s,cap,d,hg,hu,hd,hnc,TN,RF⟩
  ·rw [hu,←xV]
   simp only [Nat.zero_mul,List.take_zero,List.nil_append,Nat.zero_add] at less hb sy ⊢
   obtain ⟨v,g',w',k1,k2,k3,k4⟩:=nc (P:=P) (ty:=o.type) ad hT ⟨i,t1,t2,rfl,rfl,t5,t6⟩ hI (hy g w _ hI e2) hf hb sy
   obtain ⟨r1,r2,r3⟩:=less w' g' v k2 k3 k4
   exact ⟨v,g',w',k1,r1,r2,r3⟩
  ·rw [hu]
   rcases Nat.eq_zero_or_pos m with rfl | hm
   ·have xf:ps=[]:=zZ (by rw [tG.1,qb];simp)
    subst xf
    simp only [List.append_nil]
    obtain ⟨q1,q2⟩:=hI.ren (m:=n*i.size) hp hf hg sB
    exact ⟨_,_,w,jL w T E o.type hT M_ _ A2 n cap oQ hnc,.tw (.loc q) i.size n bk cap s.2 dG hnc TN RF d hd,q1,q2⟩
   ·obtain ⟨LA,rfl,ph⟩:=J0 hm
    rcases hI.cells p cs hp with ⟨k1,_⟩ | ⟨b',t,k1,cur,ty,k2,sW,k3⟩
    ·rw [k1] at hg;cases hg
    rw [k1] at hg;simp at hg
    obtain ⟨rfl,rfl⟩:=hg
    have hl:=k3.1
    simp only [List.length_take,Array.length_toList] at hl
    by_cases uc:n+m≤cap
    ·obtain rfl:=hd (by omega)
     have JO:(n+m)*i.size≤cap*i.size:=zW _ uc
     rw [Nat.add_mul] at JO
     have iO:=np (P:=P) w T o.type E ty i hT t1 b' n cap cur k2 LA m oQ us qb ph tG.one uc (by rw [qb];omega)
     have aeO:cur.toList.take (n*i.size)=(cur.toList.take cs.length).take (n*i.size):=by rw [List.take_take,Nat.min_eq_left sB]
     have hold:Vs g (cs.take (n*i.size)) (cur.toList.take (n*i.size)):=by
      have:=k3.part 0 (n*i.size)
      simp only [List.drop_zero] at this
      rw [aeO];exact this
     have JP:=qc (ex:=cur.toList.drop (n*i.size+us.length)) hold tG
     obtain ⟨q1,q2⟩:=hI.grow (w':=w.setRow b' (cur.toList.take (n*i.size)++us++cur.toList.drop (n*i.size+us.length)).toArray) (kq:=cs.take (n*i.size)++ps) hp hf k1 (size_setRow ..) (fun k hk=>setRow_other w b' k _ hk) rfl rfl rfl
      ⟨_,ty,setRow_heap w b' cur _ ty _ k2,by simp;omega,JP⟩
     refine ⟨_,_,_,iO,.tw (.loc q) i.size (n+m) b' cap t ?_ uc TN RF 0 (fun _=>rfl),q1,q2⟩
     rw [show (Ref.loc q).id=q from rfl,dG,zY,List.length_take,Nat.min_eq_left sB,tG.1,qb,Nat.add_mul]
    ·have Am:=grownCap_ge w (n+m) cap E
     have RR:=grownCap_le_maxLen w (n+m) cap E sy
     obtain ⟨os,h1,h2,h3⟩:=rO (off:=0) (n:=n*i.size) k2 k3 (by omega)
     rw [List.drop_zero] at h1
     have BB:∀j v,os[j]?=some v→w.cell? ((⟨b',d,none⟩:Addr).add j)=some v:=fun j v hj=>by
      by_cases Lv:cap=0
      ·have:n=0:=by omega
       subst this
       have RG:os=[]:=zZ (by rw [h2];simp)
       rw [RG] at hj
       simp at hj
      ·obtain rfl:=hd Lv;exact h3 j v hj
     have hr:=run_append_grow (P:=P) w T o.type E i zv hT t1 t2 ⟨b',d,none⟩ n cap os h2 BB LA m oQ us qb ph (by omega) (by simp only [maxLen] at sy;omega) (growslice_fits (by omega) hb)
     have m6:(os.toArray++us.toArray++Builtin.zeroCells zv.cells (grownCap w (n+m) cap E-(n+m))).size=grownCap w (n+m) cap E*i.size:=by
      simp only [Array.size_append,List.size_toArray,size_zeroCells,t5,h2,qb,←Nat.add_mul]
      congr 1;omega
     have hle:(n+m)*i.size≤grownCap w (n+m) cap E*i.size:=zW _ Am
     have hlen:(cs.take (n*i.size)++ps).length=(n+m)*i.size:=by rw [zY,List.length_take,Nat.min_eq_left sB,tG.1,qb,Nat.add_mul]
     obtain ⟨q1,q2⟩:=hI.drew.pN hf (cs:=cs.take (n*i.size)++ps) (vs:=os.toArray++us.toArray++Builtin.zeroCells zv.cells (grownCap w (n+m) cap E-(n+m))) E (by rw [m6,hlen];exact hle)
      (by have:=qc (ex:=(Builtin.zeroCells zv.cells (grownCap w (n+m) cap E-(n+m))).toList) h1 tG;simpa using this)
     obtain ⟨r1,r2,r3⟩:=less _ _ (.slice (some ⟨w.heap.size,0,none⟩) (n+m) (grownCap w (n+m) cap E)) (.tw (.loc q) i.size (n+m) _ _ _ (by rw [show (Ref.loc q).id=q from rfl,dG,hlen];rfl) Am RR (Nat.le_of_eq m6.symm) 0 (fun _=>rfl)) q1 (Inv.CH q2)
     exact ⟨_,_,_,hr,r1,r2,r3⟩
end
end
section
open Go.RowKit
structure dK where
 d:TypeDesc
 size:Nat
 bytes:Nat
 zero:Value
 pl:List (Nat×Nat)
 t:Option Ty
 lt:Bool
inductive Hk where
 | nil
 | node (l:Hk) (v:Option dK) (r:Hk)
def dx (t:Hk):Nat→Option dK:=
 Hk.rec (motive:=fun _=>Nat→Option dK) (fun _=>none) (fun _ v _ gl gr n=>Nat.rec (motive:=fun _=>Option dK) v (fun n _=>Nat.rec (motive:=fun _=>Option dK) (gl (n / 2)) (fun _ _=>gr (n / 2)) (n%2)) n) t
theorem FK (l:Hk) (v:Option dK) (r:Hk) (n:Nat):dx (.node l v r) (n+1)=bif Nat.beq (n%2) 0 then dx l (n / 2) else dx r (n / 2):=by
 show Nat.rec (motive:=fun _=>Option dK) (dx l (n / 2)) (fun _ _=>dx r (n / 2)) (n%2)=_
 cases n%2<;>rfl
structure bZ (P:Program) (t:Nat) (e:dK):Prop where
 u:P.underlying t=some e.d
 ti:TI P t e.size e.bytes e.zero
 pl:∀fs,e.d = .struct fs→∀w:World,(fs.mapM fun f=>(do pure (f.offset,←sizeOf f.type):Sem (Nat×Nat))).run P w = .ok e.pl.toArray w
 ts:∀t,e.t=some t→t.size=e.size
 tz:∀t,e.t=some t→Zs (aJ t t.dO) e.zero
structure lO (P:Program) (t:Nat):Prop where
 held:P.stoodInHeld t=false
 guard:P.eqGuardType P.depth t=false
 names : ∀ fs, P.underlying t = some (.struct fs) → ∀ f ∈ fs.toList, f.name ≠ "_"
structure Env where
 fm:Hk
 eqs:List Nat
structure di (P:Program) (E:Env):Prop where
 fm:∀t e,dx E.fm t=some e→bZ P t e
 eqs:∀t,E.eqs.any (Nat.beq t)=true→lO P t
 mixed:P.follows .mixedOrders=true
def Nu (E:Env) (rec:Nat→List A→List A→Option Bool):List Field→List A→List A→Option Bool
 | [],_,_=>some true
 | fd::fs,cs,ds=>match dx E.fm fd.type with
  | some ef=>match rec fd.type ((cs.drop fd.offset).take ef.size) ((ds.drop fd.offset).take ef.size),Nu E rec fs cs ds with
   | some a,some b=>some (j7 a b)
   | _,_=>none
  | none=>none
def Aq (E:Env):Nat→Nat→List A→List A→Option Bool
 | 0,_,_,_=>none
 | f+1,T,cs,ds=>match dx E.fm T with
  | some e=>match e.d with
   | .int _=>match cs,ds with
    | [.v (.int k m)],[.v (.int k' n)]=>if k=k' then some (aj m n) else none
    | _,_=>none
   | .bool=>match cs,ds with
    | [.v (.bool m)],[.v (.bool n)]=>some (qx m n)
    | _,_=>none
   | .struct fs=>bif E.eqs.any (Nat.beq T) then Nu E (Aq E f) fs.toList cs ds else none
   | _=>none
  | none=>none
section
variable {P:Program} {E:Env}
def valOf (d:TypeDesc) (xs:List Value) (v:Value):Prop:=if lZ d=true then v = .agg xs.toArray else xs=[v]
theorem Vs.single {g:G} {c:A} {xs:List Value} (h:Vs g [c] xs):∃x,xs=[x]∧V g c x:=by
 have:=h.1
 match xs,this with
 | [x],_=>exact ⟨x,rfl,(h.2 0 c x rfl rfl).1⟩
theorem rN {t:TypeId} {e:dK} (hk:bZ P t e) {xs:Array Value} {off:Nat} {v:Value} (hv:valOf e.d ((xs.toList.drop off).take e.size) v) (w:World):(part t xs off).run P w = .ok v w:=by
 unfold valOf at hv
 unfold part
 simp only [Sem.run_bind,nk hk.u,Result.andThen_ok]
 split at hv
 ·rename_i ha
  rw [if_pos ha]
  simp only [Sem.run_bind,hk.ti.size.run w,Result.andThen_ok,Sem.run_pure,hv]
  congr 2
  apply Array.ext'
  simp [List.extract_eq_take_drop]
 ·rename_i ha
  rw [if_neg ha]
  have h0:((xs.toList.drop off).take e.size)[0]?=some v:=by rw [hv];rfl
  rw [List.getElem?_take] at h0
  split at h0
  ·rw [List.getElem?_drop] at h0
   have h1:xs[off]?=some v:=by simpa using h0
   rw [h1];simp
  ·cases h0
theorem DY (hE:di P E):∀(f T:Nat) (cs ds:List A) (b:Bool),Aq E f T cs ds=some b→∀(g:G) (xs ys:List Value) (k:Nat) (w:World) (e:dK) (v v':Value),dx E.fm T=some e→Vs g cs xs→Vs g ds ys→valOf e.d xs v→valOf e.d ys v' →
  (Op.equalIn (f+k) T v v').run P w = .ok b w
 | 0,_,_,_,_,h=>by cases h
 | f+1,T,cs,ds,b,h=>by
  intro g xs ys k w e v v' he hc hd hv Ct
  have hk:=hE.fm T e he
  have hu:=hk.u
  unfold Aq at h
  rw [he] at h
  simp only at h
  rw [show f+1+k=(f+k)+1 by omega]
  split at h
  ·rename_i kk qt
   rw [qt] at hv Ct hu
   split at h
   ·split at h
    ·rename_i Al;subst Al
     cases h
     obtain ⟨x,rfl,hx⟩:=hc.single
     obtain ⟨y,rfl,hy⟩:=hd.single
     obtain rfl:x=v:=by simpa [valOf,lZ] using hv
     obtain rfl:y=v':=by simpa [valOf,lZ] using Ct
     rw [hx.jq,hy.jq,run_equalIn_int w (f+k) T _ _ _ _ hu]
     congr 1
    ·cases h
   ·cases h
  ·rename_i qt
   rw [qt] at hv Ct hu
   split at h
   ·cases h
    obtain ⟨x,rfl,hx⟩:=hc.single
    obtain ⟨y,rfl,hy⟩:=hd.single
    obtain rfl:x=v:=by simpa [valOf,lZ] using hv
    obtain rfl:y=v':=by simpa [valOf,lZ] using Ct
    rw [hx.jq,hy.jq,run_equalIn_bool' w (f+k) T _ _ hu];rfl
   ·cases h
  ·rename_i fs qt
   rw [qt] at hv Ct hu
   cases hq:E.eqs.any (Nat.beq T) with
   | false=>rw [hq] at h;cases h
   | true=>
    rw [hq] at h;simp only [cond_true] at h
    have hT:=hE.eqs T hq
    obtain rfl:v = .agg xs.toArray:=by simpa [valOf,lZ] using hv
    obtain rfl:v' = .agg ys.toArray:=by simpa [valOf,lZ] using Ct
    have Lu:P.fieldsOf T=fs:=by simp [Program.fieldsOf,hu]
    rw [run_equalIn_agg w (f+k) T xs.toArray ys.toArray (by rw [Lu];exact hu) hT.held,Lu]
    have hn:=hT.names fs hu
    generalize fs.toList=l at h hn
    clear hu qt hv Ct Lu
    induction l generalizing b with
    | nil=>simp only [Nu,zI] at h;subst h;simp [Op.eqFields]
    | cons fd l ih=>
     unfold Nu at h
     split at h
     ·rename_i ef Qi
      split at h
      ·rename_i a b' h1 h2
       cases h
       have Y2:=hE.fm _ _ Qi
       have pc:=hc.part fd.offset ef.size
       have pd:=hd.part fd.offset ef.size
       have ex:∀zs:List Value,∀ps:List A,Vs g ps zs→(∃b yM,Aq E f fd.type ps yM=some b)∨(∃b yM,Aq E f fd.type yM ps=some b)→∃v,valOf ef.d zs v:=by
        intro zs ps hz hex
        unfold valOf
        by_cases ha:lZ ef.d=true
        ·exact ⟨.agg zs.toArray,by rw [if_pos ha]⟩
        ·have:∃c,ps=[c]:=by
          rcases hex with ⟨b,yM,hb⟩ | ⟨b,yM,hb⟩
          ·cases f with
           | zero=>cases hb
           | succ f=>
            unfold Aq at hb
            rw [Qi] at hb
            simp only at hb
            split at hb<;>(try (split at hb))<;>first
             | exact ⟨_,rfl⟩
             | (cases hb;done)
             | (rename_i hx _;rw [hx] at ha;exact absurd rfl ha)
             | (rename_i hx;rw [hx] at ha;exact absurd rfl ha)
          ·cases f with
           | zero=>cases hb
           | succ f=>
            unfold Aq at hb
            rw [Qi] at hb
            simp only at hb
            split at hb<;>(try (split at hb))<;>first
             | exact ⟨_,rfl⟩
             | (cases hb;done)
             | (rename_i hx _;rw [hx] at ha;exact absurd rfl ha)
             | (rename_i hx;rw [hx] at ha;exact absurd rfl ha)
         obtain ⟨c,rfl⟩:=this
         obtain ⟨x,rfl,_⟩:=hz.single
         exact ⟨x,by rw [if_neg ha]⟩
       obtain ⟨u,hu1⟩:=ex _ _ pc (.inl ⟨_,_,h1⟩)
       obtain ⟨u',xV⟩:=ex _ _ pd (.inr ⟨_,_,h1⟩)
       have aek:=DY hE f fd.type _ _ a h1 g _ _ k w ef u u' Qi pc pd hu1 xV
       have TE:=rN Y2 (xs:=xs.toArray) (off:=fd.offset) (v:=u) (by simpa using hu1) w
       have hp2:=rN Y2 (xs:=ys.toArray) (off:=fd.offset) (v:=u') (by simpa using xV) w
       simp only [Op.eqFields]
       rw [if_pos (hn fd (zV ..))]
       simp only [Sem.run_bind,TE,hp2,aek,Result.andThen_ok]
       cases a with
       | true=>
        simp only [Bool.not_true,Bool.false_eq_true,if_false,Bool.true_and,j7]
        exact ih b' h2 (fun f hf=>hn f (zT _ hf))
       | false=>simp [j7]
      ·cases h
     ·cases h
  ·cases h
def kI:A→Bool
 | .agg _=>true
 | _=>false
theorem V.Ci {g:G} {p:A} {v:Value} (h:V g p v) (hp:kI p=true):∃vs,v = .agg vs:=by
 unfold kI at hp
 split at hp
 ·cases h;exact ⟨_,rfl⟩
 ·cases hp
theorem Gm (hE:di P E) {o:Oper} {ρ:Operand→A} {S:Hp} {op:BinOp} {T T':TypeId} {x y:Operand} {cs ds:List A} {e:dK} {f:Nat} {b:Bool} (ho:o.op = .binOp op T x y T') (he:dx E.fm T=some e) (ha:lZ e.d=true)
  (hq:lO P T) (hax:kI (ρ x)=true) (hay:kI (ρ y)=true) (hx:(ρ x).cells=some cs) (hy:(ρ y).cells=some ds) (hb:Aq E f T cs ds=some b) (hf:f≤10000) (sX:op = .eql∨op = .neq) :
  gJ P o ρ S S (.v (.bool (if op = .eql then b else !b))):=
 .value fun g w a _ hv=>by
  have e1:=hv x (by simp [ho,Op.operands])
  have e2:=hv y (by simp [ho,Op.operands])
  obtain ⟨vs,h1⟩:=e1.Ci hax
  obtain ⟨us,h2⟩:=e2.Ci hay
  have c1:=e1.cells hx
  have c2:=e2.cells hy
  rw [h1] at c1
  rw [h2] at c2
  have iO:=DY hE f T cs ds b hb g _ _ (10000-f) w e (.agg vs) (.agg us) he c1 c2 (by simp [valOf,ha,Value.cells]) (by simp [valOf,ha,Value.cells])
  rw [show f+(10000-f)=10000 from Nat.add_sub_cancel' hf] at iO
  refine ⟨.bool (if op = .eql then b else !b),?_,.v _⟩
  have mn:=run_eqGuard_agg (P:=P) w op T x y vs us hq.guard
  rcases sX with rfl | rfl
  ·simp only [execOp,ho,h1,h2,Sem.run_bind,mn,Result.andThen_ok,if_true,run_eql_struct,iO,Sem.run_pure]
  ·simp only [execOp,ho,h1,h2,Sem.run_bind,mn,Result.andThen_ok,run_neq_struct,iO,Sem.run_pure]
   rfl
theorem uf (d:Nat) {t el:TypeId} (b:Option Addr) (w:World) (hu:P.underlying t=some (.pointer el)):(Op.equalIn (d+1) t (.pointer none) (.pointer b)).run P w = .ok b.isNone w:=by
 simp [Op.equalIn,run_underlying hu]
theorem BU (d:Nat) {t el:TypeId} (a:Addr) (w:World) (hu:P.underlying t=some (.pointer el)):(Op.equalIn (d+1) t (.pointer (some a)) (.pointer none)).run P w = .ok false w:=by
 simp [Op.equalIn,run_underlying hu]
theorem Ic (t:TypeId) (a b:Option Addr) (w:World):(binOp .eql t (.pointer a) (.pointer b)).run P w=((Op.equalIn 10000 t (.pointer a) (.pointer b)).run P w).andThen fun b w'=>.ok (.bool b) w':=by
 simp only [binOp]
 simp [Op.equal,Op.maxDepth]
theorem H_ (t:TypeId) (a b:Option Addr) (w:World):(binOp .neq t (.pointer a) (.pointer b)).run P w=((Op.equalIn 10000 t (.pointer a) (.pointer b)).run P w).andThen fun b w'=>.ok (.bool (!b)) w':=by
 simp only [binOp]
 simp [Op.equal,Op.maxDepth]
def mZ:A→Bool
 | .v (.pointer none)=>true
 | _=>false
def I6 (p q:A):Option Bool:=bif mZ p && mZ q then some true else bif (mZ p && Jy q) || (Jy p && mZ q) then some false else none
theorem V.Mw {g:G} {p:A} {v:Value} (h:V g p v) (hp:mZ p=true):v = .pointer none:=by
 unfold mZ at hp
 split at hp
 ·exact h.jq
 ·cases hp
theorem Gl {o:Oper} {ρ:Operand→A} {S:Hp} {op:BinOp} {T T':TypeId} {x y:Operand} {el:Nat} {b:Bool} (ho:o.op = .binOp op T x y T') (hu:P.underlying T=some (.pointer el))
  (hb:I6 (ρ x) (ρ y)=some b) (sX:op = .eql∨op = .neq):gJ P o ρ S S (.v (.bool (if op = .eql then b else !b))):=
 .value fun g w a _ hv=>by
  have e1:=hv x (by simp [ho,Op.operands])
  have e2:=hv y (by simp [ho,Op.operands])
  have key:∃p q,a.eval x = .pointer p∧a.eval y = .pointer q∧(Op.equalIn 10000 T (.pointer p) (.pointer q)).run P w = .ok b w:=by
   unfold I6 at hb
   cases h1:(mZ (ρ x) && mZ (ρ y)) with
   | true=>
    rw [h1] at hb;simp only [cond_true,zI] at hb;subst hb
    simp only [zC] at h1
    exact ⟨none,none,e1.Mw h1.1,e2.Mw h1.2,uf 9999 _ w hu⟩
   | false=>
    rw [h1] at hb;simp only [cond_false] at hb
    cases h2:((mZ (ρ x) && Jy (ρ y)) || (Jy (ρ x) && mZ (ρ y))) with
    | false=>rw [h2] at hb;cases hb
    | true=>
     rw [h2] at hb;simp only [cond_true,zI] at hb;subst hb
     simp only [Bool.or_eq_true,zC] at h2
     rcases h2 with ⟨h3,h4⟩ | ⟨h3,h4⟩
     ·obtain ⟨ad,h5⟩:=e2.Jy h4
      exact ⟨none,some ad,e1.Mw h3,h5,uf 9999 _ w hu⟩
     ·obtain ⟨ad,h5⟩:=e1.Jy h3
      exact ⟨some ad,none,h5,e2.Mw h4,BU 9999 _ w hu⟩
  obtain ⟨p,q,h1,h2,iO⟩:=key
  refine ⟨.bool (if op = .eql then b else !b),?_,.v _⟩
  have mn:(eqGuard op T x y (.pointer p) (.pointer q)).run P w = .ok () w:=by
   rcases sX with rfl | rfl<;>rfl
  rcases sX with rfl | rfl
  ·simp only [execOp,ho,h1,h2,Sem.run_bind,mn,Result.andThen_ok,if_true,Ic,iO,Sem.run_pure]
  ·simp only [execOp,ho,h1,h2,Sem.run_bind,mn,Result.andThen_ok,H_,iO,Sem.run_pure]
   rfl
theorem Mk {o:Oper} {ρ:Operand→A} {S:Hp} {T:TypeId} {x:Operand} {n:Nat} (ho:o.op = .call { callee:=.builtin .len,args:=#[x],argTypes:=#[T] }) (hT:∃El,P.underlying T=some (.slice El)) (hx:∀g w v,Inv g S w→V g (ρ x) v→∃ad c,v = .slice ad n c):gJ P o ρ S S (.v (.int .i64 ((n:Nat):Int))):=
 .value fun g w a hI hv=>by
  obtain ⟨El,hT⟩:=hT
  obtain ⟨A1,c,hu⟩:=hx g w _ hI (hv x (by simp [ho,Op.operands,Call.operands]))
  exact ⟨_,by simp [execOp,ho,resolve,invoke,builtin,hu,Builtin.len_,run_underlying hT,goInt],.v _⟩
theorem IX {o:Oper} {ρ:Operand→A} {S:Hp} {T T' E:TypeId} {x y:Operand} {z p off n m:Nat} {cs ps:List A} (ho:o.op = .call { callee:=.builtin .copy,args:=#[x,y],argTypes:=#[T,T'] }) (hT:P.underlying T=some (.slice E)) (hE:gC P E z)
  (hx:∀g w v,Inv g S w→V g (ρ x) v→∃b s cap d,g.cn p=some (some b,s)∧v = .slice (some ⟨b,d,none⟩) n cap∧(n≠0→d=off)) (hp:S.ob p=some (.cells cs)) (sB:off+n*z≤cs.length) (hy:∀g w v,Inv g S w→V g (ρ y) v→Given g w v z m ps) (hm:m≤n):gJ P o ρ S (S.set p (.cells (put cs off ps))) (.v (.int .i64 ((m:Nat):Int))):=by
 intro g w a next Q hI hv K
 obtain ⟨b,s,cap,d,hg,hu,hd⟩:=hx g w _ hI (hv x (by simp [ho,Op.operands,Call.operands]))
 obtain ⟨A2,c2,us,xV,tG,qb,hq⟩:=hy g w _ hI (hv y (by simp [ho,Op.operands,Call.operands]))
 have JI:ps.length=m*z:=by rw [tG.1,qb]
 have hmz:m*z≤n*z:=zW _ hm
 obtain ⟨cur,ty,k1,k2,k3,k4⟩:=hI.store (off:=off) hp hg tG (by omega)
 unfold Oper.wp
 rcases Nat.eq_zero_or_pos m with rfl | JR
 ·have xf:ps=[]:=zZ (by rw [JI];simp)
  have y_:us=[]:=zZ (by rw [qb];simp)
  subst xf y_
  have iO:=wU (P:=P) w (T:=T) (T':=T') (ty:=o.type) (n:=n) (cap:=cap) (c2:=c2) (A:=some ⟨b,d,none⟩) (B:=A2) hT hE
  have xe:put cs off []=cs:=by simp [put]
  have hS:S.set p (.cells (put cs off []))=S:=by
   rw [xe]
   show (⟨fun i=>if i=p then some (.cells cs) else S.ob i,S.fr⟩:Hp)=S
   have:(fun i=>if i=p then some (.cells cs) else S.ob i)=S.ob:=by
    funext i
    by_cases hi:i=p
    ·subst hi;rw [if_pos rfl,hp]
    ·rw [if_neg hi]
   rw [this]
  rw [hS] at K
  simp only [execOp,ho,resolve,invoke,builtin,Sem.run_bind,Sem.run_pure,Result.andThen_ok,List.map_toArray,List.map_cons,List.map_nil,hu,xV,iO]
  exact K _ g w (.v _) hI (.refl S g w)
 ·obtain rfl:=hd (by omega)
  obtain ⟨q,rfl,JH⟩:=hq JR
  have iO:=FV (P:=P) w (T:=T) (T':=T') (ty:=o.type) (n:=n) (cap:=cap) (c2:=c2) (off:=d) hT hE k1 qb JH tG.one hm (by omega)
  simp only [execOp,ho,resolve,invoke,builtin,Sem.run_bind,Sem.run_pure,Result.andThen_ok,List.map_toArray,List.map_cons,List.map_nil,hu,xV,iO]
  exact K _ g _ (.v _) k3 k4
end
end
section
open Go.RowKit
def lB (E:Env) (T:Nat) (d:TypeDesc) (p q:A):Option Bool:=
 match d with
 | .int _=>match p,q with
  | .v (.int k m),.v (.int k' n)=>if k=k' then some (aj m n) else none
  | _,_=>none
 | .struct _=>bif kI p && kI q then (match p.cells,q.cells with
  | some a,some b=>Aq E 2 T a b
  | _,_=>none) else none
 | _=>none
def oI (E:Env) (d:TypeDesc):Bool:=
 match d with
 | .int _=>true
 | .struct fs=>fs.toList.all fun f=>(match dx E.fm f.type with
  | some ef=>match ef.d with
   | .int _=>true
   | _=>false
  | none=>false)
 | _=>false
section
variable {P:Program} {E:Env}
def NU (P:Program) (w:World) (T:Nat) (v v':Value) (b:Bool):Prop:=
 (∃kd,P.underlying T=some (.int kd)∧∃k m n,v = .int k m∧v' = .int k n∧b=decide (m=n))∨((∃fs,P.underlying T=some (.struct fs))∧(∃vs,v = .agg vs)∧(Op.equal T v v').run P w = .ok b w)
theorem EP (hE:di P E) {g:G} {T:Nat} {e:dK} {p q:A} {v v':Value} {b:Bool} (w:World) (he:dx E.fm T=some e) (h:lB E T e.d p q=some b) (hp:V g p v) (hq:V g q v'):NU P w T v v' b:=by
 have hk:=hE.fm T e he
 have hu:=hk.u
 unfold lB at h
 split at h
 ·rename_i kd hd
  split at h
  ·rename_i k m k' n
   split at h
   ·rename_i Al;subst Al;cases h
    exact .inl ⟨kd,by rw [hu,hd],k,m,n,hp.jq,hq.jq,rfl⟩
   ·cases h
  ·cases h
 ·rename_i fs hd
  cases Hy:(kI p && kI q) with
  | false=>rw [Hy] at h;cases h
  | true=>
   rw [Hy] at h;simp only [cond_true] at h
   simp only [zC] at Hy
   split at h
   ·rename_i a c ha hc
    obtain ⟨vs,h1⟩:=hp.Ci Hy.1
    obtain ⟨us,h2⟩:=hq.Ci Hy.2
    have c1:=hp.cells ha
    have c2:=hq.cells hc
    rw [h1] at c1
    rw [h2] at c2
    have haa:lZ e.d=true:=by rw [hd];rfl
    have iO:=DY hE 2 T a c b h g _ _ 9998 w e (.agg vs) (.agg us) he c1 c2 (by simp [valOf,haa,Value.cells]) (by simp [valOf,haa,Value.cells])
    refine .inr ⟨⟨fs,by rw [hu,hd]⟩,⟨vs,h1⟩,?_⟩
    rw [h1,h2]
    exact iO
   ·cases h
 ·cases h
theorem G1 {T:Nat} {v:Value} {w:World}:∀(es:List MapEntry),(∀e∈es,NU P w T v e.key false)→(es=[]→∃d,P.underlying T=some d)→(Instr.findKey T v es).run P w = .ok none w
 | [],_,hd=>by
  obtain ⟨d,hd⟩:=hd rfl
  simp [Instr.findKey,run_underlying hd,Instr.findNow]
 | e::es,lb,_=>by
  rcases lb e (zV ..) with ⟨kd,hu,k,m,n,hv,Ct,hb⟩ | ⟨⟨fs,hu⟩,⟨vs,hv⟩,hr⟩
  ·have hf:∀(l:List MapEntry) (i:Nat),(∀e∈l,NU P w T v e.key false)→Instr.findNow (.int kd) v l i=some none:=by
    intro l
    induction l with
    | nil=>intro i _;rfl
    | cons e l ih=>
     intro i hl
     rcases hl e (zV ..) with ⟨kd',xd,k',m',n',Lm,RA,vW⟩ | ⟨⟨fs,xd⟩,_⟩
     ·unfold Instr.findNow
      have jI:(m' == n')=false:=by
       have:¬m'=n':=of_decide_eq_false vW.symm
       simpa using this
      simp only [Lm,RA,Instr.sameNow,if_true,jI]
      rw [←Lm]
      exact ih (i+1) (fun e he=>hl e (zT _ he))
     ·rw [hu] at xd;cases xd
   simp [Instr.findKey,run_underlying hu,hf (e::es) 0 lb]
  ·have hn:Instr.findNow (.struct fs) v (e::es) 0=none:=by
    unfold Instr.findNow
    rw [hv]
    cases e.key<;>rfl
   have hf:∀(l:List MapEntry) (i:Nat),(∀e∈l,NU P w T v e.key false)→(Instr.findAsking T v l i).run P w = .ok none w:=by
    intro l
    induction l with
    | nil=>intro i _;simp [Instr.findAsking]
    | cons e l ih=>
     intro i hl
     rcases hl e (zV ..) with ⟨kd',xd,_⟩ | ⟨_,_,Dp⟩
     ·rw [hu] at xd;cases xd
     ·simp only [Instr.findAsking,Sem.run_bind,Dp,Result.andThen_ok]
      exact ih (i+1) (fun e he=>hl e (zT _ he))
   simp [Instr.findKey,run_underlying hu,hn,hf (e::es) 0 lb]
theorem Kb {T:Nat} {v:Value} {w:World} {es:List MapEntry} {j:Nat} {e:MapEntry} (hj:es[j]?=some e) (hb:∀(i:Nat) (e':MapEntry),i<j→es[i]?=some e'→NU P w T v e'.key false) (ht:NU P w T v e.key true) :
  (Instr.findKey T v es).run P w = .ok (some (j,e.val)) w:=by
 rcases ht with ⟨kd,hu,k,m,n,hv,Ct,hbb⟩ | ⟨⟨fs,hu⟩,⟨vs,hv⟩,hr⟩
 ·have hf:∀(l:List MapEntry) (i j:Nat),l[j]?=some e→(∀(i:Nat) (e':MapEntry),i<j→l[i]?=some e'→NU P w T v e'.key false)→Instr.findNow (.int kd) v l i=some (some (i+j,e.val)):=by
   intro l
   induction l with
   | nil=>intro i j h;simp at h
   | cons a l ih=>
    intro i j h hl
    unfold Instr.findNow
    cases j with
    | zero=>
     obtain rfl:a=e:=by simpa using h
     have:(m == n)=true:=by simpa using (of_decide_eq_true hbb.symm)
     simp only [hv,Ct,Instr.sameNow,if_true,this]
     simp
    | succ j=>
     rcases hl 0 a (by omega) rfl with ⟨kd',xd,k',m',n',Lm,RA,vW⟩ | ⟨⟨fs,xd⟩,_⟩
     ·have jI:(m' == n')=false:=by
       have:¬m'=n':=of_decide_eq_false vW.symm
       simpa using this
      simp only [Lm,RA,Instr.sameNow,if_true,jI]
      rw [←Lm,ih (i+1) j (by simpa using h) (fun i' e' hi he=>hl (i'+1) e' (by omega) (by simpa using he))]
      congr 3;omega
     ·rw [hu] at xd;cases xd
  have:=hf es 0 j hj hb
  simp [Instr.findKey,run_underlying hu,this]
 ·have hn:Instr.findNow (.struct fs) v es 0=none:=by
   cases es with
   | nil=>simp at hj
   | cons a l=>
    unfold Instr.findNow
    rw [hv]
    cases a.key<;>rfl
  have hf:∀(l:List MapEntry) (i j:Nat),l[j]?=some e→(∀(i:Nat) (e':MapEntry),i<j→l[i]?=some e'→NU P w T v e'.key false)→(Instr.findAsking T v l i).run P w = .ok (some (i+j,e.val)) w:=by
   intro l
   induction l with
   | nil=>intro i j h;simp at h
   | cons a l ih=>
    intro i j h hl
    cases j with
    | zero=>
     obtain rfl:a=e:=by simpa using h
     simp [Instr.findAsking,hr]
    | succ j=>
     rcases hl 0 a (by omega) rfl with ⟨kd',xd,_⟩ | ⟨_,_,Dp⟩
     ·rw [hu] at xd;cases xd
     ·simp only [Instr.findAsking,Sem.run_bind,Dp,Result.andThen_ok,Bool.false_eq_true,if_false]
      rw [ih (i+1) j (by simpa using h) (fun i' e' hi he=>hl (i'+1) e' (by omega) (by simpa using he))]
      congr 3;omega
  have:=hf es 0 j hj hb
  simp [Instr.findKey,run_underlying hu,hn,this]
theorem qj (hE:di P E) {g:G} {T:Nat} {e:dK} {p:A} {v:Value} {b:Bool} (w:World) (em:Bool) (he:dx E.fm T=some e) (ht:oI E e.d=true) (h:lB E T e.d p p=some b) (hp:V g p v):(Instr.checkKey em 10000 T v).run P w = .ok () w:=by
 have hk:=hE.fm T e he
 have hu:=hk.u
 unfold oI at ht
 split at ht
 ·rename_i kd hd
  rcases EP hE w he h hp hp with ⟨kd',xd,k,m,n,hv,_⟩ | ⟨⟨fs,xd⟩,_⟩
  ·rw [show 10000=9999+1 from rfl,Instr.checkKey]
   simp only [Sem.run_bind,run_underlying hu,Result.andThen_ok,hd,hv]
   rfl
  ·rw [hu,hd] at xd;cases xd
 ·rename_i fs hd
  have xd:P.underlying T=some (.struct fs):=by rw [hu,hd]
  have m6:∃a,p.cells=some a∧kI p=true∧Aq E 2 T a a=some b:=by
   unfold lB at h
   rw [hd] at h
   simp only at h
   cases Hy:(kI p && kI p) with
   | false=>rw [Hy] at h;cases h
   | true=>
    rw [Hy] at h;simp only [cond_true] at h
    simp only [Bool.and_self] at Hy
    split at h
    ·rename_i a c ha hc;rw [ha] at hc;cases hc;exact ⟨a,ha,Hy,h⟩
    ·cases h
  obtain ⟨a,ha,Hy,heq⟩:=m6
  obtain ⟨vs,rfl⟩:=hp.Ci Hy
  have c1:Vs g a vs.toList:=hp.cells ha
  unfold Aq at heq
  rw [he] at heq
  simp only [hd] at heq
  cases hq:E.eqs.any (Nat.beq T) with
  | false=>rw [hq] at heq;cases heq
  | true=>
   rw [hq] at heq;simp only [cond_true] at heq
   have zd:=(hE.eqs T hq).names fs xd
   rw [show 10000=9999+1 from rfl,Instr.checkKey]
   simp only [Sem.run_bind,run_underlying xd,Result.andThen_ok]
   rw [←Array.forIn_toList]
   have lb:=List.all_eq_true.1 ht
   generalize fs.toList=L at heq lb zd
   clear xd hd ht h
   induction L generalizing b with
   | nil=>simp
   | cons f L ih=>
    have hf:=lb f (zV ..)
    have hn:=zd f (zV ..)
    unfold Nu at heq
    split at heq
    ·rename_i ef Qi
     split at heq
     ·rename_i x y hx hy
      rw [Qi] at hf
      simp only at hf
      split at hf
      ·rename_i kd hkd
       have Y2:=hE.fm _ _ Qi
       have huf:=Y2.u
       have JJ:∃k m,(part f.type vs f.offset).run P w = .ok (.int k m) w:=by
        unfold Aq at hx
        rw [Qi] at hx
        simp only [hkd] at hx
        split at hx
        ·rename_i k m k' n Ze TO
         have c2:=c1.part f.offset ef.size
         rw [Ze] at c2
         obtain ⟨z,e1,e2⟩:=c2.single
         have e2:=e2.jq
         subst e2
         exact ⟨k,m,rN Y2 (by simp [valOf,hkd,lZ,e1]) w⟩
        ·cases hx
       obtain ⟨k,m,hpr⟩:=JJ
       have Hx:(Instr.checkKey em 9999 f.type (.int k m)).run P w = .ok () w:=by
        rw [show 9999=9998+1 from rfl,Instr.checkKey]
        simp only [Sem.run_bind,run_underlying huf,Result.andThen_ok,hkd]
        rfl
       simp only [List.forIn_cons,Sem.run_bind,hn,ne_eq,not_false_eq_true,if_true,Result.andThen_ok,hpr,Hx,Sem.run_pure]
       exact ih hy (fun y hy=>lb y (zT _ hy)) (fun y hy=>zd y (zT _ hy))
      ·cases hf
     ·cases heq
    ·cases heq
 ·cases ht
end
section
variable {P:Program} {E:Env} {o:Oper} {ρ:Operand→A} {S:Hp}
def nD (f:A→Option Bool):List (A×A)→Nat→Option (Option (Nat×A))
 | [],_=>some none
 | (k,v)::r,i=>match f k with
  | some true=>some (some (i,v))
  | some false=>nD f r (i+1)
  | none=>none
theorem wa {f:A→Option Bool}:∀(es:List (A×A)) (i:Nat) (r:Option (Nat×A)),nD f es i=some r →
  (r=none∧∀(j:Nat) (q:A×A),es[j]?=some q→f q.1=some false)∨∃n v k,r=some (i+n,v)∧es[n]?=some (k,v)∧f k=some true∧∀(j:Nat) (q:A×A),j<n→es[j]?=some q→f q.1=some false
 | [],i,r,h=>by cases h;exact .inl ⟨rfl,fun j q h=>by simp at h⟩
 | (k,v)::es,i,r,h=>by
  unfold nD at h
  split at h
  ·rename_i hk;cases h
   exact .inr ⟨0,v,k,rfl,rfl,hk,fun j q hj=>by omega⟩
  ·rename_i hk
   rcases wa es (i+1) r h with ⟨rfl,h2⟩ | ⟨n,v',k',rfl,h2,h3,h4⟩
   ·refine .inl ⟨rfl,fun j q hj=>?_⟩
    cases j with
    | zero=>simp at hj;subst hj;exact hk
    | succ j=>exact h2 j q (by simpa using hj)
   ·refine .inr ⟨n+1,v',k',by rw [show i+(n+1)=i+1+n by omega],by simpa using h2,h3,fun j q hj hq=>?_⟩
    cases j with
    | zero=>simp at hq;subst hq;exact hk
    | succ j=>exact h4 j q (by omega) (by simpa using hq)
  ·cases h
theorem wI.find {g:G} {w:World} {lM:Array MapEntry} {es:List (A×A)} (hE:di P E) {K:Nat} {e:dK} {p:A} {v:Value} {r:Option (Nat×A)} (he:dx E.fm K=some e) (h:wI g lM es) (hp:V g p v) (hr:nD (lB E K e.d p) es 0=some r) :
  (r=none∧(Instr.findKey K v lM.toList).run P w = .ok none w)∨∃n q x,r=some (n,q)∧lM[n]?=some x∧V g q x.val∧n<es.length∧(Instr.findKey K v lM.toList).run P w = .ok (some (n,x.val)) w:=by
 have key:∀(j:Nat) (x:MapEntry) (q:A×A) (b:Bool),lM[j]?=some x→es[j]?=some q→lB E K e.d p q.1=some b→NU P w K v x.key b:=fun j x q b h1 h2 h3=>
  EP hE w he h3 hp (h.2 j x q h1 h2).1
 have cn:∀(j:Nat) (x:MapEntry),lM[j]?=some x→∃q,es[j]?=some q:=fun j x hx=>⟨_,zD (by have:=(Array.getElem?_eq_some_iff.1 hx).1;have:=h.1;omega)⟩
 rcases wa es 0 r hr with ⟨rfl,h2⟩ | ⟨n,q,k,rfl,h2,h3,h4⟩
 ·refine .inl ⟨rfl,G1 _ (fun x hx=>?_) (fun _=>⟨_,(hE.fm _ _ he).u⟩)⟩
  obtain ⟨j,hj,rfl⟩:=List.getElem_of_mem hx
  have su:lM[j]?=some lM.toList[j]:=by simp at hj ⊢
  obtain ⟨q,hq⟩:=cn j _ su
  exact key j _ q false su hq (h2 j q hq)
 ·have hn:=(zB.1 h2).1
  have hx : lM[n]? = some (lM[n]'(by have := h.1; omega)) := by simp
  refine .inr ⟨n,q,_,by rw [Nat.zero_add],hx,(h.2 n _ _ hx h2).2,hn,?_⟩
  refine Kb (by simp) (fun j x hj hjx=>?_) (key n _ (k,q) true hx h2 h3)
  have Y3:lM[j]?=some x:=by simpa using hjx
  obtain ⟨q',hq'⟩:=cn j _ Y3
  exact key j x q' false Y3 hq' (h4 j q' hj hq')
theorem V.yY {g:G} {w:World} {x:Ref} {es:List (A×A)} {v:Value} (hI:Inv g S w) (hv:V g (.mp x) v) (ho:S.ob x.id=some (.d_ (.map es))):∃b s lM clock,v = .map (some b)∧g.cn x.id=some (some b,s)∧w.heap[b]?=some (.map lM clock)∧wI g lM es:=by
 obtain ⟨b,s,ob,k1,k2,lM,clock,rfl,k3⟩:=hI.d_ x.id _ ho
 cases hv with
 | mp _ b' s' h=>
  rw [k1] at h
  obtain ⟨rfl,_⟩:b=b'∧s=s':=by simpa using h
  exact ⟨b,s,lM,clock,rfl,k1,k2,k3⟩
theorem Bf {T q:Nat} (ho:o.op = .makeMap T none) (hf:S.fr q):gJ P o ρ S (S.new q (.d_ (.map []))) (.mp (.loc q)):=by
 intro g w a next Q hI hv K
 obtain ⟨k1,k2⟩:=hI.alloc (s:=(0,0)) hf (x:=.d_ (.map [])) (ob:=.map #[] 0) ⟨.map #[] 0,heap_alloc_new w _,#[],0,rfl,rfl,fun j e q h=>by simp at h⟩
 unfold Oper.wp
 simp only [execOp,ho,Instr.makeMap,Option.map_none,Sem.run_bind,Result.andThen_ok,Sem.run_pure,run_newObj,pure_bind]
 exact K _ _ _ (.mp (.loc q) w.heap.size _ dG) k1 k2
def HI (z:Value):Option A:=match z with
 | .agg vs=>some (.agg (vs.toList.map .v))
 | .tuple _=>none
 | z=>some (.v z)
theorem HH {z:Value} {p:A} (h:HI z=some p) (h1:(z.cells.toList.all (·.oneCell'))=true) (g:G):V g p z:=by
 unfold HI at h
 split at h
 ·rename_i vs
  cases h
  refine .agg _ vs (by simp) (fun v hv=>List.all_eq_true.1 h1 v (by simpa [Value.cells] using hv)) (fun i c x e1 e2=>?_)
  simp only [zL,Option.map_eq_some_iff,Array.getElem?_toList] at e1
  obtain ⟨y,hy,rfl⟩:=e1
  rw [e2] at hy
  obtain rfl:=Option.some.inj hy
  exact .v _
 ·cases h
 ·cases h;exact .v _
def FJ (z:A):Option (Nat×A)→A
 | some (_,v)=>v
 | none=>z
def Kl (es:List (A×A)):Option (Nat×A)→List (A×A)
 | some (n,_)=>es.eraseIdx n
 | none=>es
theorem vw (hE:di P E) {T K T2:Nat} {X:Ref} {x y:Operand} {ok:Bool} {e e2:dK} {es:List (A×A)} {r:Option (Nat×A)} (ho:o.op = .lookup T x y ok) (hT:P.underlying T=some (.map K T2)) (he:dx E.fm K=some e) (TL:dx E.fm T2=some e2) (ht:oI E e.d=true) {b:Bool} (hs:lB E K e.d (ρ y) (ρ y)=some b)
  (hx:ρ x = .mp X) (hm:S.ob X.id=some (.d_ (.map es))) (hr:nD (lB E K e.d (ρ y)) es 0=some r) {z:A} (hz:∀g,V g z e2.zero):gJ P o ρ S S (bif ok then .mA [FJ z r,.v (.bool r.isSome)] else FJ z r):=
 .value fun g w a hI hv=>by
  have e1:=hx▸hv x (by simp [ho,Op.operands])
  have e2':=hv y (by simp [ho,Op.operands])
  obtain ⟨HD,s,lM,clock,h1,h2,h3,h4⟩:=e1.yY hI hm
  have hc:=qj hE w lM.isEmpty he ht hs e2'
  obtain ⟨ti,t1,t2,t3,t4,t5,t6⟩:=(hE.fm _ _ TL).ti
  have hzv:(zeroValue T2).run P w = .ok e2.zero w:=by simp [zeroValue,typeInfo,t1,t2]
  have pair:∀(p:A) (u:Value) (b:Bool),V g p u→V g (bif ok then .mA [p,.v (.bool b)] else p) (if ok then .tuple #[u,.bool b] else u):=by
   intro p u b hp
   cases ok with
   | true=>
    refine .mA _ _ rfl (fun k c x e3 e4=>?_)
    match k with
    | 0=>simp at e3 e4;subst e3 e4;exact hp
    | 1=>simp at e3 e4;subst e3 e4;exact .v _
    | k+2=>simp at e3
   | false=>exact hp
  rcases h4.find (w:=w) hE he e2' hr with ⟨rfl,hf⟩ | ⟨n,p,x',rfl,su,tG,_,hf⟩
  ·refine ⟨if ok then .tuple #[e2.zero,.bool false] else e2.zero,?_,pair z e2.zero false (hz g)⟩
   simp only [execOp,ho,h1,Instr.lookup,Sem.run_bind,run_underlying hT,Result.andThen_ok,MapKept.run_getObj_map h3,hc,hf,hzv,Sem.run_pure]
  ·refine ⟨if ok then .tuple #[x'.val,.bool true] else x'.val,?_,pair p x'.val true tG⟩
   simp only [execOp,ho,h1,Instr.lookup,Sem.run_bind,run_underlying hT,Result.andThen_ok,MapKept.run_getObj_map h3,hc,hf,Sem.run_pure]
theorem Inv.yq {g:G} {w:World} (h:Inv g S w) {q b clock pF:Nat} {s:Nat×Nat} {es sY:List (A×A)} {lM Ja:Array MapEntry} (ho:S.ob q=some (.d_ (.map es))) (hg:g.cn q=some (some b,s)) (hh:w.heap[b]?=some (.map lM clock)) (hE:wI g Ja sY) :
  Inv g (S.set q (.d_ (.map sY))) { w with heap:=w.heap.setIfInBounds b (.map Ja pF) }∧Ext S g w (S.set q (.d_ (.map sY))) g { w with heap:=w.heap.setIfInBounds b (.map Ja pF) }:=by
 have hb:b<w.heap.size:=(Array.getElem?_eq_some_iff.1 hh).1
 exact h.write ho hg (by simp) (fun k hk=>by simp [Array.getElem?_setIfInBounds,hk.symm]) rfl rfl rfl ⟨.map Ja pF,by simp [hb],Ja,pF,rfl,hE⟩
theorem EF (hE:di P E) {T K T2:Nat} {X:Ref} {x y z:Operand} {e:dK} {es:List (A×A)} {ky vz:A} (ho:o.op = .mapUpdate T x y z∨o.op = .insert T x y z) (hT:P.underlying T=some (.map K T2)) (he:dx E.fm K=some e) (ht:oI E e.d=true) {b:Bool} (hs:lB E K e.d (ρ y) (ρ y)=some b)
  (hx:ρ x = .mp X) (hm:S.ob X.id=some (.d_ (.map es))) (hky:∀g v,V g (ρ y) v→V g ky v) (TB:∀g v,V g (ρ z) v→V g vz v) (hr:nD (lB E K e.d (ρ y)) es 0=some none):gJ P o ρ S (S.set X.id (.d_ (.map (es++[(ky,vz)])))) .dI:=by
 intro g w a next Q hI hv K'
 have kR:x∈o.op.operands∧y∈o.op.operands∧z∈o.op.operands:=by rcases ho with ho | ho<;>simp [ho,Op.operands]
 have e1:=hx▸hv x kR.1
 have e2:=hv y kR.2.1
 have e3:=hv z kR.2.2
 obtain ⟨HD,s,lM,clock,h1,h2,h3,h4⟩:=e1.yY hI hm
 have hc:=qj hE w false he ht hs e2
 have hfn:(Instr.findKey K (a.eval y) lM.toList).run P w = .ok none w:=by
  rcases h4.find (w:=w) hE he e2 hr with ⟨_,hf⟩ | ⟨n,p,x',hh,_⟩
  ·exact hf
  ·cases hh
 have JW:wI g (lM.push { key:=a.eval y,val:=a.eval z,born:=clock }) (es++[(ky,vz)]):=by
  refine ⟨by simp [h4.1],fun m x q hy hq=>?_⟩
  rw [Array.getElem?_push] at hy
  split at hy
  ·rename_i hm
   cases hy
   rw [zJ (by have:=h4.1;omega)] at hq
   rw [show m-es.length=0 by have:=h4.1;omega] at hq
   simp at hq;subst hq
   exact ⟨hky _ _ e2,TB _ _ e3⟩
  ·rw [zK (by have:=(Array.getElem?_eq_some_iff.1 hy).1;have:=h4.1;omega)] at hq
   exact h4.2 m x q hy hq
 obtain ⟨k1,k2⟩:=hI.yq (pF:=clock+1) hm h2 h3 JW
 have iO:(Instr.mapUpdate T (.map (some HD)) (a.eval y) (a.eval z)).run P w = .ok () { w with heap:=w.heap.setIfInBounds HD (.map (lM.push { key:=a.eval y,val:=a.eval z,born:=clock }) (clock+1)) }:=by
  simp only [Instr.mapUpdate,Sem.run_bind,run_underlying hT,Result.andThen_ok,MapKept.run_getObj_map h3,hc,hfn,MapKept.run_setObj_map _ h3]
 unfold Oper.wp
 rcases ho with ho | ho
 ·simp only [execOp,ho,h1,Sem.run_bind,iO,Result.andThen_ok,Sem.run_pure]
  exact K' _ g _ (.dI _) k1 k2
 ·simp only [execOp,ho,h1,Sem.run_bind,iO,Result.andThen_ok,Sem.run_pure]
  exact K' _ g _ (.dI _) k1 k2
theorem vA (hE:di P E) {T K T2:Nat} {X:Ref} {x y:Operand} {Ts:Array TypeId} {e:dK} {es:List (A×A)} {r:Option (Nat×A)} (ho:o.op = .call { callee:=.builtin .delete,args:=#[x,y],argTypes:=Ts }) (h0:Ts[0]?=some T) (hT:P.underlying T=some (.map K T2)) (he:dx E.fm K=some e) (ht:oI E e.d=true) {b:Bool} (hs:lB E K e.d (ρ y) (ρ y)=some b)
  (hx:ρ x = .mp X) (hm:S.ob X.id=some (.d_ (.map es))) (hr:nD (lB E K e.d (ρ y)) es 0=some r):gJ P o ρ S (S.set X.id (.d_ (.map (Kl es r)))) .dI:=by
 intro g w a next Q hI hv K'
 have e1:=hx▸hv x (by simp [ho,Op.operands,Call.operands])
 have e2:=hv y (by simp [ho,Op.operands,Call.operands])
 obtain ⟨HD,s,lM,clock,h1,h2,h3,h4⟩:=e1.yY hI hm
 have hc:=qj hE w lM.isEmpty he ht hs e2
 unfold Oper.wp
 rcases h4.find (w:=w) hE he e2 hr with ⟨rfl,hf⟩ | ⟨n,p,x',rfl,su,_,hn,hf⟩
 ·obtain ⟨k1,k2⟩:=hI.yq (pF:=clock) hm h2 h3 h4
  simp only [execOp,ho,resolve,invoke,builtin,Sem.run_bind,Sem.run_pure,Result.andThen_ok,List.map_toArray,List.map_cons,List.map_nil,Builtin.delete_,h0,h1,run_underlying hT,MapKept.run_getObj_map h3,hc,hf,MapKept.run_setObj_map _ h3,List.getElem?_toArray,List.getElem?_cons_zero,List.getElem?_cons_succ]
  exact K' _ g _ (.dI _) k1 k2
 ·have hen:wI g (lM.eraseIdxIfInBounds n) (es.eraseIdx n):=by
   have zh:(lM.eraseIdxIfInBounds n).toList=lM.toList.eraseIdx n:=by simp
   have hl:=h4.1
   refine ⟨by rw [←Array.length_toList,zh,List.length_eraseIdx,List.length_eraseIdx];simp [hl],fun m y z hy hz=>?_⟩
   rw [←Array.getElem?_toList,zh,List.getElem?_eraseIdx] at hy
   rw [List.getElem?_eraseIdx] at hz
   split at hy
   ·rename_i hm
    rw [if_pos hm] at hz
    exact h4.2 m y z (by simpa using hy) hz
   ·rename_i hm
    rw [if_neg hm] at hz
    exact h4.2 (m+1) y z (by simpa using hy) hz
  obtain ⟨k1,k2⟩:=hI.yq (pF:=clock) hm h2 h3 hen
  simp only [execOp,ho,resolve,invoke,builtin,Sem.run_bind,Sem.run_pure,Result.andThen_ok,List.map_toArray,List.map_cons,List.map_nil,Builtin.delete_,h0,h1,run_underlying hT,MapKept.run_getObj_map h3,hc,hf,MapKept.run_setObj_map _ h3,List.getElem?_toArray,List.getElem?_cons_zero,List.getElem?_cons_succ]
  exact K' _ g _ (.dI _) k1 k2
def PC (P:Program) (f:FuncId) (aa:List A) (S S':Hp) (r:A):Prop:=
 ∀g w (vs:List Value),Inv g S w→aa.length=vs.length→(∀(i:Nat) (p:A) (v:Value),aa[i]?=some p→vs[i]?=some v→V g p v) →
  Calls P f vs.toArray w (fun e w'=>∃v g',e = .returned v∧V g' r v∧Inv g' S' w'∧Ext S g w S' g' w')
theorem Gp {x:Operand} {f:FuncId} {fi ca:List A} {xs:Array Operand} {ts:Array TypeId} {S':Hp} {r:A} (ho:o.op = .call { callee:=.value x,args:=xs,argTypes:=ts }) (hf:D_ P f) (hx:ρ x = .fn f fi ca)
  (h:PC P f (fi++xs.toList.map ρ++ca) S S' r):gJ P o ρ S S' r:=by
 intro g w a next Q hI hv K
 unfold Oper.wp
 have e1:=hx▸hv x (by simp [ho,Op.operands,Call.operands])
 generalize hu:a.eval x=u at e1
 cases e1 with
 | fn _ _ _ fv cv RP Ze h1 h2=>
 have e:(execOp a.eval o).run P w = .ok (.enter f (fv.toList++xs.toList.map a.eval++cv.toList).toArray) w:=by
  have h2:=hf.run ((fv.toList++xs.toList.map a.eval++cv.toList).toArray) w
  simp only [execOp,ho,resolve,hu,Deferred.ofValue,pure_bind,invoke]
  rw [show fv++Array.map a.eval xs++cv=(fv.toList++xs.toList.map a.eval++cv.toList).toArray by apply Array.ext';simp]
  exact h2
 rw [e]
 simp only [Oper.upon]
 refine (h g w (fv.toList++xs.toList.map a.eval++cv.toList) hI (by simp;omega) (fun i p v k1 k2=>?_)).mono ?_
 ·by_cases c1:i<fi.length
  ·rw [List.append_assoc,zK c1] at k1
   rw [List.append_assoc,zK (by simp;omega)] at k2
   exact h1 i p v k1 (by simpa using k2)
  ·by_cases c2:i<fi.length+xs.size
   ·rw [List.append_assoc,zJ (by omega),zK (by simp;omega)] at k1
    rw [List.append_assoc,zJ (by simp;omega),zK (by simp;omega)] at k2
    simp only [Array.length_toList,←RP,zL,Option.map_eq_some_iff] at k1 k2
    obtain ⟨y,hy,rfl⟩:=k1
    obtain ⟨y',qW,rfl⟩:=k2
    rw [hy] at qW
    obtain rfl:=Option.some.inj qW
    exact hv y (by simp only [ho,Op.operands,Call.operands];exact Array.mem_append.2 (.inr (Array.mem_of_getElem? (by simpa using hy))))
   ·rw [zJ (by simp;omega)] at k1 k2
    simp only [zY,Array.length_toList,zH,←RP] at k1 k2
    exact h2 _ p v k1 (by simpa using k2)
 ·rintro e w' ⟨v,g',rfl,h1,h2,h3⟩
  exact K v g' w' h1 h2 h3
theorem yP {f:FuncId} {fi ca:Array Operand} (ho:o.op = .makeFunc (.func f) fi ca):gJ P o ρ S S (.fn f (fi.toList.map ρ) (ca.toList.map ρ)):=
 .value fun g w a _ hv=>by
  refine ⟨.func (.func f) (fi.map a.eval) (ca.map a.eval),by simp [execOp,ho,Instr.makeFunc],.fn _ _ _ _ _ (by simp) (by simp) (fun i c x h1 h2=>?_) (fun i c x h1 h2=>?_)⟩
  ·simp only [zL,Array.getElem?_map,Option.map_eq_some_iff,Array.getElem?_toList] at h1 h2
   obtain ⟨y,hy,rfl⟩:=h1
   obtain ⟨y',qW,rfl⟩:=h2
   rw [hy] at qW
   obtain rfl:=Option.some.inj qW
   exact hv y (by simp only [ho,Op.operands];exact Array.mem_append.2 (.inl (Array.mem_of_getElem? hy)))
  ·simp only [zL,Array.getElem?_map,Option.map_eq_some_iff,Array.getElem?_toList] at h1 h2
   obtain ⟨y,hy,rfl⟩:=h1
   obtain ⟨y',qW,rfl⟩:=h2
   rw [hy] at qW
   obtain rfl:=Option.some.inj qW
   exact hv y (by simp only [ho,Op.operands];exact Array.mem_append.2 (.inr (Array.mem_of_getElem? hy)))
theorem Mi {Ts:Array TypeId} {x y:Operand} {k:IntKind} {m n:Int} (ho:o.op = .call { callee:=.builtin .min,args:=#[x,y],argTypes:=Ts }) (hx:ρ x = .v (.int k m)) (hy:ρ y = .v (.int k n)):gJ P o ρ S S (.v (.int k (YJ m n))):=
 .value fun g w a hI hv=>by
  have e1:=(hx▸hv x (by simp [ho,Op.operands,Call.operands])).jq
  have e2:=(hy▸hv y (by simp [ho,Op.operands,Call.operands])).jq
  exact ⟨_,by simp [execOp,ho,resolve,invoke,builtin,Builtin.min_,e1,e2,Builtin.min2];rfl,.v _⟩
theorem Mj {Ts:Array TypeId} {x y:Operand} {k:IntKind} {m n:Int} (ho:o.op = .call { callee:=.builtin .max,args:=#[x,y],argTypes:=Ts }) (hx:ρ x = .v (.int k m)) (hy:ρ y = .v (.int k n)):gJ P o ρ S S (.v (.int k (imax m n))):=
 .value fun g w a hI hv=>by
  have e1:=(hx▸hv x (by simp [ho,Op.operands,Call.operands])).jq
  have e2:=(hy▸hv y (by simp [ho,Op.operands,Call.operands])).jq
  exact ⟨_,by simp [execOp,ho,resolve,invoke,builtin,Builtin.max_,e1,e2,Builtin.max2];rfl,.v _⟩
theorem uz {T E':TypeId} {z b m n p q off:Nat} {zv:Value} {cs ps:List A} {x y:Operand} (ho:o.op = .call { callee:=.builtin .append,args:=#[x,y],argTypes:=#[T,T] }) (hT:P.underlying T=some (.slice E')) (hE:TI P E' z b zv) (h0:0<z)
  (hx:∀g w v,Inv g S w→V g (ρ x) v→(∃ad,v = .slice ad 0 0∧n=0)∨∃bk s d,g.cn p=some (some bk,s)∧v = .slice (some ⟨bk,d,none⟩) n n∧(n≠0→d=off)) (hp:S.ob p=some (.cells cs)) (sB:off+n*z≤cs.length)
  (hy:∀g w v,Inv g S w→V g (ρ y) v→Given g w v z m ps) (hm:0<m) (hf:S.fr q) (hb:(n+m)*b≤140737488355328) (sy:n+m≤maxLen):gJ P o ρ S (S.new q (.cells ((cs.drop off).take (n*z)++ps))) (.tw (.loc q) z):=
 .app ho fun g w a hI e1 e2=>by
  rcases hx g w _ hI e1 with ⟨ad,hu,rfl⟩ | ⟨bk,s,d,hg,hu,hd⟩
  ·rw [hu,Nat.zero_mul,List.take_zero,List.nil_append]
   exact nc ad hT hE hI (hy g w _ hI e2) hf (by simpa using hb) (by simpa using sy)
  obtain ⟨i,t1,t2,t3,t4,t5,t6⟩:=hE
  subst t3 t4
  obtain ⟨A2,oQ,us,xV,tG,qb,J0⟩:=hy g w _ hI e2
  rw [hu,xV]
  obtain ⟨LA,rfl,ph⟩:=J0 hm
  rcases hI.cells p cs hp with ⟨k1,_⟩ | ⟨b',t,k1,cur,ty,k2,sW,k3⟩
  ·rw [k1] at hg;cases hg
  rw [k1] at hg;simp at hg
  obtain ⟨rfl,rfl⟩:=hg
  have Am:=grownCap_ge w (n+m) n E'
  have RR:=grownCap_le_maxLen w (n+m) n E' sy
  obtain ⟨os,h1,h2,h3⟩:=rO (off:=off) (n:=n*i.size) k2 k3 sB
  have BB:∀j v,os[j]?=some v→w.cell? ((⟨b',d,none⟩:Addr).add j)=some v:=fun j v hj=>by
   by_cases Lv:n=0
   ·subst Lv
    have RG:os=[]:=zZ (by rw [h2];simp)
    rw [RG] at hj
    simp at hj
   ·obtain rfl:=hd Lv;exact h3 j v hj
  have hr:=run_append_grow (P:=P) w T o.type E' i zv hT t1 t2 ⟨b',d,none⟩ n n os h2 BB LA m oQ us qb ph (by omega) (by simp only [maxLen] at sy;omega) (growslice_fits (by omega) hb)
  have m6:(os.toArray++us.toArray++Builtin.zeroCells zv.cells (grownCap w (n+m) n E' - (n+m))).size=grownCap w (n+m) n E'*i.size:=by
   simp only [Array.size_append,List.size_toArray,size_zeroCells,t5,h2,qb,←Nat.add_mul]
   congr 1;omega
  have hle:(n+m)*i.size≤grownCap w (n+m) n E'*i.size:=zW _ Am
  have hlen:((cs.drop off).take (n*i.size)++ps).length=(n+m)*i.size:=by rw [zY,List.length_take,List.length_drop,Nat.min_eq_left (by omega),tG.1,qb,Nat.add_mul]
  obtain ⟨q1,q2⟩:=hI.drew.pN hf (cs:=(cs.drop off).take (n*i.size)++ps) (vs:=os.toArray++us.toArray++Builtin.zeroCells zv.cells (grownCap w (n+m) n E' - (n+m))) E' (by rw [m6,hlen];exact hle)
   (by have:=qc (ex:=(Builtin.zeroCells zv.cells (grownCap w (n+m) n E' - (n+m))).toList) h1 tG;simpa using this)
  exact ⟨_,_,_,hr,.tw (.loc q) i.size (n+m) _ _ _ (by rw [show (Ref.loc q).id=q from rfl,dG,hlen];rfl) Am RR (Nat.le_of_eq m6.symm) 0 (fun _=>rfl),q1,Inv.CH q2⟩
theorem Gn {T El:TypeId} {x:Operand} {z b p off n:Nat} {zv:Value} {zs cs:List A} (ho:o.op = .call { callee:=.builtin .clear,args:=#[x],argTypes:=#[T] }) (hT:P.underlying T=some (.slice El)) (hE:TI P El z b zv) (h0:0<z) (hz:Zs zs zv)
  (hx:∀g w v,Inv g S w→V g (ρ x) v→∃bk s cap d,g.cn p=some (some bk,s)∧v = .slice (some ⟨bk,d,none⟩) n cap∧(n≠0→d=off)) (hn:0<n) (hp:S.ob p=some (.cells cs)) (sB:off+n*z≤cs.length):gJ P o ρ S (S.set p (.cells (put cs off (tj n zs)))) .dI:=by
 intro g w a next Q hI hv K
 obtain ⟨bk,s,cap,d,hg,hu,hd⟩:=hx g w _ hI (hv x (by simp [ho,Op.operands,Call.operands]))
 obtain rfl:=hd (by omega)
 obtain ⟨i,t1,t2,t3,t4,t5,t6⟩:=hE
 subst t3 t4
 have Lj:zs.length=i.size:=by have:=(hz g).1;simp at this;omega
 have Ht:Vs g (tj n zs) (Builtin.zeroCells zv.cells n).toList:=by
  refine ⟨by rw [mb,Lj];simp [size_zeroCells,t5],fun j c x q1 q2=>?_⟩
  have hj:j<n*zs.length:=by have:=(zB.1 q1).1;rwa [mb] at this
  rw [AT hj] at q1
  have hm:j%zv.cells.size<zv.cells.size:=Nat.mod_lt _ (by omega)
  simp only [Builtin.zeroCells,Array.toList_map,Array.toList_range,zL,Option.map_eq_some_iff] at q2
  obtain ⟨k,hk,rfl⟩:=q2
  rw [List.getElem?_range (by rw [Lj,←t5] at hj;exact hj)] at hk
  obtain rfl:=Option.some.inj hk
  rw [getElem!_pos zv.cells _ hm]
  exact (hz g).2 _ c _ (by rw [Lj,←t5] at q1;exact q1) (by simp [hm])
 have hlen:(Builtin.zeroCells zv.cells n).toList.length=n*i.size:=by simp [size_zeroCells,t5]
 obtain ⟨cur,ty,k1,k2,k3,k4⟩:=hI.store (off:=d) hp hg Ht (by rw [Ht.1,hlen];exact sB)
 have qF:=run_storeCells_at P bk d ty (Builtin.zeroCells zv.cells n).toList 0 cur w k1 (by simpa using k2) Ht.one
 simp only [Nat.add_zero] at qF
 unfold Oper.wp
 obtain ⟨n0,rfl⟩:∃n0,n=n0+1:=⟨n-1,by omega⟩
 simp only [execOp,ho,resolve,invoke,builtin,Sem.run_bind,Sem.run_pure,Result.andThen_ok,List.map_toArray,List.map_cons,List.map_nil,hu,Builtin.clear_,List.getElem?_toArray,List.getElem?_cons_zero,run_underlying hT,zeroValue,typeInfo,run_program,t1,t2,qF]
 exact K _ g _ (.dI _) k3 k4
end
end
section
open Go.RowKit
def dep (ops:Array Oper) (i j:Nat):Bool:=
 match ops[i]? with
 | some o=>o.after.any fun e=>Region.binds .any e && e.on == j
 | none=>false
def fW (ops:Array Oper) (j:Nat):Option Tmp:=(ops[j]?).bind (·.dst)
def chk (ops:Array Oper):Bool:=
 (List.range ops.size).all fun i=>match ops[i]? with
  | none=>true
  | some o=>(o.after.all fun e=>!Region.binds .any e || decide (e.on<i)) &&
   (List.range ops.size).all fun j=>j == i || match fW ops j with
    | none=>true
    | some d=>(o.dst != some d) && (!(o.looksAt ops).contains d || dep ops i j || dep ops j i)
def ins (L:Nat→Bool) (i:Nat):Nat→Bool:=fun j=>j == i || L j
theorem Ext.drew (S:Hp) (g:G) (w:World):Ext S g w S g w.drew:=⟨.refl g,rfl,rfl,rfl,Nat.le_refl _,fun _ _ _=>rfl,fun _ h=>.inl h,fun _ _ h=>.inl h,fun _ h=>h,fun _ _ _ h=>.inl h,fun _ _ h=>.inl h⟩
structure St where
 t:Nat→A
 n:Nat
 ds:List Nat
 S:Hp
def FR (r:Option Nat):Fence:={ Fence.wide with round:=r }
theorem wC {r:Option Nat} {P:Program} {f:FuncId} {args:Array Value} {w:World} {Q:Ending→World→Prop} (h:Calls P f args w Q):CallsIn (FR r) 0 P f args w Q:=(callsIn_wide (n:=0)).2 h
def Hl (P:Program) (o:Oper) (ρ:Operand→A) (S S':Hp) (pv:A):Prop:=
  ∀(r:Option Nat) (g:G) (w:World) (a:Act) (next:Act→World→Prop) (Q:Exit→Act→World→Prop),Inv g S w→(∀x∈o.op.operands,V g (ρ x) (a.eval x)) →
   (∀v g' w',V g' pv v→Inv g' S' w'→Ext S g w S' g' w'→next (a.put o.dst v) w')→o.wpIn (FR r) 0 P a w next Q
theorem gJ.Rh {P:Program} {o:Oper} {ρ:Operand→A} {S S':Hp} {pv:A} (h:gJ P o ρ S S' pv) (hd:∀c,o.op≠.defer c):Hl P o ρ S S' pv:=by
 intro r g w a next Q hI hv K
 have h1:=h g w a next Q hI hv K
 refine ⟨fun f _=>trivial,?_⟩
 rw [Oper.semAt_eq _ _ _ hd]
 unfold Oper.wp at h1
 generalize (execOp a.eval o).run P w=res at h1 ⊢
 cases res with
 | ok x w'=>
  cases x<;>simp only [Oper.upon,Oper.uponIn] at h1 ⊢<;>first
   | exact h1
   | exact ⟨fun h=>by simp [FR,Fence.wide] at h,wC h1⟩
   | exact ⟨fun h=>by simp [FR,Fence.wide] at h,fun c cs _=>let ⟨v,w1,k1,k2⟩:=h1 c cs;⟨v,w1,k1,stepsIn_wide.2 k2⟩⟩
   | exact h1.elim
 | halt x w'=>cases x<;>simp only [Oper.upon,Oper.uponIn] at h1 ⊢<;>first | exact h1 | exact h1.elim
def sT (g:G) (ds:List Nat) (l:List Deferred):Prop:=ds.length=l.length∧∀(i d:Nat) (e:Deferred),ds[i]?=some d→l[i]?=some e→∃b s,g.cn d=some (some b,s)∧e={ target:=.collected b,args:=#[] }
theorem sT.mono {g g':G} (h:Le g g') {ds:List Nat} {l:List Deferred} (k:sT g ds l):sT g' ds l:=⟨k.1,fun i d e e1 e2=>let ⟨b,s,q1,q2⟩:=k.2 i d e e1 e2;⟨b,s,h.cn _ _ q1,q2⟩⟩
def St.put (st:St) (d:Option Tmp) (p:A):St:=
 match d with
 | some d=>{ st with t:=fun i=>if i=d then p else st.t i }
 | none=>st
def St.to (st:St) (S:Hp):St:={ st with S:=S }
def St.Cs (st:St) (z:Nat):Operand→A
 | .tmp t=>if t<st.n then st.t t else .dI
 | .const v=>.v v
 | .global _=>.dI
 | .func f=>.fn f [] []
def R (S0:Hp) (g0:G) (w0:World) (st:St) (a:Act) (w:World):Prop:=
 ∃g,Inv g st.S w∧Ext S0 g0 w0 st.S g w∧sT g st.ds a.defers∧a.tmps.size=st.n∧∀i,i<st.n→V g (st.t i) (a.tmps.getD i undef)
def lift (S0:Hp) (g0:G) (w0:World) (Q:Exit→St→Prop) (e:Exit) (a:Act) (w:World):Prop:=∃st,R S0 g0 w0 st a w∧Q e st
def pw (P:Program) (ro:Option Nat) (S0:Hp) (g0:G) (w0:World) (c:Code) (Q:Exit→St→Prop) (st:St):Prop:=∀a w,R S0 g0 w0 st a w→c.wpIn (FR ro) 0 P (lift S0 g0 w0 Q) a w
def Iz (P:Program) (ro:Option Nat) (S0:Hp) (g0:G) (w0:World) (ops:Array Oper) (Q:Exit→St→Prop) (l:List Oper) (st:St):Prop:=∀a w,R S0 g0 w0 st a w→wpListIn (FR ro) 0 P ops (lift S0 g0 w0 Q) l a w
section
variable {P:Program} {ro:Option Nat} {S0:Hp} {g0:G} {w0:World} {Q:Exit→St→Prop} {st:St} {ops:Array Oper}
theorem Cj {g:G} {a:Act} (_hs:a.tmps.size=st.n) (hv:∀i,i<st.n→V g (st.t i) (a.tmps.getD i undef)) (z:Nat) (x:Operand):V g (st.Cs z x) (a.eval x):=by
 cases x with
 | tmp t=>
  simp only [St.Cs,Act.eval]
  split
  ·exact hv t (by assumption)
  ·exact .dI _
 | const v=>exact .v v
 | global _=>exact .dI _
 | func f=>exact .fn f [] [] #[] #[] rfl rfl (by simp) (by simp)
theorem IB {g:G} {a:Act} {d:Option Tmp} {p:A} {v:Value} (hv:∀i,i<st.n→V g (st.t i) (a.tmps.getD i undef)) (h:V g p v) (hs:a.tmps.size=st.n) :
  ∀i,i<(st.put d p).n→V g ((st.put d p).t i) ((a.put d v).tmps.getD i undef):=by
 cases d with
 | none=>exact hv
 | some d=>
  intro i hi
  simp only [St.put,Act.put]
  by_cases RM:i=d
  ·subst RM
   have dP:i<a.tmps.size:=by rw [hs];exact hi
   simp only [if_true]
   rw [show (a.tmps.setIfInBounds i v).getD i undef=v by simp [Array.getD,dP]]
   exact h
  ·simp only [if_neg RM]
   rw [show (a.tmps.setIfInBounds d v).getD i undef=a.tmps.getD i undef by
    simp only [Array.getD_eq_getD_getElem?]
    rw [Array.getElem?_setIfInBounds_ne (fun h=>RM h.symm)]]
   exact hv i hi
theorem AD (a:Act) (d:Option Tmp) (v:Value):(a.put d v).tmps.size=a.tmps.size:=by cases d<;>simp [Act.put]
theorem wv (a:Act) (d:Option Tmp) (v:Value):(a.put d v).defers=a.defers:=by cases d<;>rfl
theorem R.put {a:Act} {w w':World} {g g':G} {S':Hp} {d:Option Tmp} {p:A} {v:Value} (h1:Ext S0 g0 w0 st.S g w) (h2:sT g st.ds a.defers) (h3:a.tmps.size=st.n) (h4:∀i,i<st.n→V g (st.t i) (a.tmps.getD i undef))
  (hv:V g' p v) (hI:Inv g' S' w') (hE:Ext st.S g w S' g' w'):R S0 g0 w0 ((st.put d p).to S') (a.put d v) w':=by
 refine ⟨g',hI,h1.trans hE,by rw [wv];cases d<;>exact h2.mono hE.le,by rw [AD,h3];cases d<;>rfl,?_⟩
 exact IB (fun i hi=>(h4 i hi).mono hE.le) hv h3
theorem L7 (h:Q .normal st):Iz P ro S0 g0 w0 ops Q [] st:=fun _ _ hr=>⟨st,hr,h⟩
theorem Iy {o:Oper} {rest:List Oper} {pv:A} {S':Hp} (z:Nat) (hg:o.guard=none) (h:Hl P o (st.Cs z) st.S S' pv) (k:Iz P ro S0 g0 w0 ops Q rest ((st.put o.dst pv).to S')):Iz P ro S0 g0 w0 ops Q (o::rest) st:=by
 intro a w hr
 obtain ⟨g,h0,h1,h2,h3,h4⟩:=hr
 refine wpListIn_plain hg (fun K hK=>?_)
 exact h ro g w a K _ h0 (fun x _=>Cj h3 h4 z x) (fun v g' w' hv hI hE=>hK _ _ (k _ _ (R.put h1 h2 h3 h4 hv hI hE)))
def pk (ops:Array Oper) (st:St) (j:Nat) (want:Bool):Option Bool:=
 match (ops[j]?).bind (·.dst) with
 | some d=>match st.Cs 0 (.tmp d) with
  | .v (.bool b)=>some (b == want)
  | .un=>some false
  | _=>none
 | none=>none
theorem tb {g:G} {a:Act} {o:Oper} {j:Nat} {want b:Bool} (hs:a.tmps.size=st.n) (hv:∀i,i<st.n→V g (st.t i) (a.tmps.getD i undef)) (hg:o.guard=some (j,want)) (h:pk ops st j want=some b) :
  Region.wanted o (yielded ops a.tmps)=b:=by
 unfold pk at h
 split at h
 ·rename_i d hd
  have TC:=Cj (st:=st) hs hv 0 (.tmp d)
  simp only [Act.eval] at TC
  split at h
  ·rename_i b' hb
   cases h
   rw [hb] at TC
   have:=TC.jq
   rw [Array.getD_eq_getD_getElem?] at this
   cases ht:a.tmps[d]? with
   | none=>rw [ht] at this;cases this
   | some u=>
    rw [ht] at this
    simp only [Option.getD_some] at this
    subst this
    simp only [Region.wanted,hg,yielded,hd,Option.bind_some,ht]
    cases b'<;>cases want<;>rfl
  ·rename_i hb
   cases h
   rw [hb] at TC
   generalize hu:a.tmps.getD d undef=u at TC
   cases TC
   rw [Array.getD_eq_getD_getElem?] at hu
   simp only [Region.wanted,hg,yielded,hd,Option.bind_some]
   cases ht:a.tmps[d]? with
   | none=>simp
   | some u=>
    rw [ht] at hu
    simp only [Option.getD_some] at hu
    subst hu
    rfl
  ·cases h
 ·cases h
theorem yH (d:Option Tmp) (p:A):(st.put d p).to st.S=st.put d p:=by cases d<;>rfl
theorem yF {o:Oper} {rest:List Oper} {pv:A} {S':Hp} {j:Nat} {want:Bool} (z:Nat) (hg:o.guard=some (j,want)) (hb:pk ops st j want=some true) (h:Hl P o (st.Cs z) st.S S' pv)
  (k:Iz P ro S0 g0 w0 ops Q rest ((st.put o.dst pv).to S')):Iz P ro S0 g0 w0 ops Q (o::rest) st:=by
 intro a w hr
 obtain ⟨g,h0,h1,h2,h3,h4⟩:=hr
 refine wpListIn_step (fun K hK=>?_)
 rw [tb h3 h4 hg hb,if_pos rfl]
 exact h ro g w a K _ h0 (fun x _=>Cj h3 h4 z x) (fun v g' w' hv hI hE=>hK _ _ (k _ _ (R.put h1 h2 h3 h4 hv hI hE)))
theorem A8 {o:Oper} {rest:List Oper} {j:Nat} {want:Bool} (hg:o.guard=some (j,want)) (hb:pk ops st j want=some false) (k:Iz P ro S0 g0 w0 ops Q rest (st.put o.dst .un)):Iz P ro S0 g0 w0 ops Q (o::rest) st:=by
 intro a w hr
 obtain ⟨g,h0,h1,h2,h3,h4⟩:=hr
 refine wpListIn_step (fun K hK=>?_)
 rw [tb h3 h4 hg hb,if_neg (by simp)]
 exact ⟨fun _ _=>trivial,hK _ _ (k _ _ (by have:=R.put (S':=st.S) (d:=o.dst) h1 h2 h3 h4 .un h0 (.refl _ g w);rwa [yH] at this))⟩
theorem Gc {id:Nat} {l:List Oper} (h:Iz P ro S0 g0 w0 l.toArray Q l st):pw P ro S0 g0 w0 (.region id l.toArray false) Q st:=fun a w hr=>wpIn_region_lit (h a w hr)
def andThen (K:St→Prop) (Q:Exit→St→Prop):Exit→St→Prop
 | .normal,st=>K st
 | e,st=>Q e st
theorem yG {x y:Code} (h:pw P ro S0 g0 w0 x (andThen (fun st=>pw P ro S0 g0 w0 y Q st) Q) st):pw P ro S0 g0 w0 (.seq x y) Q st:=fun a w hr=>wpIn_seq (wpIn_mono (h a w hr) (fun e a w hl=>by
 obtain ⟨st,h1,h2⟩:=hl
 cases e with
 | normal=>exact h2 a w h1
 | _=>exact ⟨st,h1,h2⟩))
theorem L8 (h:Q .normal st):pw P ro S0 g0 w0 .skip Q st:=fun _ _ hr=>wpIn_skip ⟨st,hr,h⟩
theorem Q4 (h:Q .ret st):pw P ro S0 g0 w0 .ret Q st:=fun _ _ hr=>wpIn_ret ⟨st,hr,h⟩
theorem L9 {id:Nat} (h:Q (.exit id) st):pw P ro S0 g0 w0 (.exit id) Q st:=fun _ _ hr=>wpIn_exit ⟨st,hr,h⟩
theorem Eu {c:Operand} {x y:Code} {b:Bool} (hc:st.Cs 0 c = .v (.bool b)) (h1:b=true→pw P ro S0 g0 w0 x Q st) (h2:b=false→pw P ro S0 g0 w0 y Q st):pw P ro S0 g0 w0 (.cond c x y) Q st:=by
 intro a w hr
 have Dp:=hr
 obtain ⟨g,_,_,_,h5,h6⟩:=Dp
 have:=Cj h5 h6 0 c
 rw [hc] at this
 exact wpIn_cond_split this.jq (fun h=>h1 h a w hr) (fun h=>h2 h a w hr)
def inBlock (id:Nat) (Q:Exit→St→Prop):Exit→St→Prop
 | .exit id',st=>if id'=id then Q .normal st else Q (.exit id') st
 | e,st=>Q e st
theorem vp {id:Nat} {c:Code} (h:pw P ro S0 g0 w0 c (inBlock id Q) st):pw P ro S0 g0 w0 (.block id c) Q st:=fun a w hr=>wpIn_block (wpIn_mono (h a w hr) (fun e a w hl=>by
 obtain ⟨st,h1,h2⟩:=hl
 cases e with
 | exit id'=>
  simp only [inBlock] at h2
  simp only [Exit.inBlock]
  split at h2
  ·rename_i RM;rw [if_pos RM];exact ⟨st,h1,h2⟩
  ·rename_i RM;rw [if_neg RM];exact ⟨st,h1,h2⟩
 | _=>exact ⟨st,h1,h2⟩))
end
structure LG (ops:Array Oper) (i:Nat) (L:Nat→Bool):Prop where
 new:L i=false
 lt:∀j,L j=true→j<ops.size
 Nw:∀j,dep ops i j=true→L j=true
 down:∀k j,L k=true→dep ops k j=true→L j=true
theorem LG.YG {ops:Array Oper} {i:Nat} {L:Nat→Bool} (h:LG ops i L) {j:Nat} (hd:dep ops j i=true):L j=false:=by
 cases hj:L j with
 | false=>rfl
 | true=>have:=h.down j i hj hd;rw [h.new] at this;cases this
def xz (P:Program) (ops:Array Oper) (Sf:(Nat→Bool)→Hp) (i:Nat) (o:Oper) (st:St) (pv:A):Prop:=
 match o.guard with
 | none=>∃z,∀L,LG ops i L→Hl P o (st.Cs z) (Sf L) (Sf (ins L i)) pv
 | some (j,want)=>(pk ops st j want=some true∧∃z,∀L,LG ops i L→Hl P o (st.Cs z) (Sf L) (Sf (ins L i)) pv) ∨
   (pk ops st j want=some false∧(∀g,V g pv undef)∧∀L,LG ops i L→Sf (ins L i)=Sf L)
def wu (P:Program) (ops:Array Oper) (Sf:(Nat→Bool)→Hp):List Oper→Nat→St→(St→Prop)→Prop
 | [],_,st,K=>K st
 | o::l,i,st,K=>∃pv,xz P ops Sf i o st pv∧wu P ops Sf l (i+1) (st.put o.dst pv) K
def qz (ops:Array Oper) (pv:Nat→A) (st:St):Nat→St
 | 0=>st
 | i+1=>(qz ops pv st i).put (fW ops i) (pv i)
theorem yc {P:Program} {ops:Array Oper} {Sf:(Nat→Bool)→Hp}:∀(l:List Oper) (k:Nat) (Eh:St) (IA:Nat→A) (K:St→Prop),(∀j,l[j]?=ops[k+j]?)→wu P ops Sf l k (qz ops IA Eh k) K →
  ∃pv:Nat→A,(∀j,j<k→pv j=IA j)∧(∀i o,k≤i→ops[i]?=some o→xz P ops Sf i o (qz ops pv Eh i) (pv i))∧K (qz ops pv Eh (k+l.length))
 | [],k,Eh,IA,K,hl,h=>⟨IA,fun _ _=>rfl,fun i o hk ho=>by
   have:=hl (i-k)
   rw [show k+(i-k)=i by omega,ho] at this
   simp at this,h⟩
 | o::l,k,Eh,IA,K,hl,h=>by
  obtain ⟨p,h1,h2⟩:=h
  have ho:ops[k]?=some o:=by simpa using (hl 0).symm
  have Qj:∀(pv1 pv2:Nat→A) i,(∀j,j<i→pv1 j=pv2 j)→qz ops pv1 Eh i=qz ops pv2 Eh i:=by
   intro pv1 pv2 i
   induction i with
   | zero=>intro _;rfl
   | succ i ih=>intro hh;simp only [qz];rw [ih (fun j hj=>hh j (by omega)),hh i (by omega)]
  have e1:qz ops (fun j=>if j=k then p else IA j) Eh k=qz ops IA Eh k:=Qj _ _ k (fun j hj=>if_neg (by omega))
  have qF:qz ops (fun j=>if j=k then p else IA j) Eh (k+1)=(qz ops IA Eh k).put o.dst p:=by
   simp only [qz,e1,fW,ho,Option.bind_some,if_true]
  obtain ⟨pv,k1,k2,k3⟩:=yc l (k+1) Eh (fun j=>if j=k then p else IA j) K (fun j=>by have:=hl (j+1);simpa [Nat.add_assoc,Nat.add_comm 1 j] using this) (by rw [qF];exact h2)
  refine ⟨pv,fun j hj=>by rw [k1 j (by omega),if_neg (by omega)],fun i o' hi JM=>?_,by rw [zR,show k+(l.length+1)=k+1+l.length by omega];exact k3⟩
  by_cases RL:i=k
  ·subst RL
   rw [ho] at JM
   cases JM
   rw [show qz ops pv Eh i=qz ops IA Eh i from Qj _ _ i (fun j hj=>by rw [k1 j (by omega),if_neg (by omega)]),show pv i=p by rw [k1 i (by omega),if_pos rfl]]
   exact h1
  ·exact k2 i o' (by omega) JM
theorem AA {ops:Array Oper} {pv:Nat→A} {st:St}:∀i,(qz ops pv st i).n=st.n
 | 0=>rfl
 | i+1=>by
  have ih:=AA (ops:=ops) (pv:=pv) (st:=st) i
  simp only [qz]
  cases fW ops i<;>exact ih
theorem HQ {ops:Array Oper} {pv:Nat→A} {st:St}:∀i,(qz ops pv st i).ds=st.ds
 | 0=>rfl
 | i+1=>by
  have ih:=HQ (ops:=ops) (pv:=pv) (st:=st) i
  simp only [qz]
  cases fW ops i<;>exact ih
theorem rD {ops:Array Oper} {pv:Nat→A} {st:St} {d:Nat}:∀i,(∀j,fW ops j≠some d)→(qz ops pv st i).t d=st.t d
 | 0,_=>rfl
 | i+1,h=>by
  simp only [qz]
  cases hd:fW ops i with
  | none=>exact rD i h
  | some e=>
   simp only [St.put]
   rw [if_neg (fun he=>h i (by rw [hd,he]))]
   exact rD i h
theorem qI {ops:Array Oper} {pv:Nat→A} {st:St} {d w:Nat} (hw:fW ops w=some d) (hu:∀j,fW ops j=some d→j=w):∀i,(qz ops pv st i).t d=if w<i then pv w else st.t d
  | 0=>by simp [qz]
  | i+1=>by
    simp only [qz]
    have ih:=qI (pv:=pv) (st:=st) hw hu i
    cases hd:fW ops i with
    | none=>
      simp only [St.put]
      rw [ih]
      by_cases h:w<i
      · rw [if_pos h,if_pos (by omega)]
      · rw [if_neg h,if_neg (by
                                 intro h2;have:w=i:=by omega
                                 subst this;rw [hw] at hd;cases hd)]
    | some e=>
      simp only [St.put]
      by_cases he:d=e
      · subst he
        have:i=w:=hu i hd
        subst this
        rw [if_pos rfl,if_pos (by omega)]
      · rw [if_neg he,ih]
        by_cases h:w<i
        · rw [if_pos h,if_pos (by omega)]
        · rw [if_neg h,if_neg (by
                                   intro h2;have:w=i:=by omega
                                   subst this;rw [hw] at hd;cases hd;exact he rfl)]
section
variable {P:Program} {ro:Option Nat} {S0:Hp} {g0:G} {w0:World} {Q:Exit→St→Prop} {st:St}
theorem mq {ops:Array Oper} (h:chk ops=true) {i:Nat} {o:Oper} (ho:ops[i]?=some o) :
  (∀e∈o.after,Region.binds .any e=true→e.on<i)∧(∀j d,j≠i→fW ops j=some d→o.dst≠some d∧(d∈o.looksAt ops→dep ops i j=true∨dep ops j i=true)):=by
 have hi:i<ops.size:=(Array.getElem?_eq_some_iff.1 ho).1
 simp only [chk,List.all_eq_true,List.mem_range] at h
 have h1:=h i hi
 simp only [ho,zC] at h1
 refine ⟨fun e he hb=>?_,fun j d hj hd=>?_⟩
 ·have:=Array.all_eq_true_iff_forall_mem.1 h1.1 e he
  simpa [hb] using this
 ·have hjs:j<ops.size:=by
   rcases Nat.lt_or_ge j ops.size with h | h
   ·exact h
   ·simp [fW,Array.getElem?_eq_none h] at hd
  have h2:=h1.2
  rw [List.all_eq_true] at h2
  have h3:=h2 j (List.mem_range.2 hjs)
  simp only [hd,Bool.or_eq_true,beq_iff_eq,hj,false_or,zC,bne_iff_ne,ne_eq] at h3
  refine ⟨h3.1,fun hm=>?_⟩
  rcases h3.2 with (h4 | h4) | h4
  ·simp [hm] at h4
  ·exact .inl h4
  ·exact .inr h4
structure Fr (ops:Array Oper) (pv:Nat→A) (st:St) (L:Nat→Bool) (g:G) (a:Act):Prop where
 size:a.tmps.size=st.n
 none:∀d,d<st.n→(∀j,fW ops j≠some d)→V g (st.t d) (a.tmps.getD d undef)
 some:∀d w,d<st.n→fW ops w=some d→V g (if L w=true then pv w else st.t d) (a.tmps.getD d undef)
theorem DE {ops:Array Oper} {s1 s2:St} {j:Nat} {want:Bool} (h:∀d,fW ops j=some d→s1.Cs 0 (.tmp d)=s2.Cs 0 (.tmp d)):pk ops s1 j want=pk ops s2 j want:=by
 unfold pk
 cases hd:(ops[j]?).bind (·.dst) with
 | none=>rfl
 | some d=>simp only [h d hd]
theorem Kt {ops:Array Oper} {Sf:(Nat→Bool)→Hp} {pv:Nat→A} (hc:chk ops=true) (YQ:∀i o,ops[i]?=some o→xz P ops Sf i o (qz ops pv st i) (pv i))
    (hQ:Q .normal ((qz ops pv st ops.size).to (Sf fun j=>decide (j<ops.size)))) :
    ∀(fuel:Nat) (bP:Array Bool) (a:Act) (w:World) (g:G),bP.size=ops.size→(ops.size≤fuel+(List.range ops.size).countP fun j=>bP.getD j false) →
      (∀k j,bP.getD k false=true→dep ops k j=true→bP.getD j false=true)→Inv g (Sf fun j=>bP.getD j false) w→Ext S0 g0 w0 (Sf fun j=>bP.getD j false) g w→sT g st.ds a.defers→Fr ops pv st (fun j=>bP.getD j false) g a →
      wpAnyIn (FR ro) 0 P .any ops (lift S0 g0 w0 Q) fuel bP a w:=by
  have fin:∀(bP:Array Bool) (a:Act) (w:World) (g:G),bP.size=ops.size→(∀k,k<ops.size→bP.getD k false=true)→Inv g (Sf fun j=>bP.getD j false) w→Ext S0 g0 w0 (Sf fun j=>bP.getD j false) g w→sT g st.ds a.defers →
      Fr ops pv st (fun j=>bP.getD j false) g a→lift S0 g0 w0 Q .normal a w:=by
    intro bP a w g vT lb hI hE hd hF
    have hL:(fun j=>bP.getD j false)=fun j=>decide (j<ops.size):=by
      funext j
      by_cases hj:j<ops.size
      · rw [lb j hj];simp [hj]
      · rw [show bP.getD j false=false by simp [Array.getD,show ¬j<bP.size by omega]];simp [hj]
    rw [hL] at hI hE
    refine ⟨(qz ops pv st ops.size).to (Sf fun j=>decide (j<ops.size)),⟨g,hI,hE,by show sT g (qz ops pv st ops.size).ds a.defers;rw [HQ];exact hd,by rw [hF.size];exact (AA _).symm,fun d Ao=>?_⟩,hQ⟩
    have Zc:d<st.n:=by have h:=Ao;simp only [St.to,AA] at h;exact h
    show V g ((qz ops pv st ops.size).t d) _
    by_cases hw:∃w,fW ops w=some d
    · obtain ⟨u,hu⟩:=hw
      have y_:u<ops.size:=by
        rcases Nat.lt_or_ge u ops.size with h | h
        · exact h
        · simp [fW,Array.getElem?_eq_none h] at hu
      have JD:∀j,fW ops j=some d→j=u:=fun j hj=>by
        rcases Nat.lt_or_ge j ops.size with h | h
        · by_cases Y4:j=u
          · exact Y4
          · have:=(mq hc (i:=j) (o:=ops[j]) (by simp [h])).2 u d (fun e=>Y4 e.symm) hu
            exact absurd (by simpa [fW,h] using hj) this.1
        · simp [fW,Array.getElem?_eq_none h] at hj
      rw [qI hu JD,if_pos y_]
      have:=hF.some d u Zc hu
      rwa [if_pos (lb u y_)] at this
    · have Lq:∀j,fW ops j≠some d:=fun j hj=>hw ⟨j,hj⟩
      rw [rD _ Lq]
      exact hF.none d Zc Lq
  have F9:∀(bP:Array Bool),bP.size=ops.size→Region.ready .any ops bP=[]→∀k,k<ops.size→bP.getD k false=true:=by
    intro bP vT hr k
    induction k using Nat.strongRecOn with
    | _ k ih=>
      intro hk
      cases hx:bP.getD k false with
      | true=>rfl
      | false=>
        have:k∈Region.ready .any ops bP:=mem_ready.2 ⟨by
          have dP:k<bP.size:=by omega
          simpa [Array.getD,dP] using hx,ops[k],by simp [hk],fun e he hb=>?_⟩
        · rw [hr] at this;cases this
        · have:=(mq hc (i:=k) (o:=ops[k]) (by simp [hk])).1 e he hb
          exact ih e.on this (by omega)
  intro fuel
  induction fuel with
  | zero=>
    intro bP a w g vT aeQ JY hI hE hd hF
    have lb:∀k,k<ops.size→bP.getD k false=true:=by
      have h1:(List.range ops.size).countP (fun j=>bP.getD j false)=(List.range ops.size).length:=by
        have:=List.countP_le_length (p:=fun j=>bP.getD j false) (l:=List.range ops.size)
        simp only [List.length_range] at this ⊢
        omega
      have:=List.countP_eq_length.1 h1
      exact fun k hk=>this k (List.mem_range.2 hk)
    refine ⟨?_,fin bP a w g vT lb hI hE hd hF⟩
    cases hr:Region.ready .any ops bP with
    | nil=>rfl
    | cons k r=>
      have hk:k∈Region.ready .any ops bP:=by rw [hr];exact zV ..
      obtain ⟨h1,o,ho,_⟩:=mem_ready.1 hk
      have hks:=(Array.getElem?_eq_some_iff.1 ho).1
      have:=lb k hks
      have dP:k<bP.size:=by omega
      simp [Array.getD,dP] at h1 this
      rw [h1] at this;cases this
  | succ fuel ih=>
    intro bP a w g vT aeQ JY hI hE hd hF
    refine ⟨fun hr=>fin bP a w g vT (F9 bP vT hr) hI hE hd hF,fun i hi=>?_⟩
    obtain ⟨h1,o,ho,h2⟩:=mem_ready.1 hi
    have Dx:i<ops.size:=(Array.getElem?_eq_some_iff.1 ho).1
    have dP:i<bP.size:=by omega
    have JP:bP.getD i false=false:=by simpa [Array.getD,dP] using h1
    have DB:LG ops i (fun j=>bP.getD j false):=⟨JP,fun j hj=>by
      rcases Nat.lt_or_ge j bP.size with h | h
      · omega
      · simp [Array.getD,Nat.not_lt.2 h] at hj,fun j hj=>by
      simp only [dep,ho] at hj
      obtain ⟨e,he,hb⟩:=Array.any_eq_true'.1 hj
      simp only [zC,beq_iff_eq] at hb
      rw [←hb.2]
      exact h2 e he hb.1,JY⟩
    have xZ:(fun j=>(bP.setIfInBounds i true).getD j false)=ins (fun j=>bP.getD j false) i:=by
      funext j
      by_cases hji:j=i
      · subst hji;simp [ins,dP]
      · simp only [ins]
        rw [getD_set_ne false (fun h=>hji h.symm)]
        simp [hji]
    have P_:∀d,d∈o.looksAt ops→d<st.n→V g ((qz ops pv st i).t d) (a.tmps.getD d undef):=by
      intro d hdl Ao
      by_cases hw:∃w,fW ops w=some d
      · obtain ⟨u,hu⟩:=hw
        have JD:∀j,fW ops j=some d→j=u:=fun j hj=>by
          rcases Nat.lt_or_ge j ops.size with h | h
          · by_cases Y4:j=u
            · exact Y4
            · have:=(mq hc (i:=j) (o:=ops[j]) (by simp [h])).2 u d (fun e=>Y4 e.symm) hu
              exact absurd (by simpa [fW,h] using hj) this.1
          · simp [fW,Array.getElem?_eq_none h] at hj
        have hv:=hF.some d u Ao hu
        rw [qI hu JD]
        by_cases MP:u=i
        · subst MP
          rw [if_neg (Nat.lt_irrefl _)]
          rwa [if_neg (by simp only [JP];simp)] at hv
        · rcases ((mq hc ho).2 u d MP hu).2 hdl with h | h
          · have hLu:=DB.Nw u h
            have M1:u<i:=by
              simp only [dep,ho] at h
              obtain ⟨e,he,hb⟩:=Array.any_eq_true'.1 h
              simp only [zC,beq_iff_eq] at hb
              rw [←hb.2];exact (mq hc ho).1 e he hb.1
            rw [if_pos M1]
            rwa [if_pos hLu] at hv
          · have hLu:=DB.YG h
            have y_:u<ops.size:=by
              rcases Nat.lt_or_ge u ops.size with h | h
              · exact h
              · simp [fW,Array.getElem?_eq_none h] at hu
            have M1:i<u:=by
              simp only [dep,show ops[u]?=some ops[u] by simp [y_]] at h
              obtain ⟨e,he,hb⟩:=Array.any_eq_true'.1 h
              simp only [zC,beq_iff_eq] at hb
              rw [←hb.2];exact (mq hc (i:=u) (o:=ops[u]) (by simp [y_])).1 e he hb.1
            rw [if_neg (by omega)]
            rwa [if_neg (by rw [hLu];simp)] at hv
      · have Lq:∀j,fW ops j≠some d:=fun j hj=>hw ⟨j,hj⟩
        rw [rD _ Lq]
        exact hF.none d Ao Lq
    have kR:∀z,∀x∈o.op.operands,V g ((qz ops pv st i).Cs z x) (a.eval x):=by
      intro z x hx
      cases x with
      | tmp t=>
        simp only [St.Cs,Act.eval,AA]
        split
        · refine P_ t ?_ (by assumption)
          exact zQ _ (List.mem_filterMap.2 ⟨.tmp t,by simpa using hx,rfl⟩)
        · exact .dI _
      | const v=>exact .v v
      | global _=>exact .dI _
      | func f=>exact .fn f [] [] #[] #[] rfl rfl (by simp) (by simp)
    have next:∀v g' w',V g' (pv i) v→Inv g' (Sf (ins (fun j=>bP.getD j false) i)) w'→Ext (Sf fun j=>bP.getD j false) g w (Sf (ins (fun j=>bP.getD j false) i)) g' w'→wpAnyIn (FR ro) 0 P .any ops (lift S0 g0 w0 Q) fuel (bP.setIfInBounds i true) (a.put o.dst v) w':=by
      intro v g' w' hv Hz M_
      refine ih (bP.setIfInBounds i true) (a.put o.dst v) w' g' (by simp [vT]) ?_ ?_ (by rw [xZ];exact Hz) (by rw [xZ];exact hE.trans M_) (by rw [wv];exact hd.mono M_.le) ?_
      · rw [show (fun j=>(bP.setIfInBounds i true).getD j false)=ins (fun j=>bP.getD j false) i from xZ]
        have aeP:(List.range ops.size).countP (fun j=>bP.getD j false)<(List.range ops.size).countP (ins (fun j=>bP.getD j false) i):=by
          have hle:∀(l:List Nat),l.countP (fun j=>bP.getD j false)≤l.countP (ins (fun j=>bP.getD j false) i):=fun l=>List.countP_mono_left (fun j _ hj=>by simp only [ins];rw [Bool.or_eq_true];exact .inr hj)
          have MQ:∀(l:List Nat),i∈l→l.countP (fun j=>bP.getD j false)<l.countP (ins (fun j=>bP.getD j false) i):=by
            intro l
            induction l with
            | nil=>intro h;cases h
            | cons x l ihl=>
              intro hm
              simp only [List.countP_cons]
              by_cases YL:x=i
              · subst YL
                have:=hle l
                have e1:(if (fun j=>bP.getD j false) x=true then 1 else 0)=0:=if_neg (by simp only [JP];simp)
                have e2:(if ins (fun j=>bP.getD j false) x x=true then 1 else 0)=1:=if_pos (by simp [ins])
                have h3:=Nat.lt_succ_of_le this
                simp only at e1
                rw [e2,e1]
                exact h3
              · have:=ihl (by
                                rcases List.mem_cons.1 hm with h | h
                                · exact absurd h.symm YL
                                · exact h)
                have e:ins (fun j=>bP.getD j false) i x=bP.getD x false:=by simp [ins,YL]
                rw [e]
                exact Nat.add_lt_add_right this _
          exact MQ _ (List.mem_range.2 Dx)
        omega
      · intro k j hk hkj
        have Dw:ins (fun j=>bP.getD j false) i k=true:=by rw [←xZ];exact hk
        have:ins (fun j=>bP.getD j false) i j=true:=by
          simp only [ins,Bool.or_eq_true,beq_iff_eq] at Dw ⊢
          rcases Dw with rfl | Dw
          · exact .inr (DB.Nw j hkj)
          · exact .inr (JY k j Dw hkj)
        rw [←xZ] at this;exact this
      · rw [xZ]
        refine ⟨by rw [AD];exact hF.size,fun d Ao Lq=>?_,fun d u Ao hu=>?_⟩
        · have jI:o.dst≠some d:=fun h=>Lq i (by simp [fW,ho,h])
          have:(a.put o.dst v).tmps.getD d undef=a.tmps.getD d undef:=by
            cases JX:o.dst with
            | none=>rfl
            | some e=>
              simp only [Act.put,Array.getD_eq_getD_getElem?]
              rw [Array.getElem?_setIfInBounds_ne (fun h=>jI (by rw [JX,h]))]
          rw [this];exact (hF.none d Ao Lq).mono M_.le
        · by_cases MP:u=i
          · subst MP
            have JX:o.dst=some d:=by simpa [fW,ho] using hu
            have M1:d<a.tmps.size:=by rw [hF.size];exact Ao
            rw [show (a.put o.dst v).tmps.getD d undef=v by simp [JX,Act.put,Array.getD,M1]]
            simp only [ins,beq_self_eq_true,Bool.true_or,if_true]
            exact hv
          · have jI:o.dst≠some d:=((mq hc ho).2 u d MP hu).1
            have:(a.put o.dst v).tmps.getD d undef=a.tmps.getD d undef:=by
              cases JX:o.dst with
              | none=>rfl
              | some e=>
                simp only [Act.put,Array.getD_eq_getD_getElem?]
                rw [Array.getElem?_setIfInBounds_ne (fun h=>jI (by rw [JX,h]))]
            rw [this]
            have:=(hF.some d u Ao hu).mono M_.le
            simpa [ins,MP] using this
    have M4:∀j want b,o.guard=some (j,want)→pk ops (qz ops pv st i) j want=some b→Region.wanted o (yielded ops a.tmps)=b:=by
      intro j want b hg hb
      refine tb (st:={ t:=fun d=>if fW ops j=some d then (qz ops pv st i).t d else .dI,n:=st.n,ds:=st.ds,S:=st.S }) (g:=g) hF.size (fun d Ao=>?_) hg ?_
      · show V g (if fW ops j=some d then _ else _) _
        split
        · rename_i hj
          refine P_ d ?_ Ao
          unfold Oper.looksAt
          refine zS _ ?_
          simp only [hg]
          simp only [fW] at hj
          rw [hj];simp
        · exact .dI _
      · rw [←hb]
        refine DE (fun d hj=>?_)
        simp only [St.Cs,AA]
        split
        · first | rfl | simp [hj]
        · rfl
    have hs:=YQ i o ho
    unfold wpOpIn
    simp only [ho]
    unfold xz at hs
    cases hg:o.guard with
    | none=>
      rw [hg] at hs
      obtain ⟨z,hs⟩:=hs
      rw [if_pos (by simp [Region.wanted,hg])]
      exact hs _ DB ro g w a _ _ hI (kR z) next
    | some jw=>
      obtain ⟨j,want⟩:=jw
      rw [hg] at hs
      rcases hs with ⟨hb,z,hs⟩ | ⟨hb,hp,hs⟩
      · rw [if_pos (M4 j want true hg hb)]
        exact hs _ DB ro g w a _ _ hI (kR z) next
      · rw [if_neg (by rw [M4 j want false hg hb];simp)]
        exact ⟨fun _ _=>trivial,next undef g w (hp g) (by rw [hs _ DB];exact hI) (by rw [hs _ DB];exact .refl _ g w)⟩
theorem L_ {id:Nat} {l:List Oper} (Sf:(Nat→Bool)→Hp) (hm:P.follows .mixedOrders=true) (hc:chk l.toArray=true) (h0:Sf (fun _=>false)=st.S)
  (h:wu P l.toArray Sf l 0 st (fun LP=>Q .normal (LP.to (Sf fun j=>decide (j<l.length))))):pw P ro S0 g0 w0 (.region id l.toArray true) Q st:=by
 intro a w hr
 obtain ⟨g,hI,hE,hd,hs,hv⟩:=hr
 obtain ⟨pv,_,h2,h3⟩:=yc (ops:=l.toArray) l 0 st (fun _=>.dI) _ (fun j=>by simp) h
 refine wpIn_region_any hm ?_
 have hLf:(fun j=>(Array.replicate l.toArray.size false).getD j false)=fun _=>false:=by
  funext j
  by_cases hj:j<l.length<;>simp [Array.getD,hj]
 refine Kt (pv:=pv) hc (fun i o ho=>h2 i o (Nat.zero_le _) ho) (by simpa using h3) _ _ a w.drew g (by simp) (by omega) (fun k j hk _=>?_) (by rw [hLf,h0];exact hI.drew) (by rw [hLf,h0];exact hE.trans (.drew _ g w)) hd ⟨hs,fun d Ao _=>hv d Ao,fun d u Ao _=>?_⟩
 ·have:=congrFun hLf k
  rw [this] at hk;cases hk
 ·have:=congrFun hLf u
  simp only [this]
  exact hv d Ao
end
end
section
open Go.RowKit
structure Sg where
 t:Ty
 x:t.T
def qY:List Sp→(t:Ty)→t.T→Option Sg
 | [],t,x=>some ⟨t,x⟩
 | .fst::π,.pair a b,x=>qY π a x.1
 | .snd c::π,.pair a b,x=>bif Nat.beq c a.size then qY π b x.2 else none
 | .ai i n z::π,.arr n' t,l=>bif Nat.beq n n' && Nat.beq z t.size then qY π t (nth t.dO l i) else none
 | _,_,_=>none
def iz (a b:Ty) (x:a.T):Option b.T:=if h:a=b then some (h▸x) else none
theorem du {a b:Ty} {x:a.T} {y:b.T} (h:iz a b x=some y):∃e:a=b,e▸x=y:=by
 unfold iz at h
 split at h
 ·rename_i e;exact ⟨e,Option.some.inj h⟩
 ·cases h
def uw (u:Ty) (y:u.T):List Sp→(t:Ty)→t.T→Option t.T
 | [],t,_=>iz u t y
 | .fst::π,.pair a b,x=>match uw u y π a x.1 with
  | some z=>some (z,x.2)
  | none=>none
 | .snd c::π,.pair a b,x=>bif Nat.beq c a.size then (match uw u y π b x.2 with
  | some z=>some (x.1,z)
  | none=>none) else none
 | .ai i n z::π,.arr n' t,l=>bif Nat.beq n n' && Nat.beq z t.size then (match uw u y π t (nth t.dO l i) with
  | some v=>some (cm t.dO l i v)
  | none=>none) else none
 | _,_,_=>none
theorem beq_eq {a b:Nat} (h:Nat.beq a b=true):a=b:=Nat.eq_of_beq_eq_true h
theorem ab {α:Type} {c:Bool} {x:Option α} {r:α} (h:(bif c then x else none)=some r):c=true∧x=some r:=by
 cases c with
 | true=>exact ⟨rfl,h⟩
 | false=>cases h
theorem tT (t:Ty) (n:Nat) (l:List t.T) {i:Nat} (hi:i<n):∃a c,aJ (.arr n t) l=a++(aJ t (nth t.dO l i)++c)∧a.length=i*t.size∧a=(List.range i).flatMap (fun k=>aJ t (nth t.dO l k))∧c=((List.range n).drop (i+1)).flatMap (fun k=>aJ t (nth t.dO l k)):=by
 have hr:List.range n=List.range i++(i::(List.range n).drop (i+1)):=by
  have h1:=(zP i (List.range n)).symm
  rw [List.take_range,Nat.min_eq_left (Nat.le_of_lt hi),List.drop_eq_getElem_cons (by simpa using hi)] at h1
  simpa using h1
 refine ⟨_,_,?_,?_,rfl,rfl⟩
 ·show (List.range n).flatMap _=_
  conv=>lhs;rw [hr]
  rw [List.flatMap_append,List.flatMap_cons]
 ·have:=sO (f:=aJ t) (d:=t.dO) (cQ t) i l
  exact this
theorem sE:∀(π:List Sp) (t:Ty) (x:t.T) (s:Nat) (r:Sg),qY π t x=some r→HE s π→∃a c,aJ t x=a++(aJ r.t r.x++c)∧a.length=fg π
 | [],t,x,s,r,h,_=>by cases h;exact ⟨[],[],by simp,rfl⟩
 | .fst::π,.pair a b,x,s,r,h,hk=>by
  obtain ⟨p,c,e1,e2⟩:=sE π a x.1 s r h hk
  exact ⟨p,c++aJ b x.2,by show aJ a x.1++aJ b x.2=_;rw [e1];simp,e2⟩
 | .snd k::π,.pair a b,x,s,r,h,hk=>by
  obtain ⟨hc,h2⟩:=ab (show (bif Nat.beq k a.size then qY π b x.2 else none)=some r from h)
  obtain ⟨p,c,e1,e2⟩:=sE π b x.2 s r h2 hk
  refine ⟨aJ a x.1++p,c,by show aJ a x.1++aJ b x.2=_;rw [e1];simp,?_⟩
  rw [zY,cQ,e2,beq_eq hc];rfl
 | .ai i n z::π,.arr n' t,l,s,r,h,hk=>by
  obtain ⟨hc,h2⟩:=ab (show (bif Nat.beq n n' && Nat.beq z t.size then qY π t (nth t.dO l i) else none)=some r from h)
  simp only [zC] at hc
  obtain rfl:=beq_eq hc.1
  obtain rfl:=beq_eq hc.2
  obtain ⟨p,c,e1,e2⟩:=sE π t _ s r h2 hk.2
  obtain ⟨a,d,k1,k2,_⟩:=tT t n l hk.1
  refine ⟨a++p,c++d,by rw [k1,e1];simp,?_⟩
  rw [zY,k2,e2];rfl
 | .fst::_,.int _,_,_,_,h,_=>by cases h
 | .fst::_,.bool,_,_,_,h,_=>by cases h
 | .fst::_,.unit,_,_,_,h,_=>by cases h
 | .fst::_,.arr _ _,_,_,_,h,_=>by cases h
 | .fst::_,.cB _,_,_,_,h,_=>by cases h
 | .fst::_,.ptr _,_,_,_,h,_=>by cases h
 | .fst::_,.dH _,_,_,_,h,_=>by cases h
 | .fst::_,.kz _ _,_,_,_,h,_=>by cases h
 | .fst::_,.sU _ _,_,_,_,h,_=>by cases h
 | .fst::_,.mp _,_,_,_,h,_=>by cases h
 | .snd _::_,.int _,_,_,_,h,_=>by cases h
 | .snd _::_,.bool,_,_,_,h,_=>by cases h
 | .snd _::_,.unit,_,_,_,h,_=>by cases h
 | .snd _::_,.arr _ _,_,_,_,h,_=>by cases h
 | .snd _::_,.cB _,_,_,_,h,_=>by cases h
 | .snd _::_,.ptr _,_,_,_,h,_=>by cases h
 | .snd _::_,.dH _,_,_,_,h,_=>by cases h
 | .snd _::_,.kz _ _,_,_,_,h,_=>by cases h
 | .snd _::_,.sU _ _,_,_,_,h,_=>by cases h
 | .snd _::_,.mp _,_,_,_,h,_=>by cases h
 | .ai _ _ _::_,.int _,_,_,_,h,_=>by cases h
 | .ai _ _ _::_,.bool,_,_,_,h,_=>by cases h
 | .ai _ _ _::_,.unit,_,_,_,h,_=>by cases h
 | .ai _ _ _::_,.pair _ _,_,_,_,h,_=>by cases h
 | .ai _ _ _::_,.cB _,_,_,_,h,_=>by cases h
 | .ai _ _ _::_,.ptr _,_,_,_,h,_=>by cases h
 | .ai _ _ _::_,.dH _,_,_,_,h,_=>by cases h
 | .ai _ _ _::_,.kz _ _,_,_,_,h,_=>by cases h
 | .ai _ _ _::_,.sU _ _,_,_,_,h,_=>by cases h
 | .ai _ _ _::_,.mp _,_,_,_,h,_=>by cases h
 | .ix _ _::_,_,_,_,_,h,_=>by simp [qY] at h
theorem D4 (t:Ty) (n:Nat) (l:List t.T) {i:Nat} (hi:i<n):∃a c,eH (.arr n t) l=a++(eH t (nth t.dO l i)++c)∧a.length=i*t.size∧a=(List.range i).flatMap (fun k=>eH t (nth t.dO l k))∧c=((List.range n).drop (i+1)).flatMap (fun k=>eH t (nth t.dO l k)):=by
 have hr:List.range n=List.range i++(i::(List.range n).drop (i+1)):=by
  have h1:=(zP i (List.range n)).symm
  rw [List.take_range,Nat.min_eq_left (Nat.le_of_lt hi),List.drop_eq_getElem_cons (by simpa using hi)] at h1
  simpa using h1
 refine ⟨_,_,?_,?_,rfl,rfl⟩
 ·show (List.range n).flatMap _=_
  conv=>lhs;rw [hr]
  rw [List.flatMap_append,List.flatMap_cons]
 ·have:=sO (f:=eH t) (d:=t.dO) (fO t) i l
  exact this
theorem pn:∀(π:List Sp) (t:Ty) (x:t.T) (s:Nat) (r:Sg),qY π t x=some r→HE s π→∃a c,eH t x=a++(eH r.t r.x++c)∧a.length=fg π
 | [],t,x,s,r,h,_=>by cases h;exact ⟨[],[],by simp,rfl⟩
 | .fst::π,.pair a b,x,s,r,h,hk=>by
  obtain ⟨p,c,e1,e2⟩:=pn π a x.1 s r h hk
  exact ⟨p,c++eH b x.2,by show eH a x.1++eH b x.2=_;rw [e1];simp,e2⟩
 | .snd k::π,.pair a b,x,s,r,h,hk=>by
  obtain ⟨hc,h2⟩:=ab (show (bif Nat.beq k a.size then qY π b x.2 else none)=some r from h)
  obtain ⟨p,c,e1,e2⟩:=pn π b x.2 s r h2 hk
  refine ⟨eH a x.1++p,c,by show eH a x.1++eH b x.2=_;rw [e1];simp,?_⟩
  rw [zY,fO,e2,beq_eq hc];rfl
 | .ai i n z::π,.arr n' t,l,s,r,h,hk=>by
  obtain ⟨hc,h2⟩:=ab (show (bif Nat.beq n n' && Nat.beq z t.size then qY π t (nth t.dO l i) else none)=some r from h)
  simp only [zC] at hc
  obtain rfl:=beq_eq hc.1
  obtain rfl:=beq_eq hc.2
  obtain ⟨p,c,e1,e2⟩:=pn π t _ s r h2 hk.2
  obtain ⟨a,d,k1,k2,_⟩:=D4 t n l hk.1
  refine ⟨a++p,c++d,by rw [k1,e1];simp,?_⟩
  rw [zY,k2,e2];rfl
 | .fst::_,.int _,_,_,_,h,_=>by cases h
 | .fst::_,.bool,_,_,_,h,_=>by cases h
 | .fst::_,.unit,_,_,_,h,_=>by cases h
 | .fst::_,.arr _ _,_,_,_,h,_=>by cases h
 | .fst::_,.cB _,_,_,_,h,_=>by cases h
 | .fst::_,.ptr _,_,_,_,h,_=>by cases h
 | .fst::_,.dH _,_,_,_,h,_=>by cases h
 | .fst::_,.kz _ _,_,_,_,h,_=>by cases h
 | .fst::_,.sU _ _,_,_,_,h,_=>by cases h
 | .fst::_,.mp _,_,_,_,h,_=>by cases h
 | .snd _::_,.int _,_,_,_,h,_=>by cases h
 | .snd _::_,.bool,_,_,_,h,_=>by cases h
 | .snd _::_,.unit,_,_,_,h,_=>by cases h
 | .snd _::_,.arr _ _,_,_,_,h,_=>by cases h
 | .snd _::_,.cB _,_,_,_,h,_=>by cases h
 | .snd _::_,.ptr _,_,_,_,h,_=>by cases h
 | .snd _::_,.dH _,_,_,_,h,_=>by cases h
 | .snd _::_,.kz _ _,_,_,_,h,_=>by cases h
 | .snd _::_,.sU _ _,_,_,_,h,_=>by cases h
 | .snd _::_,.mp _,_,_,_,h,_=>by cases h
 | .ai _ _ _::_,.int _,_,_,_,h,_=>by cases h
 | .ai _ _ _::_,.bool,_,_,_,h,_=>by cases h
 | .ai _ _ _::_,.unit,_,_,_,h,_=>by cases h
 | .ai _ _ _::_,.pair _ _,_,_,_,h,_=>by cases h
 | .ai _ _ _::_,.cB _,_,_,_,h,_=>by cases h
 | .ai _ _ _::_,.ptr _,_,_,_,h,_=>by cases h
 | .ai _ _ _::_,.dH _,_,_,_,h,_=>by cases h
 | .ai _ _ _::_,.kz _ _,_,_,_,h,_=>by cases h
 | .ai _ _ _::_,.sU _ _,_,_,_,h,_=>by cases h
 | .ai _ _ _::_,.mp _,_,_,_,h,_=>by cases h
 | .ix _ _::_,_,_,_,_,h,_=>by simp [qY] at h
theorem yJ {a b c ps:List A} {k:Nat} (h:k+ps.length≤b.length):put (a++(b++c)) (a.length+k) ps=a++(put b k ps++c):=by
 unfold put
 rw [List.take_append,za (by omega),Nat.add_sub_cancel_left,List.take_append_of_le_length (by omega)]
 rw [List.drop_append,List.drop_eq_nil_of_le (by omega),List.nil_append,show a.length+k+ps.length-a.length=k+ps.length by omega,List.drop_append_of_le_length h]
 simp
theorem rJ (u:Ty) (y:u.T):∀(π:List Sp) (t:Ty) (x x':t.T) (s:Nat),uw u y π t x=some x'→HE s π→aJ t x'=put (aJ t x) (fg π) (aJ u y)∧fg π+u.size≤t.size
 | [],t,x,x',s,h,_=>by
  obtain ⟨rfl,rfl⟩:=du (show iz u t y=some x' from h)
  refine ⟨?_,by simp [fg]⟩
  unfold put
  rw [show fg []=0 from rfl,List.take_zero,List.nil_append,Nat.zero_add,cQ,List.drop_eq_nil_of_le (by rw [cQ];exact Nat.le_refl _),List.append_nil]
 | .fst::π,.pair a b,x,x',s,h,hk=>by
  have h:(match uw u y π a x.1 with | some z=>some (z,x.2) | none=>none)=some x':=h
  split at h
  ·rename_i z hz
   cases h
   obtain ⟨e1,e2⟩:=rJ u y π a x.1 z s hz hk
   refine ⟨?_,by show _≤a.size+b.size;have:fg (.fst::π)=fg π:=rfl;omega⟩
   show aJ a z++aJ b x.2=put (aJ a x.1++aJ b x.2) (fg π) (aJ u y)
   rw [e1]
   have:=yJ (a:=[]) (b:=aJ a x.1) (c:=aJ b x.2) (ps:=aJ u y) (k:=fg π) (by rw [cQ,cQ];exact e2)
   simpa using this.symm
  ·cases h
 | .snd k::π,.pair a b,x,x',s,h,hk=>by
  obtain ⟨hc,h2⟩:=ab (show (bif Nat.beq k a.size then (match uw u y π b x.2 with | some z=>some (x.1,z) | none=>none) else none)=some x' from h)
  obtain rfl:=beq_eq hc
  cases hz:uw u y π b x.2 with
  | none=>rw [hz] at h2;cases h2
  | some z=>
   rw [hz] at h2;cases h2
   obtain ⟨e1,e2⟩:=rJ u y π b x.2 z s hz hk
   refine ⟨?_,by show a.size+fg π+u.size≤a.size+b.size;omega⟩
   show aJ a x.1++aJ b z=put (aJ a x.1++aJ b x.2) (a.size+fg π) (aJ u y)
   have:=yJ (a:=aJ a x.1) (b:=aJ b x.2) (c:=[]) (ps:=aJ u y) (k:=fg π) (by rw [cQ,cQ];exact e2)
   rw [cQ] at this
   simp only [List.append_nil] at this
   rw [this,e1]
 | .ai i n z::π,.arr n' t,l,x',s,h,hk=>by
  obtain ⟨hc,h2⟩:=ab (show (bif Nat.beq n n' && Nat.beq z t.size then (match uw u y π t (nth t.dO l i) with | some v=>some (cm t.dO l i v) | none=>none) else none)=some x' from h)
  simp only [zC] at hc
  obtain rfl:=beq_eq hc.1
  obtain rfl:=beq_eq hc.2
  cases hv:uw u y π t (nth t.dO l i) with
  | none=>rw [hv] at h2;cases h2
  | some v=>
   rw [hv] at h2;cases h2
   obtain ⟨e1,e2⟩:=rJ u y π t _ v s hv hk.2
   obtain ⟨a,d,k1,k2,k3,k4⟩:=tT t n l hk.1
   obtain ⟨a',d',q1,q2,q3,q4⟩:=tT t n (cm t.dO l i v) hk.1
   have hn:∀k,nth t.dO (cm t.dO l i v) k=if k=i then v else nth t.dO l k:=fun k=>kc
   have ha:a'=a:=by
    rw [q3,k3]
    have:∀m:List Nat,(∀k∈m,k≠i)→m.flatMap (fun k=>aJ t (nth t.dO (cm t.dO l i v) k))=m.flatMap (fun k=>aJ t (nth t.dO l k)):=fun m=>by
     induction m with
     | nil=>intro _;rfl
     | cons j m ih=>intro hm;simp only [List.flatMap_cons];rw [ih (fun k hk=>hm k (zT _ hk)),hn,if_neg (hm j (zV ..))]
    exact this _ (fun k hk=>by have:=List.mem_range.1 hk;omega)
   have hd:d'=d:=by
    rw [q4,k4]
    have:∀m:List Nat,(∀k∈m,k≠i)→m.flatMap (fun k=>aJ t (nth t.dO (cm t.dO l i v) k))=m.flatMap (fun k=>aJ t (nth t.dO l k)):=fun m=>by
     induction m with
     | nil=>intro _;rfl
     | cons j m ih=>intro hm;simp only [List.flatMap_cons];rw [ih (fun k hk=>hm k (zT _ hk)),hn,if_neg (hm j (zV ..))]
    refine this _ (fun k hk=>?_)
    obtain ⟨j,hj,rfl⟩:=List.getElem_of_mem hk
    simp at hj ⊢;omega
   have qq:i*t.size+t.size≤n*t.size:=by
    have:=zW t.size (show i+1≤n from hk.1)
    rwa [Nat.add_mul,Nat.one_mul] at this
   refine ⟨?_,by show i*t.size+fg π+u.size≤n*t.size;omega⟩
   show aJ (.arr n t) (cm t.dO l i v)=put (aJ (.arr n t) l) (i*t.size+fg π) (aJ u y)
   rw [q1,k1,ha,hd,hn,if_pos rfl,←k2,yJ (by rw [cQ,cQ];exact e2),e1]
 | .fst::_,.int _,_,_,_,h,_=>by cases h
 | .fst::_,.bool,_,_,_,h,_=>by cases h
 | .fst::_,.unit,_,_,_,h,_=>by cases h
 | .fst::_,.arr _ _,_,_,_,h,_=>by cases h
 | .fst::_,.cB _,_,_,_,h,_=>by cases h
 | .fst::_,.ptr _,_,_,_,h,_=>by cases h
 | .fst::_,.dH _,_,_,_,h,_=>by cases h
 | .fst::_,.kz _ _,_,_,_,h,_=>by cases h
 | .fst::_,.sU _ _,_,_,_,h,_=>by cases h
 | .fst::_,.mp _,_,_,_,h,_=>by cases h
 | .snd _::_,.int _,_,_,_,h,_=>by cases h
 | .snd _::_,.bool,_,_,_,h,_=>by cases h
 | .snd _::_,.unit,_,_,_,h,_=>by cases h
 | .snd _::_,.arr _ _,_,_,_,h,_=>by cases h
 | .snd _::_,.cB _,_,_,_,h,_=>by cases h
 | .snd _::_,.ptr _,_,_,_,h,_=>by cases h
 | .snd _::_,.dH _,_,_,_,h,_=>by cases h
 | .snd _::_,.kz _ _,_,_,_,h,_=>by cases h
 | .snd _::_,.sU _ _,_,_,_,h,_=>by cases h
 | .snd _::_,.mp _,_,_,_,h,_=>by cases h
 | .ai _ _ _::_,.int _,_,_,_,h,_=>by cases h
 | .ai _ _ _::_,.bool,_,_,_,h,_=>by cases h
 | .ai _ _ _::_,.unit,_,_,_,h,_=>by cases h
 | .ai _ _ _::_,.pair _ _,_,_,_,h,_=>by cases h
 | .ai _ _ _::_,.cB _,_,_,_,h,_=>by cases h
 | .ai _ _ _::_,.ptr _,_,_,_,h,_=>by cases h
 | .ai _ _ _::_,.dH _,_,_,_,h,_=>by cases h
 | .ai _ _ _::_,.kz _ _,_,_,_,h,_=>by cases h
 | .ai _ _ _::_,.sU _ _,_,_,_,h,_=>by cases h
 | .ai _ _ _::_,.mp _,_,_,_,h,_=>by cases h
 | .ix _ _::_,_,_,_,_,h,_=>by simp [uw] at h
end
section
open Go.RowKit
def xx {α:Type} (f:List A→Option α) (z:Nat):Nat→List A→Option (List α)
 | 0,[]=>some []
 | 0,_::_=>none
 | n+1,cs=>match f (cs.take z),xx f z n (cs.drop z) with
  | some x,some l=>some (x::l)
  | _,_=>none
def sV:(t:Ty)→List A→Option t.T
 | .int k,cs=>match cs with
  | [.v (.int k' n)]=>if k'=k then some n else none
  | _=>none
 | .bool,cs=>match cs with
  | [.v (.bool b)]=>some b
  | _=>none
 | .unit,cs=>match cs with
  | []=>some ()
  | _=>none
 | .pair a b,cs=>match sV a (cs.take a.size),sV b (cs.drop a.size) with
  | some x,some y=>some (x,y)
  | _,_=>none
 | .arr n t,cs=>xx (sV t) t.size n cs
 | .cB t,cs=>match cs with
  | [.tl t' _ l]=>iz (.cB t') (.cB t) l
  | [.v (.slice none 0 0)]=>some []
  | [.e0]=>some []
  | _=>none
 | .ptr r,cs=>match cs with
  | [.v (.pointer none)]=>some none
  | [.tp (.cT r' j) []]=>bif Nat.beq r r' then some (some j) else none
  | [.op r' o]=>bif Nat.beq r r' then some o else none
  | _=>none
 | .dH r,cs=>match cs with
  | [.tp (.cT r' j) []]=>bif Nat.beq r r' then some j else none
  | _=>none
 | .kz r z,cs=>match cs with
  | [.v (.slice none 0 0)]=>some none
  | [.e0]=>some none
  | [.tw (.cT r' j) z']=>bif Nat.beq r r' && Nat.beq z z' then some (some j) else none
  | [.os r' z' o]=>bif Nat.beq r r' && Nat.beq z z' then some o else none
  | _=>none
 | .sU r z,cs=>match cs with
  | [.tw (.cT r' j) z']=>bif Nat.beq r r' && Nat.beq z z' then some j else none
  | _=>none
 | .mp r,cs=>match cs with
  | [.v (.map none)]=>some none
  | [.mp (.cT r' j)]=>bif Nat.beq r r' then some (some j) else none
  | [.om r' o]=>bif Nat.beq r r' then some o else none
  | _=>none
theorem VD.QJ {M:Mem} {sz:Nat} {full:Bool} {es:List (List D)} {v:Value} (h:VD M (.sl sz full es) v):VD M (.sl sz false es) v:=by
 cases h with
 | sl _ _ _ a cap vs hz hc hf hn hx hl hm hv=>exact .sl sz false es a cap vs hz hc (fun h=>by cases h) hn hx hl hm hv
 | wR _ _ A=>exact .wR sz false A
theorem qD {g:G} {c d:A} {vs:List Value} (h:∀v,V g c v→V g d v) (k:Vs g [c] vs):Vs g [d] vs:=by
 refine ⟨k.1,fun j c' x e1 e2=>?_⟩
 cases j with
 | zero=>simp at e1;subst e1;exact ⟨h x (k.2 0 c x rfl e2).1,(k.2 0 c x rfl e2).2⟩
 | succ j=>simp at e1
theorem rG {α:Type} {g:G} {f:List A→Option α} {e:α→List A} {z:Nat} (hf:∀cs x,f cs=some x→cs.length=z∧∀vs,Vs g cs vs→Vs g (e x) vs):∀(n:Nat) (cs:List A) (l:List α),xx f z n cs=some l→cs.length=n*z∧l.length=n∧∀vs,Vs g cs vs→Vs g (l.flatMap e) vs
 | 0,[],l,h=>by cases h;exact ⟨by simp,rfl,fun vs hv=>hv⟩
 | 0,_::_,l,h=>by cases h
 | n+1,cs,l,h=>by
  have h:(match f (cs.take z),xx f z n (cs.drop z) with | some x,some l=>some (x::l) | _,_=>none)=some l:=by
   cases cs<;>exact h
  split at h
  ·rename_i x l' h1 h2
   cases h
   obtain ⟨k1,k2⟩:=hf _ _ h1
   obtain ⟨q1,q2,q3⟩:=rG hf n _ _ h2
   have hl:cs.length=z+n*z:=by
    have:=congrArg List.length (zP z cs)
    rw [zY,k1,q1] at this
    exact this.symm
   refine ⟨by rw [hl,Nat.add_mul];omega,by simp [q2],fun vs hv=>?_⟩
   rw [List.flatMap_cons]
   rw [←zP z cs] at hv
   obtain ⟨r1,r2⟩:=hv.split
   have:=(k2 _ r1).append (q3 _ r2)
   rwa [zP] at this
  ·cases h
theorem F_ {α β:Type} (f:α→List β) (d:α) (l:List α):(List.range l.length).flatMap (fun i=>f (nth d l i))=l.flatMap f:=by
 have h:(List.range l.length).map (fun i=>nth d l i)=l:=by
  apply List.ext_getElem?
  intro i
  simp only [zL]
  by_cases hi:i<l.length
  ·rw [List.getElem?_range hi]
   simp [nth,zA,zD hi]
  ·rw [zb (by simpa using hi),zb (by simpa using hi)];rfl
 conv=>rhs;rw [←h]
 rw [List.flatMap_map]
theorem lH {g:G}:∀(t:Ty) (cs:List A) (x:t.T),sV t cs=some x→cs.length=t.size∧∀vs,Vs g cs vs→Vs g (aJ t x) vs
 | .int k,cs,x,h=>by
  unfold sV at h
  split at h
  ·split at h
   ·rename_i hk;subst hk;cases h;exact ⟨rfl,fun vs hv=>hv⟩
   ·cases h
  ·cases h
 | .bool,cs,x,h=>by
  unfold sV at h
  split at h
  ·cases h;exact ⟨rfl,fun vs hv=>hv⟩
  ·cases h
 | .unit,cs,x,h=>by
  unfold sV at h
  split at h
  ·cases h;exact ⟨rfl,fun vs hv=>hv⟩
  ·cases h
 | .pair a b,cs,x,h=>by
  unfold sV at h
  split at h
  ·rename_i y z h1 h2
   cases h
   obtain ⟨k1,k2⟩:=lH a _ _ h1
   obtain ⟨q1,q2⟩:=lH b _ _ h2
   refine ⟨?_,fun vs hv=>?_⟩
   ·have:=congrArg List.length (zP a.size cs)
    rw [zY,k1,q1] at this
    exact this.symm
   ·rw [←zP a.size cs] at hv
    obtain ⟨r1,r2⟩:=hv.split
    have:=(k2 _ r1).append (q2 _ r2)
    rwa [zP] at this
  ·cases h
 | .arr n t,cs,x,h=>by
  obtain ⟨h1,h2,h3⟩:=rG (g:=g) (fun cs x h=>lH t cs x h) n cs x h
  refine ⟨h1,fun vs hv=>?_⟩
  have:=h3 vs hv
  have e:∀(m:Nat) (y:List t.T),y.length=m→aJ (.arr m t) y=y.flatMap (aJ t):=fun m y hy=>by
   subst hy
   exact F_ (aJ t) t.dO y
  rw [e n x h2];exact this
 | .cB t,cs,x,h=>by
  unfold sV at h
  split at h
  ·rename_i t' f l
   obtain ⟨e,rfl⟩:=du h
   cases e
   exact ⟨rfl,fun vs hv=>qD (fun v hv=>by cases hv with | tl _ _ _ _ h=>exact .tl _ _ _ _ h.QJ) hv⟩
  ·cases h;exact ⟨rfl,fun vs hv=>qD (fun v hv=>by rw [hv.jq];exact .tl t false [] _ (.wR _ _ _)) hv⟩
  ·cases h;exact ⟨rfl,fun vs hv=>qD (fun v hv=>by cases hv;exact .tl t false [] _ (.wR _ _ _)) hv⟩
  ·cases h
 | .ptr r,cs,x,h=>by
  unfold sV at h
  split at h
  ·cases h;exact ⟨rfl,fun vs hv=>qD (fun v hv=>.op r none v (fun _=>hv.jq) (fun j h=>by cases h)) hv⟩
  ·obtain ⟨h1,h2⟩:=ab h
   obtain rfl:=beq_eq h1
   cases h2;exact ⟨rfl,fun vs hv=>qD (fun v hv=>.op r _ v (fun h=>by cases h) (fun j h=>by cases h;exact hv)) hv⟩
  ·obtain ⟨h1,h2⟩:=ab h
   obtain rfl:=beq_eq h1
   cases h2;exact ⟨rfl,fun vs hv=>hv⟩
  ·cases h
 | .dH r,cs,x,h=>by
  unfold sV at h
  split at h
  ·obtain ⟨h1,h2⟩:=ab h
   obtain rfl:=beq_eq h1
   cases h2;exact ⟨rfl,fun vs hv=>hv⟩
  ·cases h
 | .kz r z,cs,x,h=>by
  unfold sV at h
  split at h
  ·cases h;exact ⟨rfl,fun vs hv=>qD (fun v hv=>.os r z none v (fun _=>by rw [hv.jq];exact .e0 _) (fun j h=>by cases h)) hv⟩
  ·cases h;exact ⟨rfl,fun vs hv=>qD (fun v hv=>.os r z none v (fun _=>hv) (fun j h=>by cases h)) hv⟩
  ·obtain ⟨h1,h2⟩:=ab h
   simp only [zC] at h1
   obtain rfl:=beq_eq h1.1
   obtain rfl:=beq_eq h1.2
   cases h2;exact ⟨rfl,fun vs hv=>qD (fun v hv=>.os r z _ v (fun h=>by cases h) (fun j h=>by cases h;exact hv)) hv⟩
  ·obtain ⟨h1,h2⟩:=ab h
   simp only [zC] at h1
   obtain rfl:=beq_eq h1.1
   obtain rfl:=beq_eq h1.2
   cases h2;exact ⟨rfl,fun vs hv=>hv⟩
  ·cases h
 | .sU r z,cs,x,h=>by
  unfold sV at h
  split at h
  ·obtain ⟨h1,h2⟩:=ab h
   simp only [zC] at h1
   obtain rfl:=beq_eq h1.1
   obtain rfl:=beq_eq h1.2
   cases h2;exact ⟨rfl,fun vs hv=>hv⟩
  ·cases h
 | .mp r,cs,x,h=>by
  unfold sV at h
  split at h
  ·cases h;exact ⟨rfl,fun vs hv=>qD (fun v hv=>.om r none v (fun _=>hv.jq) (fun j h=>by cases h)) hv⟩
  ·obtain ⟨h1,h2⟩:=ab h
   obtain rfl:=beq_eq h1
   cases h2;exact ⟨rfl,fun vs hv=>qD (fun v hv=>.om r _ v (fun h=>by cases h) (fun j h=>by cases h;exact hv)) hv⟩
  ·obtain ⟨h1,h2⟩:=ab h
   obtain rfl:=beq_eq h1
   cases h2;exact ⟨rfl,fun vs hv=>hv⟩
  ·cases h
def RK.T:RK→Type
 | .box t=>List t.T
 | .row t=>List (Option (List t.T))
 | .map _ tk _ tv=>List (List (tk.T×tv.T))
def da (a:Bool) (t:Ty) (x:t.T):A:=bif a then .agg (aJ t x) else match aJ t x with
 | [c]=>c
 | _=>.dI
structure Rg where
 r:Nat
 k:RK
 c:k.T
inductive jJ where
 | cells (cs:List A)
 | one (t:Ty) (x:t.T)
 | row (t:Ty) (l:List t.T)
 | d_ (x:SW)
def jJ.low:jJ→Ob
 | .cells cs=>.cells cs
 | .one t x=>.cells (aJ t x)
 | .row t l=>.cells (l.flatMap (aJ t))
 | .d_ x=>.d_ x
structure H where
 t:Tr jJ
 bF:Nat
 rg:List Rg
 lk:List Nat
def cj:List Rg→Nat→Option Rg
 | [],_=>none
 | x::l,r=>bif Nat.beq x.r r then some x else cj l r
def nz {α:Type} (l:List α) (j:Nat):Option α:=l[j]?
def fp:(k:RK)→k.T→Nat→Option Ob
 | .box t,c,j=>match nz (α:=t.T) c j with
  | some x=>some (.cells (aJ t x))
  | none=>none
 | .row t,c,j=>match nz (α:=Option (List t.T)) c j with
  | some (some l)=>some (.cells (l.flatMap (aJ t)))
  | _=>none
 | .map ka tk va tv,c,j=>match nz (α:=List (tk.T×tv.T)) c j with
  | some es=>some (.d_ (.map (es.map fun e=>(da ka tk e.1,da va tv e.2))))
  | none=>none
def qM:(k:RK)→k.T→Nat
 | .box t,c=>List.length (α:=t.T) c
 | .row t,c=>List.length (α:=Option (List t.T)) c
 | .map _ tk _ tv,c=>List.length (α:=List (tk.T×tv.T)) c
def fq (rg:List Rg) (i:Nat):Option Ob:=match cj rg (oM i) with
 | some x=>fp x.k x.c (EU i)
 | none=>none
def iM (rg:List Rg) (i:Nat):Prop:=match cj rg (oM i) with
 | some x=>qM x.k x.c≤EU i
 | none=>False
def ir (t:Tr jJ) (i:Nat):Option Ob:=match t.get i with
 | some x=>some x.low
 | none=>none
def hp (h:H):Hp:=⟨fun i=>if i<dJ then ir h.t i else fq h.rg i,fun i=>if i<dJ then h.bF≤i else iM h.rg i⟩
end
section
open Go.RowKit
def Tr.uy {α β:Type} (f:Nat):Tr α→Nat→Option α→(Tr α→β)→β:=
 Nat.rec (motive:=fun _=>Tr α→Nat→Option α→(Tr α→β)→β) (fun t _ _ k=>k t)
  (fun _ rec t n x k=>Tr.rec (motive:=fun _=>β)
   (Nat.rec (motive:=fun _=>β) (k (.node .nil x .nil)) (fun n _=>Nat.rec (motive:=fun _=>β) (rec .nil (n / 2) x (fun l=>k (.node l none .nil))) (fun _ _=>rec .nil (n / 2) x (fun r=>k (.node .nil none r))) (n%2)) n)
   (fun l v r _ _=>Nat.rec (motive:=fun _=>β) (k (.node l x r)) (fun n _=>Nat.rec (motive:=fun _=>β) (rec l (n / 2) x (fun l=>k (.node l v r))) (fun _ _=>rec r (n / 2) x (fun r=>k (.node l v r))) (n%2)) n) t) f
theorem Tr.oS {α β:Type}:∀(f:Nat) (t:Tr α) (n:Nat) (x:Option α) (k:Tr α→β),n+1<2^f→∃t':Tr α,Tr.uy f t n x k=k t'∧∀m,t'.get m=if m=n then x else t.get m
 | 0,t,n,x,k,h=>by simp at h
 | f+1,.nil,0,x,k,h=>⟨.node .nil x .nil,rfl,fun m=>by cases m<;>simp [Tr.mo,Tr.j_,Tr.get_nil]⟩
 | f+1,.node l v r,0,x,k,h=>⟨.node l x r,rfl,fun m=>by cases m<;>simp [Tr.mo,Tr.j_]⟩
 | f+1,.nil,n+1,x,k,h=>by
  have hp:2^(f+1)=2*2^f:=by rw [Nat.pow_succ];omega
  have e:Tr.uy (f+1) .nil (n+1) x k=Nat.rec (motive:=fun _=>β) (Tr.uy f .nil (n / 2) x (fun l=>k (.node l none .nil))) (fun _ _=>Tr.uy f .nil (n / 2) x (fun r=>k (.node .nil none r))) (n%2):=rfl
  rw [e]
  cases hm:n%2 with
  | zero=>
   obtain ⟨t',h1,h2⟩:=Tr.oS f .nil (n / 2) x (fun l=>k (.node l none .nil)) (by omega)
   refine ⟨_,h1,fun m=>?_⟩
   cases m with
   | zero=>simp [Tr.mo,Tr.get_nil]
   | succ m=>
    rw [Tr.j_,h2,Tr.get_nil]
    by_cases Cy:m%2=0
    ·rw [Cy,show Nat.beq 0 0=true from rfl,cond_true]
     by_cases c:m=n
     ·subst c;simp
     ·rw [if_neg (by omega),if_neg (by omega)];rfl
    ·rw [show Nat.beq (m%2) 0=false from by cases hx:m%2 with | zero=>exact absurd hx Cy | succ _=>rfl,cond_false,if_neg (by omega)];rfl
  | succ j=>
   obtain ⟨t',h1,h2⟩:=Tr.oS f .nil (n / 2) x (fun r=>k (.node .nil none r)) (by omega)
   refine ⟨_,h1,fun m=>?_⟩
   cases m with
   | zero=>simp [Tr.mo,Tr.get_nil]
   | succ m=>
    rw [Tr.j_,h2,Tr.get_nil]
    by_cases Cy:m%2=0
    ·rw [Cy,show Nat.beq 0 0=true from rfl,cond_true,if_neg (by omega)];rfl
    ·rw [show Nat.beq (m%2) 0=false from by cases hx:m%2 with | zero=>exact absurd hx Cy | succ _=>rfl,cond_false]
     by_cases c:m=n
     ·subst c;simp
     ·rw [if_neg (by omega),if_neg (by omega)];rfl
 | f+1,.node l v r,n+1,x,k,h=>by
  have hp:2^(f+1)=2*2^f:=by rw [Nat.pow_succ];omega
  have e:Tr.uy (f+1) (.node l v r) (n+1) x k=Nat.rec (motive:=fun _=>β) (Tr.uy f l (n / 2) x (fun l=>k (.node l v r))) (fun _ _=>Tr.uy f r (n / 2) x (fun r=>k (.node l v r))) (n%2):=rfl
  rw [e]
  cases hm:n%2 with
  | zero=>
   obtain ⟨t',h1,h2⟩:=Tr.oS f l (n / 2) x (fun l=>k (.node l v r)) (by omega)
   refine ⟨_,h1,fun m=>?_⟩
   cases m with
   | zero=>simp [Tr.mo]
   | succ m=>
    rw [Tr.j_,h2,Tr.j_]
    by_cases Cy:m%2=0
    ·rw [Cy,show Nat.beq 0 0=true from rfl,cond_true]
     by_cases c:m=n
     ·subst c;simp
     ·rw [if_neg (by omega),if_neg (by omega)];rfl
    ·rw [show Nat.beq (m%2) 0=false from by cases hx:m%2 with | zero=>exact absurd hx Cy | succ _=>rfl,cond_false,if_neg (by omega)];rfl
  | succ j=>
   obtain ⟨t',h1,h2⟩:=Tr.oS f r (n / 2) x (fun r=>k (.node l v r)) (by omega)
   refine ⟨_,h1,fun m=>?_⟩
   cases m with
   | zero=>simp [Tr.mo]
   | succ m=>
    rw [Tr.j_,h2,Tr.j_]
    by_cases Cy:m%2=0
    ·rw [Cy,show Nat.beq 0 0=true from rfl,cond_true,if_neg (by omega)];rfl
    ·rw [show Nat.beq (m%2) 0=false from by cases hx:m%2 with | zero=>exact absurd hx Cy | succ _=>rfl,cond_false]
     by_cases c:m=n
     ·subst c;simp
     ·rw [if_neg (by omega),if_neg (by omega)];rfl
def g_ {α β:Type} (t:Tr α) (q:Nat) (x:Option α) (k:Tr α→Option β):Option β:=bif Nat.blt q 16777215 then Tr.uy 24 t q x k else none
theorem cp {α β:Type} {t:Tr α} {q:Nat} {x:Option α} {k:Tr α→Option β} {r:β} (h:g_ t q x k=some r):q<16777215∧∃t':Tr α,k t'=some r∧t'.get=fun m=>if m=q then x else t.get m:=by
 obtain ⟨h1,h2⟩:=ab h
 have hq:q<16777215:=by simpa using h1
 obtain ⟨t',e1,e2⟩:=Tr.oS 24 t q x k (by omega)
 exact ⟨hq,t',by rw [←e1];exact h2,funext e2⟩
structure Fp where
 all:Bool
 rs:List Nat
 w:Bool
 ws:List Nat
def Fp.no:Fp:=⟨false,[],false,[]⟩
def Fp.rd (l:List Nat):Fp:=⟨false,l,false,[]⟩
def Fp.wr (l:List Nat):Fp:=⟨false,l,true,l⟩
def Fp.pt (x:Nat) (l:List Nat):Fp:=⟨false,x::l,true,[x]⟩
def kA (r:Nat):Nat:=2*r+1
def fT (o:Nat):Nat:=2*o
def res (i:Nat):Nat:=bif Nat.blt i 16777216 then fT i else kA (oM i)
def aR (T:Fp) (i:Nat):Bool:=T.all || T.rs.any (Nat.beq (res i))
def wt (T:Fp) (i:Nat):Bool:=T.w && T.ws.any (Nat.beq (res i))
theorem pX {o:Nat} (h:o<16777216):res o=fT o:=by
 unfold res
 rw [show Nat.blt o 16777216=true by simpa using h];rfl
theorem L1 {r j:Nat} (h:r<64):res (gV r j)=kA r:=by
  have h1:=qL r j
  have h2:=nW (j:=j) h
  generalize gV r j=i at h1 h2
  unfold res
  cases hx:Nat.blt i 16777216 with
  | false=>rw [cond_false,h2]
  | true=>
            have:i<16777216:=by simpa using hx
            unfold dJ at h1;omega
def bK (T:Fp) (S S2:Hp):Prop:=∀i,aR T i=true→S2.ob i=S.ob i∧(S2.fr i↔S.fr i)
def l6 (T:Fp) (S' S2:Hp):Hp:=⟨fun i=>if aR T i=true then S'.ob i else S2.ob i,fun i=>if aR T i=true then S'.fr i else S2.fr i⟩
theorem Hp.ext' {S S':Hp} (h1:∀i,S.ob i=S'.ob i) (h2:∀i,S.fr i↔S'.fr i):S=S':=by
 cases S;cases S'
 congr
 ·exact funext h1
 ·exact funext fun i=>propext (h2 i)
theorem rU {T:Fp} {S S2:Hp} (h:bK T S S2):l6 T S S2=S2:=Hp.ext' (fun i=>by
 show (if aR T i=true then S.ob i else S2.ob i)=S2.ob i
 split
 ·exact (h i (by assumption)).1.symm
 ·rfl) (fun i=>by
 show (if aR T i=true then S.fr i else S2.fr i)↔S2.fr i
 split
 ·exact (h i (by assumption)).2.symm
 ·exact Iff.rfl)
theorem xt {l:List Nat} {i:Nat} (h:wt (.wr l) i=false):aR (.wr l) i=false:=by simpa [wt,aR,Fp.wr] using h
theorem LJ {T:Fp} {i:Nat} (h:T.w=false):wt T i=false:=by unfold wt;rw [h];rfl
structure Step (P:Program) (o:Oper) (ρ:Operand→A) (h h':H) (T:Fp) (pv:A):Prop where
 out:∀i,aR T i=false→(hp h').ob i=(hp h).ob i∧((hp h').fr i↔(hp h).fr i)
 rd:∀i,wt T i=false→(hp h').ob i=(hp h).ob i∧((hp h').fr i↔(hp h).fr i)
 ok:∀S2,bK T (hp h) S2→Hl P o ρ S2 (l6 T (hp h') S2) pv
theorem Step.read {P:Program} {o:Oper} {ρ:Operand→A} {h:H} {pv:A} (T:Fp) (k:∀S2,bK T (hp h) S2→gJ P o ρ S2 S2 pv) (hd:∀c,o.op≠.defer c):Step P o ρ h h T pv where
 out:=fun _ _=>⟨rfl,Iff.rfl⟩
 rd:=fun _ _=>⟨rfl,Iff.rfl⟩
 ok:=fun S2 hS=>by rw [rU hS];exact (k S2 hS).Rh hd
theorem Step.pure {P:Program} {o:Oper} {ρ:Operand→A} {h:H} {pv:A} (k:∀S2,gJ P o ρ S2 S2 pv) (hd:∀c,o.op≠.defer c):Step P o ρ h h .no pv:=.read .no (fun S2 _=>k S2) hd
theorem gJ.cn {P:Program} {o:Oper} {ρ:Operand→A} {S S':Hp} {pv:A} (h:∀(g:G) (w:World) (a:Act),Inv g S w→(∀x∈o.op.operands,V g (ρ x) (a.eval x))→gJ P o ρ S S' pv):gJ P o ρ S S' pv:=
 fun g w a next Q hI hv K=>h g w a hI hv g w a next Q hI hv K
theorem aM {o:Nat} {l:List Nat} {w:Bool} {s:List Nat} (h:o<16777216) (hm:fT o∈l):aR ⟨false,l,w,s⟩ o=true:=by
 unfold aR
 rw [pX h,Bool.false_or,List.any_eq_true]
 exact ⟨_,hm,by simp⟩
theorem df {r j:Nat} {l:List Nat} {w:Bool} {s:List Nat} (h:r<64) (hm:kA r∈l):aR ⟨false,l,w,s⟩ (gV r j)=true:=by
 unfold aR
 rw [L1 h,Bool.false_or,List.any_eq_true]
 exact ⟨_,hm,by simp⟩
end
section
open Go.RowKit
inductive Up where
 | set (i:Nat) (x:Ob)
 | new (i:Nat) (x:Ob)
 | del (i:Nat)
def Up.id:Up→Nat
 | .set i _=>i
 | .new i _=>i
 | .del i=>i
def Up.app:Up→Hp→Hp
 | .set i x,S=>S.set i x
 | .new i x,S=>S.new i x
 | .del i,S=>S.del i
def app:List Up→Hp→Hp
 | [],S=>S
 | u::us,S=>app us (u.app S)
theorem Up.out (u:Up) (S:Hp) (i:Nat) (h:i≠u.id):(u.app S).ob i=S.ob i∧((u.app S).fr i↔S.fr i):=by
 cases u with
 | set j x=>exact ⟨if_neg h,Iff.rfl⟩
 | new j x=>exact ⟨if_neg h,⟨fun k=>k.1,fun k=>⟨k,h⟩⟩⟩
 | del j=>exact ⟨if_neg h,Iff.rfl⟩
theorem Up.congr (u:Up) (S S2:Hp) (i:Nat) (h1:S2.ob i=S.ob i) (h2:S2.fr i↔S.fr i):(u.app S2).ob i=(u.app S).ob i∧((u.app S2).fr i↔(u.app S).fr i):=by
 cases u with
 | set j x=>exact ⟨by show (if i=j then _ else _)=(if i=j then _ else _);rw [h1],h2⟩
 | new j x=>exact ⟨by show (if i=j then _ else _)=(if i=j then _ else _);rw [h1],by show (S2.fr i∧i≠j)↔(S.fr i∧i≠j);rw [h2]⟩
 | del j=>exact ⟨by show (if i=j then _ else _)=(if i=j then _ else _);rw [h1],h2⟩
theorem gI:∀(us:List Up) (S:Hp) (i:Nat),(∀u∈us,i≠u.id)→(app us S).ob i=S.ob i∧((app us S).fr i↔S.fr i)
 | [],_,_,_=>⟨rfl,Iff.rfl⟩
 | u::us,S,i,h=>by
  have h1:=gI us (u.app S) i (fun v hv=>h v (zT _ hv))
  have h2:=u.out S i (h u (zV ..))
  exact ⟨h1.1.trans h2.1,h1.2.trans h2.2⟩
theorem ql:∀(us:List Up) (S S2:Hp) (i:Nat),S2.ob i=S.ob i→(S2.fr i↔S.fr i)→(app us S2).ob i=(app us S).ob i∧((app us S2).fr i↔(app us S).fr i)
 | [],_,_,_,h1,h2=>⟨h1,h2⟩
 | u::us,S,S2,i,h1,h2=>let ⟨k1,k2⟩:=u.congr S S2 i h1 h2;ql us (u.app S) (u.app S2) i k1 k2
theorem lR {T:Fp} {us:List Up} {S S2:Hp} (hT:∀u∈us,aR T u.id=true) (h:bK T S S2):l6 T (app us S) S2=app us S2:=by
 refine Hp.ext' (fun i=>?_) (fun i=>?_)
 ·show (if aR T i=true then (app us S).ob i else S2.ob i)=_
  split
  ·rename_i hi;exact ((ql us S S2 i (h i hi).1 (h i hi).2).1).symm
  ·rename_i hi;exact ((gI us S2 i (fun u hu e=>hi (e▸hT u hu))).1).symm
 ·show (if aR T i=true then (app us S).fr i else S2.fr i)↔_
  split
  ·rename_i hi;exact ((ql us S S2 i (h i hi).1 (h i hi).2).2).symm
  ·rename_i hi;exact ((gI us S2 i (fun u hu e=>hi (e▸hT u hu))).2).symm
theorem Step.of {P:Program} {o:Oper} {ρ:Operand→A} {h h':H} {T:Fp} {pv:A} (us:List Up) (hh:hp h'=app us (hp h)) (hw:T.w=true) (hT:∀u∈us,aR T u.id=true) (k:∀S2,bK T (hp h) S2→gJ P o ρ S2 (app us S2) pv) (hd:∀c,o.op≠.defer c) (hs:T.ws=T.rs:=by rfl) (ha:T.all=false:=by rfl):Step P o ρ h h' T pv where
 out:=fun i hi=>by rw [hh];exact gI us _ i (fun u hu e=>by rw [e,hT u hu] at hi;cases hi)
 rd:=fun i hi=>by
  have hi:(T.w && T.ws.any (Nat.beq (res i)))=false:=hi
  rw [hw,hs,Bool.true_and] at hi
  rw [hh]
  exact gI us _ i (fun u hu e=>by
   have:=hT u hu
   unfold aR at this
   rw [←e,ha,hi] at this;cases this)
 ok:=fun S2 hS=>by rw [hh,lR hT hS];exact (k S2 hS).Rh hd
theorem Step.of2 {P:Program} {o:Oper} {ρ:Operand→A} {h h':H} {T:Fp} {pv:A} (us:List Up) (hh:hp h'=app us (hp h)) (hT:∀u∈us,aR T u.id=true) (hW:∀u∈us,wt T u.id=true) (k:∀S2,bK T (hp h) S2→gJ P o ρ S2 (app us S2) pv) (hd:∀c,o.op≠.defer c):Step P o ρ h h' T pv where
 out:=fun i hi=>by rw [hh];exact gI us _ i (fun u hu e=>by rw [e,hT u hu] at hi;cases hi)
 rd:=fun i hi=>by rw [hh];exact gI us _ i (fun u hu e=>by rw [e,hW u hu] at hi;cases hi)
 ok:=fun S2 hS=>by rw [hh,lR hT hS];exact (k S2 hS).Rh hd
def Fp.p2 (x y:Nat) (l:List Nat):Fp:=⟨false,x::y::l,true,[x,y]⟩
theorem tH {h:H} {t':Tr jJ} {q:Nat} {x:jJ} (hq:q<16777216) (ht:t'.get=fun m=>if m=q then some x else h.t.get m):hp { h with t:=t' }=app [.set q x.low] (hp h):=by
 refine Hp.ext' (fun i=>?_) (fun i=>Iff.rfl)
 show (if i<dJ then ir t' i else fq h.rg i)=(if i=q then some x.low else (if i<dJ then ir h.t i else fq h.rg i))
 unfold ir
 rw [ht]
 by_cases hi:i=q
 ·subst hi;rw [if_pos (show i<dJ from hq),if_pos rfl];simp
 ·rw [if_neg hi];simp only [if_neg hi]
theorem JK {h:H} {t':Tr jJ} {x:jJ} (hq:h.bF<16777216) (ht:t'.get=fun m=>if m=h.bF then some x else h.t.get m):hp { h with t:=t',bF:=h.bF+1 }=app [.new h.bF x.low] (hp h):=by
 refine Hp.ext' (fun i=>?_) (fun i=>?_)
 ·show (if i<dJ then ir t' i else fq h.rg i)=(if i=h.bF then some x.low else (if i<dJ then ir h.t i else fq h.rg i))
  unfold ir
  rw [ht]
  by_cases hi:i=h.bF
  ·rw [hi,if_pos (show h.bF<dJ from hq),if_pos rfl];simp
  ·rw [if_neg hi];simp only [if_neg hi]
 ·show (if i<dJ then h.bF+1≤i else iM h.rg i)↔(if i<dJ then h.bF≤i else iM h.rg i)∧i≠h.bF
  unfold dJ
  by_cases hi:i<16777216
  ·rw [if_pos hi,if_pos hi];omega
  ·rw [if_neg hi,if_neg hi];exact ⟨fun k=>⟨k,by omega⟩,fun k=>k.1⟩
theorem vS {h:H} {t':Tr jJ} {q:Nat} (hq:q<16777216) (ht:t'.get=fun m=>if m=q then none else h.t.get m):hp { h with t:=t' }=app [.del q] (hp h):=by
 refine Hp.ext' (fun i=>?_) (fun i=>Iff.rfl)
 show (if i<dJ then ir t' i else fq h.rg i)=(if i=q then none else (if i<dJ then ir h.t i else fq h.rg i))
 unfold ir
 rw [ht]
 by_cases hi:i=q
 ·subst hi;rw [if_pos (show i<dJ from hq),if_pos rfl];simp
 ·rw [if_neg hi];simp only [if_neg hi]
theorem mm {h:H} {q:Nat} (hq:q<16777216):(hp h).ob q=ir h.t q:=if_pos hq
def lJ:List Rg→Nat→(k:RK)→k.T→List Rg
 | [],_,_,_=>[]
 | x::l,r,k,c=>bif Nat.beq x.r r then ⟨r,k,c⟩::l else x::lJ l r k c
theorem pW:∀(l:List Rg) (r:Nat) (k:RK) (c:k.T) (r':Nat) (x:Rg),cj l r=some x→cj (lJ l r k c) r'=if r'=r then some ⟨r,k,c⟩ else cj l r'
 | [],r,k,c,r',x,h=>by cases h
 | y::l,r,k,c,r',x,h=>by
  unfold lJ
  unfold cj at h
  cases hy:Nat.beq y.r r with
  | true=>
   simp only [cond_true]
   unfold cj
   have hyr:=beq_eq hy
   by_cases hr:r'=r
   ·subst hr
    rw [if_pos rfl]
    show (bif Nat.beq r' r' then _ else _)=_
    rw [Nat.beq_refl];rfl
   ·rw [if_neg hr]
    have h1:Nat.beq r r'=false:=by cases hx:Nat.beq r r' with | false=>rfl | true=>exact absurd (beq_eq hx).symm hr
    rw [show Nat.beq y.r r'=false by rw [hyr];exact h1]
    show (bif Nat.beq r r' then _ else _)=_
    rw [h1];rfl
  | false=>
   simp only [cond_false]
   rw [hy] at h
   simp only [cond_false] at h
   unfold cj
   cases qW:Nat.beq y.r r' with
   | true=>
    have:=beq_eq qW
    rw [if_neg (fun e=>by subst e;rw [this,Nat.beq_refl] at hy;cases hy)];rfl
   | false=>exact pW l r k c r' x h
theorem nt {rg:List Rg} {r j:Nat} {x:Rg} (hr:r<64) (h:cj rg r=some x):fq rg (gV r j)=fp x.k x.c j:=by
 unfold fq
 rw [nW hr,h,lT hr]
theorem iL {rg:List Rg} {r j:Nat} {x:Rg} (hr:r<64) (h:cj rg r=some x):iM rg (gV r j)↔qM x.k x.c≤j:=by
 unfold iM
 rw [nW hr,h,lT hr]
theorem iT {h:H} {r j:Nat}:(hp h).ob (gV r j)=fq h.rg (gV r j)∧((hp h).fr (gV r j)↔iM h.rg (gV r j)):=by
 have hn:¬gV r j<dJ:=Nat.not_lt.2 (qL r j)
 generalize gV r j=i at hn
 exact ⟨if_neg hn,by show (if i<dJ then _ else _)↔_;rw [if_neg hn]⟩
theorem oe {h:H} {r:Nat} {x:Rg} {k:RK} {c:k.T} (h0:cj h.rg r=some x) (i:Nat):(hp { h with rg:=lJ h.rg r k c }).ob i=(if ¬i<dJ∧oM i=r then fp k c (EU i) else (hp h).ob i)∧((hp { h with rg:=lJ h.rg r k c }).fr i↔if ¬i<dJ∧oM i=r then qM k c≤EU i else (hp h).fr i):=by
 by_cases hi:i<dJ
 ·rw [if_neg (fun k=>k.1 hi),if_neg (fun k=>k.1 hi)]
  exact ⟨by show (if i<dJ then _ else _)=(if i<dJ then _ else _);rw [if_pos hi,if_pos hi],by show (if i<dJ then _ else _)↔(if i<dJ then _ else _);rw [if_pos hi,if_pos hi]⟩
 ·have e1:(hp { h with rg:=lJ h.rg r k c }).ob i=fq (lJ h.rg r k c) i:=if_neg hi
  have e2:(hp { h with rg:=lJ h.rg r k c }).fr i↔iM (lJ h.rg r k c) i:=by show (if i<dJ then _ else _)↔_;rw [if_neg hi]
  have e3:(hp h).ob i=fq h.rg i:=if_neg hi
  have e4:(hp h).fr i↔iM h.rg i:=by show (if i<dJ then _ else _)↔_;rw [if_neg hi]
  rw [e1,e2,e3,e4]
  unfold fq iM
  rw [pW h.rg r k c (oM i) x h0]
  by_cases hr:oM i=r
  ·rw [if_pos hr,if_pos ⟨hi,hr⟩,if_pos ⟨hi,hr⟩];exact ⟨rfl,Iff.rfl⟩
  ·rw [if_neg hr,if_neg (fun k=>hr k.2),if_neg (fun k=>hr k.2)];exact ⟨rfl,Iff.rfl⟩
theorem zk {α:Type} (l:List α) (x:α) (j:Nat):nz (cat l [x]) j=if j=l.length then some x else nz l j:=by
 unfold nz cat
 by_cases h:j=l.length
 ·subst h;simp
 ·rw [if_neg h]
  by_cases h1:j<l.length
  ·rw [zK h1]
  ·rw [zJ (by omega),zb (by simp;omega),zb (by omega)]
theorem sC {α:Type} (l:List α) (i j:Nat) (x:α):nz (aT l i x) j=if j=i∧i<l.length then some x else nz l j:=by
 unfold nz aT
 rw [List.getElem?_set]
 by_cases h:i=j
 ·subst h
  rw [if_pos rfl]
  by_cases h1:i<l.length
  ·rw [if_pos h1,if_pos ⟨rfl,h1⟩]
  ·rw [if_neg h1,if_neg (fun k=>h1 k.2),zb (by omega)]
 ·rw [if_neg h,if_neg (fun k=>h k.1.symm)]
theorem sv {h:H} {r:Nat} {x:Rg} {k:RK} {c:k.T} {n:Nat} {ob:Ob} (hr:r<64) (h0:cj h.rg r=some x) (hn:qM x.k x.c=n) (h1:qM k c=n+1) (h2:∀j,fp k c j=if j=n then some ob else fp x.k x.c j):hp { h with rg:=lJ h.rg r k c }=app [.new (gV r n) ob] (hp h):=by
 refine Hp.ext' (fun i=>?_) (fun i=>?_)
 ·rw [(oe (k:=k) (c:=c) h0 i).1]
  show _=(if i=gV r n then some ob else (hp h).ob i)
  by_cases hi:¬i<dJ∧oM i=r
  ·rw [if_pos hi,h2]
   have e:=ve hi.1
   rw [hi.2] at e
   by_cases hj:EU i=n
   ·rw [if_pos hj,if_pos (by rw [e,hj])]
   ·rw [if_neg hj,if_neg (fun e2=>hj (by rw [e2,lT hr])),e,iT.1,nt hr h0,lT hr]
  ·rw [if_neg hi,if_neg (fun e=>hi (by rw [e];exact ⟨Nat.not_lt.2 (qL r n),nW hr⟩))]
 ·rw [(oe (k:=k) (c:=c) h0 i).2]
  show _↔(hp h).fr i∧i≠gV r n
  by_cases hi:¬i<dJ∧oM i=r
  ·rw [if_pos hi,h1]
   have e:=ve hi.1
   rw [hi.2] at e
   rw [show (hp h).fr i↔n≤EU i by rw [e,iT.2,iL hr h0,hn,lT hr]]
   refine ⟨fun k=>⟨by omega,fun e2=>?_⟩,fun k=>?_⟩
   ·rw [e2,lT hr] at k;omega
   ·have:EU i≠n:=fun hj=>k.2 (by rw [e,hj])
    omega
  ·rw [if_neg hi]
   exact ⟨fun k=>⟨k,fun e=>hi (by rw [e];exact ⟨Nat.not_lt.2 (qL r n),nW hr⟩)⟩,fun k=>k.1⟩
theorem vR {h:H} {r j:Nat} {x:Rg} {k:RK} {c:k.T} {u:Up} (hr:r<64) (h0:cj h.rg r=some x) (h1:qM k c=qM x.k x.c) (h2:∀i,i≠j→fp k c i=fp x.k x.c i) (h3:u.id=gV r j) (h4:(u.app (hp h)).ob (gV r j)=fp k c j) (h5:(u.app (hp h)).fr=(hp h).fr):hp { h with rg:=lJ h.rg r k c }=app [u] (hp h):=by
 refine Hp.ext' (fun i=>?_) (fun i=>?_)
 ·rw [(oe (k:=k) (c:=c) h0 i).1]
  show _=(u.app (hp h)).ob i
  by_cases hi:¬i<dJ∧oM i=r
  ·rw [if_pos hi]
   have e:=ve hi.1
   rw [hi.2] at e
   by_cases hj:EU i=j
   ·rw [hj] at e ⊢;rw [e,h4]
   ·rw [h2 _ hj,(u.out (hp h) i (fun e2=>hj (by rw [e2,h3,lT hr]))).1,e,iT.1,nt hr h0,lT hr]
  ·rw [if_neg hi,(u.out (hp h) i (fun e=>hi (by rw [e,h3];exact ⟨Nat.not_lt.2 (qL r j),nW hr⟩))).1]
 ·rw [(oe (k:=k) (c:=c) h0 i).2]
  show _↔(u.app (hp h)).fr i
  rw [h5]
  by_cases hi:¬i<dJ∧oM i=r
  ·rw [if_pos hi,h1]
   have e:=ve hi.1
   rw [hi.2] at e
   rw [e,iT.2,iL hr h0,lT hr]
  ·rw [if_neg hi]
end
section
open Go.RowKit
theorem nB {α:Type} (f:α→List D) (l:List α):(l.map f).flatten=l.flatMap f:=by rw [List.flatMap_def]
theorem bT (t:Ty) (l:List t.T):(l.flatMap (aJ t)).length=l.length*t.size:=by
 induction l with
 | nil=>simp
 | cons a l ih=>rw [List.flatMap_cons,zY,ih,cQ,zR,Nat.succ_mul,Nat.add_comm]
theorem lf (t:Ty) (l:List t.T) (off n:Nat):((l.flatMap (aJ t)).drop (off*t.size)).take (n*t.size)=((l.drop off).take n).flatMap (aJ t):=by
 have h1:l.flatMap (aJ t)=(l.take off).flatMap (aJ t)++(l.drop off).flatMap (aJ t):=by rw [←List.flatMap_append,zP]
 by_cases hl:off≤l.length
 ·have h2:((l.take off).flatMap (aJ t)).length=off*t.size:=by rw [bT,List.length_take,Nat.min_eq_left hl]
  rw [h1,List.drop_append,List.drop_eq_nil_of_le (by omega),List.nil_append,h2,Nat.sub_self,List.drop_zero]
  generalize l.drop off=k
  have h3:k.flatMap (aJ t)=(k.take n).flatMap (aJ t)++(k.drop n).flatMap (aJ t):=by rw [←List.flatMap_append,zP]
  by_cases hk:n≤k.length
  ·have h4:((k.take n).flatMap (aJ t)).length=n*t.size:=by rw [bT,List.length_take,Nat.min_eq_left hk]
   rw [h3,List.take_append_of_le_length (by omega),za (by omega)]
  ·rw [za (by rw [bT];exact zW _ (by omega)),za (l:=k) (by omega)]
 ·rw [List.drop_eq_nil_of_le (as:=l) (by omega),List.drop_eq_nil_of_le (by rw [bT];exact zW _ (by omega))]
  simp
theorem VD.I3 {g:G} {t:Ty} (hd:t.data=true) {l:List t.T} {us:List Value} {b off cap:Nat} (hv:Vs g (l.flatMap (aJ t)) us) (hm:∀(j:Nat) (x:Value),us[j]?=some x→g.mem b (off+j)=some x) (hc:l.length≤cap) (hx:cap≤maxLen) :
  VD g.mem (.sl t.size false (l.map (eH t))) (.slice (some ⟨b,off,none⟩) l.length cap):=by
 have h1:=J8 (fun x vs h=>Vs.data t x vs hd h) (fun x=>by rw [cQ,fO]) l us hv
 have:=VD.sl (M:=g.mem) t.size false (l.map (eH t)) (some (b,off)) cap us (fun e he=>by obtain ⟨x,_,rfl⟩:=List.mem_map.1 he;exact fO t x) (by simpa using hc) (fun h=>by cases h) (fun h=>by cases h) hx (by rw [nB];exact h1.1) (fun p j x hp hj=>by cases hp;exact hm j x hj) (fun j c x e1 e2=>by rw [nB] at e1;exact h1.2 j c x e1 e2)
 rw [zH] at this
 exact this
theorem Inv.freeze {g:G} {S:Hp} {w:World} (h:Inv g S w) {o:Nat} {t:Ty} {l:List t.T} (hd:t.data=true) (h0:0<t.size) (ho:S.ob o=some (.cells (l.flatMap (aJ t)))) :
  ∃g',Inv g' (S.del o) w∧Ext S g w (S.del o) g' w∧(∀v,V g (.tw (.loc o) t.size) v→V g' (.tl t false l) v)∧∀off n v,off+n≤l.length→V g (.ts (.loc o) t.size off n) v→V g' (.tl t false (tk n (dr off l))) v:=by
 have hlen:=bT t l
 have BF:∀i x,(S.del o).ob i=some x→S.ob i=some x:=fun i x e=>by
  have e:(if i=o then none else S.ob i)=some x:=e
  split at e
  ·cases e
  ·exact e
 rcases h.cells o _ ho with ⟨k1,k2⟩ | ⟨b,tt,k1,_⟩
 ·have hl:l=[]:=zZ (by
   rw [k2] at hlen
   rcases Nat.eq_zero_or_pos l.length with h | h
   ·exact h
   ·have:0<l.length*t.size:=Nat.mul_pos h h0
    simp at hlen;omega)
  subst hl
  refine ⟨g,h.less BF (fun _ e=>e),Ext.less BF (fun _ e=>e),fun v hv=>?_,fun off n v hle hv=>?_⟩
  ·cases hv with
   | Ai _ _ ad _=>exact .tl t false [] _ (.wR _ _ ad)
   | tw _ _ n b cap tt h1=>rw [show (Ref.loc o).id=o from rfl,k1] at h1;cases h1
  ·cases hv with
   | xv _ _ _ _ ad _ hn=>
    rw [show tk n (dr off ([]:List t.T))=[] by simp [tk,dr]]
    exact .tl t false [] _ (.wR _ _ ad)
   | ts _ _ _ _ b cap s h1=>rw [show (Ref.loc o).id=o from rfl,k1] at h1;cases h1
 ·obtain ⟨cur,ty,q1,q2,q3,q4,q5,q6⟩:=h.frz ho k1
  refine ⟨_,q5,q6,fun v hv=>?_,fun off n v hle hv=>?_⟩
  ·cases hv with
   | Ai _ _ ad h1=>rw [show (Ref.loc o).id=o from rfl,k1] at h1;cases h1
   | tw _ _ n b' cap LL h1 hn hx hp d qt=>
    rw [show (Ref.loc o).id=o from rfl,k1] at h1
    simp only [zI,zU] at h1
    obtain ⟨rfl,h2,rfl⟩:=h1
    have RH:n=l.length:=Nat.eq_of_mul_eq_mul_right h0 (by rw [←h2,hlen])
    subst RH
    by_cases hc:cap=0
    ·have:l=[]:=zZ (by omega)
     subst this;subst hc
     exact .tl t false [] _ (.wR _ _ _)
    ·rw [qt hc]
     refine .tl t false l _ (VD.I3 hd (q3.mono q4) (fun j x hj=>?_) hn hx)
     show (if b=b then (if 0+j<(l.flatMap (aJ t)).length then cur[0+j]? else none) else g.mem b (0+j))=some x
     rw [if_pos rfl,Nat.zero_add]
     rw [List.getElem?_take] at hj
     split at hj
     ·rename_i dP;rw [if_pos dP];simpa using hj
     ·cases hj
  ·cases hv with
   | xv _ _ _ _ ad h1=>rw [show (Ref.loc o).id=o from rfl,k1] at h1;cases h1
   | ts _ _ _ _ b' cap s h1 hn hx hs hp d qt=>
    rw [show (Ref.loc o).id=o from rfl,k1] at h1
    simp only [zI,zU] at h1
    obtain ⟨rfl,rfl⟩:=h1
    have xh:((l.drop off).take n).length=n:=by simp;omega
    by_cases hc:cap=0
    ·have:n=0:=by omega
     subst this;subst hc
     exact .tl t false _ _ (.wR _ _ _)
    ·rw [qt hc]
     have MO:=(q3.part (off*t.size) (n*t.size)).mono q4
     rw [lf] at MO
     have:=VD.I3 (b:=b) (off:=off*t.size) (cap:=cap) hd MO (fun j x hj=>by
      show (if b=b then (if off*t.size+j<(l.flatMap (aJ t)).length then cur[off*t.size+j]? else none) else g.mem b (off*t.size+j))=some x
      rw [if_pos rfl]
      rw [List.getElem?_take] at hj
      split at hj
      ·rw [List.getElem?_drop,List.getElem?_take] at hj
       split at hj
       ·rename_i dP;rw [if_pos dP];simpa using hj
       ·cases hj
      ·cases hj) (by rw [xh];exact hn) hx
     rw [xh] at this
     exact .tl t false _ _ this
theorem Inv.yU {g:G} {S:Hp} {w:World} (h:Inv g S w) {o i:Nat} {X Y:Ref} (hX:X.id=i) (hY:Y.id=o) {t:Ty} {l:List t.T} (h0:0<t.size) (ho:S.ob o=some (.cells (l.flatMap (aJ t)))) (hf:S.fr i) {m:Nat} (hm:m≤l.length) :
  ∃g',Inv g' ((S.del o).new i (.cells ((tk m l).flatMap (aJ t)))) w∧Ext S g w ((S.del o).new i (.cells ((tk m l).flatMap (aJ t)))) g' w∧(∀v,m=l.length→V g (.tw Y t.size) v→V g' (.tw X t.size) v)∧∀v,V g (.ts Y t.size 0 m) v→V g' (.tw X t.size) v:=by
 have hlen:=bT t l
 have htk:(l.flatMap (aJ t)).take (m*t.size)=(tk m l).flatMap (aJ t):=by
  have:=lf t l 0 m
  simpa [tk] using this
 rcases h.cells o _ ho with ⟨k1,k2⟩ | ⟨b,tt,k1,_⟩
 ·have hl:l=[]:=zZ (by
   rw [k2] at hlen
   rcases Nat.eq_zero_or_pos l.length with h | h
   ·exact h
   ·have:0<l.length*t.size:=Nat.mul_pos h h0
    simp at hlen;omega)
  subst hl
  have BF:∀i x,(S.del o).ob i=some x→S.ob i=some x:=fun i x e=>by
   have e:(if i=o then none else S.ob i)=some x:=e
   split at e
   ·cases e
   ·exact e
  have h1:=h.less (S':=S.del o) BF (fun _ e=>e)
  have h2:=Ext.less (S:=S) (S':=S.del o) (g:=g) (w:=w) BF (fun _ e=>e)
  obtain ⟨q1,q2⟩:=h1.emp (o:=i) hf
  have e:(tk m ([]:List t.T)).flatMap (aJ t)=[]:=by simp [tk]
  rw [e]
  refine ⟨_,q1,h2.trans q2,fun v _ hv=>?_,fun v hv=>?_⟩
  ·cases hv with
   | Ai _ _ ad _=>exact .Ai X t.size ad (by rw [hX];exact dG)
   | tw _ _ n b cap tt h1=>rw [hY,k1] at h1;cases h1
  ·cases hv with
   | xv _ _ _ _ ad _ _=>exact .Ai X t.size ad (by rw [hX];exact dG)
   | ts _ _ _ _ b cap s h1=>rw [hY,k1] at h1;cases h1
 ·obtain ⟨q1,q2⟩:=h.ren (m:=m*t.size) ho hf k1 (by rw [hlen];exact zW _ hm)
  rw [htk] at q1 q2
  refine ⟨_,q1,q2,fun v GO hv=>?_,fun v hv=>?_⟩
  ·subst GO
   cases hv with
   | Ai _ _ ad h1=>rw [hY,k1] at h1;cases h1
   | tw _ _ n b' cap LL h1 hn hx hp d qt=>
    rw [hY,k1] at h1
    simp only [zI,zU] at h1
    obtain ⟨rfl,h2,rfl⟩:=h1
    have RH:n=l.length:=Nat.eq_of_mul_eq_mul_right h0 (by rw [←h2,hlen])
    subst RH
    exact .tw X t.size _ b cap tt (by rw [hX];exact dG) hn hx hp d qt
  ·cases hv with
   | xv _ _ _ _ ad h1=>rw [hY,k1] at h1;cases h1
   | ts _ _ _ _ b' cap s h1 hn hx hs hp d qt=>
    rw [hY,k1] at h1
    simp only [zI,zU] at h1
    obtain ⟨rfl,rfl⟩:=h1
    simp only [Nat.zero_add,Nat.zero_mul] at hp qt
    exact .tw X t.size m b cap tt (by rw [hX];exact dG) hn hx hp d qt
end
section
open Go.RowKit
def Bv (h:H) (i:Nat):Bool:=h.lk.any (Nat.beq i)
def Cv (h h':H) (T:List Nat) (cs kq:List A):Prop:=
 ∃us,hp h'=app us (hp h)∧(∀u∈us,aR (Fp.wr (T)) u.id=true)∧∀g S w vs,Inv g S w→bK (Fp.wr (T)) (hp h) S→Vs g cs vs→∃g',Inv g' (app us S) w∧Ext S g w (app us S) g' w∧Vs g' kq vs
theorem gK {T U:List Nat} {w w':Bool} {s s':List Nat} (h:∀i∈T,i∈U) {i:Nat} (k:aR ⟨false,T,w,s⟩ i=true):aR ⟨false,U,w',s'⟩ i=true:=by
 unfold aR at k ⊢
 simp only [Bool.false_or,List.any_eq_true] at k ⊢
 obtain ⟨j,h1,h2⟩:=k
 exact ⟨j,h j h1,h2⟩
theorem kM:∀(us vs:List Up) (S:Hp),app (us++vs) S=app vs (app us S)
 | [],_,_=>rfl
 | u::us,vs,S=>kM us vs (u.app S)
theorem bK.mono {T U:List Nat} {w w':Bool} {s s':List Nat} {S S2:Hp} (h:∀i∈T,i∈U) (k:bK ⟨false,U,w,s⟩ S S2):bK ⟨false,T,w',s'⟩ S S2:=fun i hi=>k i (gK h hi)
theorem bK.app {T:Fp} {S S2:Hp} (us:List Up) (k:bK T S S2):bK T (app us S) (app us S2):=fun i hi=>ql us S S2 i (k i hi).1 (k i hi).2
theorem Cv.refl (h:H) (T:List Nat) (cs:List A):Cv h h T cs cs:=⟨[],rfl,fun u hu=>(by simp at hu),fun g S w vs hI _ hv=>⟨g,hI,.refl S g w,hv⟩⟩
theorem Cv.trans {h h1 h2:H} {T1 T2:List Nat} {cs Fu Qx:List A} (a:Cv h h1 T1 cs Fu) (b:Cv h1 h2 T2 Fu Qx):Cv h h2 (T1++T2) cs Qx:=by
 obtain ⟨us,a1,a2,a3⟩:=a
 obtain ⟨vs,b1,b2,b3⟩:=b
 refine ⟨us++vs,by rw [kM,←a1,b1],fun u hu=>?_,fun g S w xs hI hA hv=>?_⟩
 ·rcases zX.1 hu with h | h
  ·exact gK (fun i hi=>zQ _ hi) (a2 u h)
  ·exact gK (fun i hi=>zS _ hi) (b2 u h)
 ·obtain ⟨g1,k1,k2,k3⟩:=a3 g S w xs hI (hA.mono fun i hi=>zQ _ hi) hv
  have J0:bK (Fp.wr (T2)) (hp h1) (app us S):=by rw [a1];exact (hA.mono (fun i hi=>zS _ hi)).app us
  obtain ⟨g2,q1,q2,q3⟩:=b3 g1 _ w xs k1 J0 k3
  rw [kM]
  exact ⟨g2,q1,k2.trans q2,q3⟩
theorem Cv.append {h h1 h2:H} {T1 T2:List Nat} {cs Fu ds pC:List A} (a:Cv h h1 T1 cs Fu) (b:Cv h1 h2 T2 ds pC):Cv h h2 (T1++T2) (cs++ds) (Fu++pC):=by
 have a':Cv h h1 T1 (cs++ds) (Fu++ds):=by
  obtain ⟨us,a1,a2,a3⟩:=a
  refine ⟨us,a1,a2,fun g S w xs hI hA hv=>?_⟩
  obtain ⟨v1,v2⟩:=hv.split
  obtain ⟨g1,k1,k2,k3⟩:=a3 g S w _ hI hA v1
  have:=k3.append (v2.mono k2.le)
  rw [zP] at this
  exact ⟨g1,k1,k2,this⟩
 have b':Cv h1 h2 T2 (Fu++ds) (Fu++pC):=by
  obtain ⟨us,a1,a2,a3⟩:=b
  refine ⟨us,a1,a2,fun g S w xs hI hA hv=>?_⟩
  obtain ⟨v1,v2⟩:=hv.split
  obtain ⟨g1,k1,k2,k3⟩:=a3 g S w _ hI hA v2
  have:=(v1.mono k2.le).append k3
  rw [zP] at this
  exact ⟨g1,k1,k2,this⟩
 exact a'.trans b'
theorem Vs.qo {g:G} {c:A} {vs:List Value} (h:Vs g [c] vs):∃v,vs=[v]∧V g c v∧v.oneCell'=true:=by
 match vs,h with
 | [v],h=>exact ⟨v,rfl,h.2 0 c v rfl rfl⟩
 | [],h=>exact absurd h.1 (by simp)
 | _::_::_,h=>exact absurd h.1 (by simp)
def Ni {β:Type} (t:Ty) (o:Nat) (h:H) (k:List t.T→H→Option β):Option β:=match h.t.get o with
 | some (.row t' l)=>match iz (.cB t') (.cB t) l with
  | some l'=>bif t.data && Nat.blt 0 t.size && !(Bv h (fT o)) then g_ h.t o none (fun t1=>k l' { h with t:=t1 }) else none
  | none=>none
 | _=>none
theorem E8 {β:Type} {t:Ty} {o:Nat} {h:H} {k:List t.T→H→Option β} {r:β} (hr:Ni t o h k=some r):∃l h',k l h'=some r∧o<16777216∧h.t.get o=some (.row t l)∧hp h'=app [.del o] (hp h)∧t.data=true∧0<t.size:=by
 unfold Ni at hr
 split at hr
 ·rename_i t' l hg
  split at hr
  ·rename_i l' hl
   obtain ⟨e,rfl⟩:=du hl
   cases e
   obtain ⟨h1,h2⟩:=ab hr
   simp only [zC] at h1
   obtain ⟨hq,t1,k1,k2⟩:=cp h2
   exact ⟨l,_,k1,by omega,hg,vS (by omega) k2,h1.1.1,by simpa using h1.1.2⟩
  ·cases hr
 ·cases hr
theorem vC {h:H} {o:Nat} {t:Ty} {l:List t.T} (ho:o<16777216) (hg:h.t.get o=some (.row t l)):(hp h).ob o=some (.cells (l.flatMap (aJ t))):=by
 rw [mm ho];unfold ir;rw [hg];rfl
def My {α:Type} (m:Option Nat) (l:List α):List α:=match m with
 | none=>l
 | some m=>tk m l
theorem sn {α:Type} (l:List α) (x:α):(cat l [x]).length=l.length+1:=by simp [cat]
def adR {β:Type} (r z o:Nat) (m:Option Nat) (h:H) (k:Nat→H→Option β):Option β:=match h.t.get o,cj h.rg r with
 | some (.row t' l),some ⟨_,.row t,c⟩=>match iz (.cB t') (.cB t) l with
  | some l'=>bif Nat.blt r 64 && Nat.beq z t.size && Nat.blt 0 t.size && !(Bv h (fT o)) && !(Bv h (kA r)) then g_ h.t o none (fun t1=>k (len (α:=Option (List t.T)) c) { h with t:=t1,rg:=lJ h.rg r (.row t) (cat (α:=Option (List t.T)) c [some (My m l')]) }) else none
  | none=>none
 | _,_=>none
theorem xG {t:Ty} {c:List (Option (List t.T))} {l:List t.T} (j:Nat):fp (.row t) (cat c [some l]) j=if j=c.length then some (.cells (l.flatMap (aJ t))) else fp (.row t) c j:=by
 show (match nz (cat c [some l]) j with | some (some l)=>some (Ob.cells (l.flatMap (aJ t))) | _=>none)=if j=c.length then some (Ob.cells (l.flatMap (aJ t))) else (match nz c j with | some (some l)=>some (Ob.cells (l.flatMap (aJ t))) | _=>none)
 rw [zk]
 by_cases h:j=c.length
 ·rw [if_pos h,if_pos h]
 ·rw [if_neg h,if_neg h]
theorem KX {β:Type} {r z o:Nat} {m:Option Nat} {h:H} {k:Nat→H→Option β} {x:β} (hr:adR r z o m h k=some x):∃(t:Ty) (l:List t.T) (j:Nat) (h':H),k j h'=some x∧o<16777216∧r<64∧z=t.size∧0<t.size∧h.t.get o=some (.row t l)∧(hp h).fr (gV r j)∧hp h'=app [.del o,.new (gV r j) (.cells ((My m l).flatMap (aJ t)))] (hp h):=by
 unfold adR at hr
 split at hr
 ·rename_i t' l _ t c hg hf
  split at hr
  ·rename_i l' hl
   obtain ⟨e,rfl⟩:=du hl
   cases e
   obtain ⟨h1,h2⟩:=ab hr
   simp only [zC] at h1
   obtain ⟨⟨⟨⟨h3,h4⟩,h5⟩,_⟩,_⟩:=h1
   have h3:r<64:=by simpa using h3
   obtain ⟨hq,t1,k1,k2⟩:=cp h2
   refine ⟨t',l,_,_,k1,by omega,h3,beq_eq h4,by simpa using h5,hg,?_,?_⟩
   ·rw [iT.2,iL h3 hf];exact Nat.le_refl _
   ·have e1:=vS (h:=h) (q:=o) (by omega) k2
    have e2:=sv (h:={ h with t:=t1 }) (k:=.row t') (c:=cat (α:=Option (List t'.T)) c [some (My m l)]) (n:=List.length (α:=Option (List t'.T)) c) h3 hf rfl (sn (α:=Option (List t'.T)) c _) (fun j=>xG (c:=c) (l:=My m l) j)
    rw [e1] at e2
    exact e2
  ·cases hr
 ·cases hr
theorem vm {t:Ty} {c:List t.T} {x:t.T} (j:Nat):fp (.box t) (cat c [x]) j=if j=c.length then some (.cells (aJ t x)) else fp (.box t) c j:=by
 show (match nz (cat c [x]) j with | some x=>some (Ob.cells (aJ t x)) | none=>none)=if j=c.length then some (Ob.cells (aJ t x)) else (match nz c j with | some x=>some (Ob.cells (aJ t x)) | none=>none)
 rw [zk]
 by_cases h:j=c.length
 ·rw [if_pos h,if_pos h]
 ·rw [if_neg h,if_neg h]
theorem CY {ka va:Bool} {tk tv:Ty} {c:List (List (tk.T×tv.T))} (j:Nat):fp (.map ka tk va tv) (cat c [[]]) j=if j=c.length then some (.d_ (.map [])) else fp (.map ka tk va tv) c j:=by
 show (match nz (cat c [[]]) j with | some es=>some (Ob.d_ (.map (es.map fun e=>(da ka tk e.1,da va tv e.2)))) | none=>none)=if j=c.length then some (Ob.d_ (.map [])) else (match nz c j with | some es=>some (Ob.d_ (.map (es.map fun e=>(da ka tk e.1,da va tv e.2)))) | none=>none)
 rw [zk]
 by_cases h:j=c.length
 ·rw [if_pos h,if_pos h];rfl
 ·rw [if_neg h,if_neg h]
def adV {β:Type} (r z i n:Nat) (h:H) (k:Nat→H→Option β):Option β:=match cj h.rg r with
 | some ⟨_,.row t,c⟩=>bif Nat.blt r 64 && Nat.beq z t.size && Nat.blt 0 t.size && !(Bv h (kA r)) then bd (aE (α:=t.T) c i) (fun l=>k (len (α:=Option (List t.T)) c) { h with rg:=lJ (lJ h.rg r (.row t) (aT (α:=Option (List t.T)) c i none)) r (.row t) (cat (α:=Option (List t.T)) (aT (α:=Option (List t.T)) c i none) [some (tk n l)]) }) else none
 | _=>none
theorem FY {α:Type} {c:List (Option (List α))} {j:Nat} {l:List α} (h:aE c j=some l):nz c j=some (some l):=by
 unfold aE at h
 unfold nz
 rw [zA] at h
 cases hc:c[j]? with
 | none=>rw [hc] at h;cases h
 | some x=>rw [hc] at h;simp at h;rw [h]
theorem Ay {α:Type} (l:List α) (i:Nat) (x:α):(aT l i x).length=l.length:=zM ..
theorem tY {t:Ty} {c:List (Option (List t.T))} {j:Nat} (hj:j<c.length) (i:Nat):fp (.row t) (aT c j none) i=if i=j then none else fp (.row t) c i:=by
 show (match nz (aT c j none) i with | some (some l)=>some (Ob.cells (l.flatMap (aJ t))) | _=>none)=if i=j then none else (match nz c i with | some (some l)=>some (Ob.cells (l.flatMap (aJ t))) | _=>none)
 rw [sC]
 by_cases h:i=j
 ·subst h;rw [if_pos ⟨rfl,hj⟩,if_pos rfl]
 ·rw [if_neg (fun k=>h k.1),if_neg h]
theorem SN {β:Type} {r z i n:Nat} {h:H} {k:Nat→H→Option β} {x:β} (hr:adV r z i n h k=some x):∃(t:Ty) (l:List t.T) (j:Nat) (h':H),k j h'=some x∧r<64∧z=t.size∧0<t.size∧(hp h).ob (gV r i)=some (.cells (l.flatMap (aJ t)))∧(hp h).fr (gV r j)∧hp h'=app [.del (gV r i),.new (gV r j) (.cells ((tk n l).flatMap (aJ t)))] (hp h):=by
 unfold adV at hr
 split at hr
 ·rename_i _ t c hf
  obtain ⟨h1,h2⟩:=ab hr
  simp only [zC] at h1
  obtain ⟨⟨⟨h3,h4⟩,h5⟩,_⟩:=h1
  have h3:r<64:=by simpa using h3
  obtain ⟨l,hl,hk⟩:=wF h2
  have hg:=FY hl
  have dP:i<List.length (α:=Option (List t.T)) c:=(zB.1 hg).1
  refine ⟨t,l,_,_,hk,h3,beq_eq h4,by simpa using h5,?_,?_,?_⟩
  ·rw [iT.1,nt h3 hf]
   show (match nz (α:=Option (List t.T)) c i with | some (some l)=>some (Ob.cells (l.flatMap (aJ t))) | _=>none)=_
   rw [hg]
  ·rw [iT.2,iL h3 hf];exact Nat.le_refl _
  ·have e1:=vR (h:=h) (k:=.row t) (c:=aT (α:=Option (List t.T)) c i none) (j:=i) (u:=.del (gV r i)) h3 hf (Ay (α:=Option (List t.T)) c i _) (fun m hm=>by rw [tY (c:=c) dP,if_neg hm]) rfl (by rw [tY (c:=c) dP,if_pos rfl];exact if_pos rfl) rfl
   have Za:cj (lJ h.rg r (.row t) (aT (α:=Option (List t.T)) c i none)) r=some ⟨r,.row t,aT (α:=Option (List t.T)) c i none⟩:=(pW h.rg r (.row t) (aT (α:=Option (List t.T)) c i none) r _ hf).trans (if_pos rfl)
   have hle:List.length (α:=Option (List t.T)) (aT (α:=Option (List t.T)) c i none)=List.length (α:=Option (List t.T)) c:=Ay (α:=Option (List t.T)) c i _
   have e2:=sv (h:={ h with rg:=lJ h.rg r (.row t) (aT (α:=Option (List t.T)) c i none) }) (k:=.row t) (c:=cat (α:=Option (List t.T)) (aT (α:=Option (List t.T)) c i none) [some (tk n l)]) (n:=List.length (α:=Option (List t.T)) c) (ob:=.cells ((tk n l).flatMap (aJ t))) h3 Za hle ((sn (α:=Option (List t.T)) _ _).trans (congrArg (· + 1) hle)) (fun m=>by rw [xG (c:=aT (α:=Option (List t.T)) c i none) (l:=tk n l) m,hle])
   rw [e1] at e2
   exact e2
 ·cases hr
def adM {β:Type} (r o:Nat) (h:H) (k:Nat→H→Option β):Option β:=match h.t.get o,cj h.rg r with
 | some (.d_ (.map [])),some ⟨_,.map ka tk va tv,c⟩=>bif Nat.blt r 64 && !(Bv h (fT o)) && !(Bv h (kA r)) then g_ h.t o none (fun t1=>k (len (α:=List (tk.T×tv.T)) c) { h with t:=t1,rg:=lJ h.rg r (.map ka tk va tv) (cat (α:=List (tk.T×tv.T)) c [[]]) }) else none
 | _,_=>none
theorem SO {β:Type} {r o:Nat} {h:H} {k:Nat→H→Option β} {x:β} (hr:adM r o h k=some x):∃(j:Nat) (h':H),k j h'=some x∧o<16777216∧r<64∧(hp h).ob o=some (.d_ (.map []))∧(hp h).fr (gV r j)∧hp h'=app [.del o,.new (gV r j) (.d_ (.map []))] (hp h):=by
 unfold adM at hr
 split at hr
 ·rename_i _ ka tk va tv c hg hf
  obtain ⟨h1,h2⟩:=ab hr
  simp only [zC] at h1
  have h3:r<64:=by simpa using h1.1.1
  obtain ⟨hq,t1,k1,k2⟩:=cp h2
  refine ⟨_,_,k1,by omega,h3,?_,?_,?_⟩
  ·rw [mm (by omega)];unfold ir;rw [hg];rfl
  ·rw [iT.2,iL h3 hf];exact Nat.le_refl _
  ·have e1:=vS (h:=h) (q:=o) (by omega) k2
   have e2:=sv (h:={ h with t:=t1 }) (k:=.map ka tk va tv) (c:=cat (α:=List (tk.T×tv.T)) c [[]]) (n:=List.length (α:=List (tk.T×tv.T)) c) (ob:=.d_ (.map [])) h3 hf rfl (sn (α:=List (tk.T×tv.T)) c _) (fun j=>CY (c:=c) j)
   rw [e1] at e2
   exact e2
 ·cases hr
def Yq (h:H) (o:Nat):Option (List A):=match h.t.get o with
 | some (.cells cs)=>some cs
 | some (.one t x)=>some (aJ t x)
 | _=>none
def adB {β:Type} (r o:Nat) (t:Ty) (x:t.T) (h:H) (k:Nat→H→Option β):Option β:=match cj h.rg r with
 | some ⟨_,.box t',c⟩=>match iz t t' x with
  | some x'=>bif Nat.blt r 64 && !(Bv h (fT o)) && !(Bv h (kA r)) then g_ h.t o none (fun t1=>k (len (α:=t'.T) c) { h with t:=t1,rg:=lJ h.rg r (.box t') (cat (α:=t'.T) c [x']) }) else none
  | none=>none
 | _=>none
theorem SP {β:Type} {r o:Nat} {t:Ty} {y:t.T} {h:H} {k:Nat→H→Option β} {x:β} (hr:adB r o t y h k=some x):∃(j:Nat) (h':H),k j h'=some x∧o<16777216∧r<64∧(hp h).fr (gV r j)∧hp h'=app [.del o,.new (gV r j) (.cells (aJ t y))] (hp h):=by
 unfold adB at hr
 split at hr
 ·rename_i _ t' c hf
  split at hr
  ·rename_i x' hx
   obtain ⟨e,rfl⟩:=du hx
   cases e
   obtain ⟨h1,h2⟩:=ab hr
   simp only [zC] at h1
   have h3:r<64:=by simpa using h1.1.1
   obtain ⟨hq,t1,k1,k2⟩:=cp h2
   refine ⟨_,_,k1,by omega,h3,?_,?_⟩
   ·rw [iT.2,iL h3 hf];exact Nat.le_refl _
   ·have e1:=vS (h:=h) (q:=o) (by omega) k2
    have e2:=sv (h:={ h with t:=t1 }) (k:=.box t) (c:=cat (α:=t.T) c [y]) (n:=List.length (α:=t.T) c) (ob:=.cells (aJ t y)) h3 hf rfl (sn (α:=t.T) c _) (fun j=>vm (c:=c) (x:=y) j)
    rw [e1] at e2
    exact e2
  ·cases hr
 ·cases hr
def abm (h:H) (r:Nat):Option Ty:=match cj h.rg r with
 | some ⟨_,.box t,_⟩=>some t
 | _=>none
def fixC:Nat→Ty→List A→H→Option (List A×H×List Nat)
 | 0,_,_,_=>none
 | f+1,t,cs,h=>match t with
  | .pair a b=>match fixC f a (cs.take a.size) h with
   | some (Fu,h1,T1)=>match fixC f b (cs.drop a.size) h1 with
    | some (Qx,h2,T2)=>some (Fu++Qx,h2,T1++T2)
    | none=>none
   | none=>none
  | .cB t=>match cs with
   | [.tw (.loc o) z]=>bif Nat.beq z t.size then Ni t o h (fun l h'=>some ([.tl t false l],h',[fT o])) else none
   | [.ts (.loc o) z off n]=>match h.t.get o with
    | some (.row _ l0)=>bif Nat.beq z t.size then Ni t o h (fun l h'=>some ([.tl t false (tk n (dr off l))],h',[fT o])) else none
    | _=>none
   | cs=>some (cs,h,[])
  | .kz r z=>match cs with
   | [.tw (.loc o) z']=>bif Nat.beq z z' then adR r z o none h (fun j h'=>some ([.tw (.cT r j) z],h',[fT o,kA r])) else none
   | [.ts (.loc o) z' 0 n]=>bif Nat.beq z z' then adR r z o (some n) h (fun j h'=>some ([.tw (.cT r j) z],h',[fT o,kA r])) else none
   | cs=>some (cs,h,[])
  | .mp r=>match cs with
   | [.mp (.loc o)]=>adM r o h (fun j h'=>some ([.mp (.cT r j)],h',[fT o,kA r]))
   | cs=>some (cs,h,[])
  | .ptr r=>match cs with
   | [.ptr o 0]=>match Yq h o,abm h r with
    | some ds,some t=>match fixC f t ds h with
     | some (nQ,h1,T1)=>match sV t nQ with
      | some x=>bif T1.any (Nat.beq (fT o)) then none else adB r o t x h1 (fun j h'=>some ([.tp (.cT r j) []],h',T1++[fT o,kA r]))
      | none=>none
     | none=>none
    | _,_=>none
   | cs=>some (cs,h,[])
  | _=>some (cs,h,[])
theorem xu {g:G} {S:Hp} {w:World} (h:Inv g S w) {X:Ref} {t:Ty} {l:List t.T} (h0:0<t.size) (ho:S.ob X.id=some (.cells (l.flatMap (aJ t)))) {off n:Nat} {v:Value} (hv:V g (.ts X t.size off n) v):off+n≤l.length:=by
 cases hv with
 | xv _ _ _ _ _ _ hn=>omega
 | ts _ _ _ _ b cap s h1 hn hx hs hp d hd=>
  rcases h.cells _ _ ho with ⟨k1,_⟩ | ⟨b',tt,k1,_⟩
  ·rw [k1] at h1;cases h1
  ·rw [k1] at h1
   simp only [zI,zU] at h1
   obtain ⟨_,rfl⟩:=h1
   rw [bT] at hs
   exact Nat.le_of_mul_le_mul_right hs h0
theorem CJ {o:Nat} {T:List Nat} {w:Bool} {s:List Nat} (ho:o<16777216) (h:aR ⟨false,T,w,s⟩ o=true):T.any (Nat.beq (fT o))=true:=by
 unfold aR at h
 rw [pX ho,Bool.false_or] at h
 exact h
theorem u0 {T:Fp} {o i:Nat} {x:Ob} (ha:aR T o=true) (hb:aR T i=true) {u:Up} (hu:u∈[.del o,.new i x]):aR T u.id=true:=by
 rcases List.mem_cons.1 hu with rfl | hu
 ·exact ha
 ·rcases zF.1 hu with rfl;exact hb
theorem sG:∀(f:Nat) (t:Ty) (cs:List A) (h:H) (kq:List A) (h':H) (T:List Nat),fixC f t cs h=some (kq,h',T)→Cv h h' T cs kq:=by
 intro f
 induction f with
 | zero=>intro t cs h kq h' T e;cases e
 | succ f ih=>
  intro t cs h kq h' T e
  have ny:∀{cs:List A},some (cs,h,([]:List Nat))=some (kq,h',T)→Cv h h' T cs kq:=fun e=>by
   simp only [zI,zU] at e
   obtain ⟨rfl,rfl,rfl⟩:=e
   exact Cv.refl h [] _
  unfold fixC at e
  split at e
  ·rename_i a b
   split at e
   ·rename_i Fu h1 T1 e1
    split at e
    ·rename_i Qx h2 T2 e2
     simp only [zI,zU] at e
     obtain ⟨rfl,rfl,rfl⟩:=e
     have:=(ih _ _ _ _ _ _ e1).append (ih _ _ _ _ _ _ e2)
     rwa [zP] at this
    ·cases e
   ·cases e
  ·rename_i t
   split at e
   ·rename_i o z
    obtain ⟨hz,e0⟩:=ab e
    obtain rfl:=beq_eq hz
    obtain ⟨l,h1,e1,ho,hg,hh,hd,h0⟩:=E8 e0
    simp only [zI,zU] at e1
    obtain ⟨rfl,rfl,rfl⟩:=e1
    refine ⟨_,hh,fun u hu=>by rcases zF.1 hu with rfl;exact aM (o:=o) ho (.head _),fun g S w vs hI hA hv=>?_⟩
    obtain ⟨v,rfl,hv,GR⟩:=hv.qo
    obtain ⟨g',k1,k2,k3,_⟩:=hI.freeze hd h0 ((hA o (aM ho (.head _))).1.trans (vC ho hg))
    exact ⟨g',k1,k2,.cons (k3 v hv) GR .nil⟩
   ·rename_i o z off n
    split at e
    ·obtain ⟨hz,e0⟩:=ab e
     obtain rfl:=beq_eq hz
     obtain ⟨l,h1,e1,ho,hg,hh,hd,h0⟩:=E8 e0
     simp only [zI,zU] at e1
     obtain ⟨rfl,rfl,rfl⟩:=e1
     refine ⟨_,hh,fun u hu=>by rcases zF.1 hu with rfl;exact aM (o:=o) ho (.head _),fun g S w vs hI hA hv=>?_⟩
     obtain ⟨v,rfl,hv,GR⟩:=hv.qo
     have fQ:=(hA o (aM ho (.head _))).1.trans (vC ho hg)
     obtain ⟨g',k1,k2,_,k3⟩:=hI.freeze hd h0 fQ
     exact ⟨g',k1,k2,.cons (k3 off n v (xu hI (X:=.loc o) h0 fQ hv) hv) GR .nil⟩
    ·cases e
   ·exact ny e
  ·rename_i r z
   split at e
   ·rename_i o z'
    obtain ⟨hz,e0⟩:=ab e
    obtain rfl:=beq_eq hz
    obtain ⟨t,l,j,h1,e1,ho,hr,rfl,h0,hg,hf,hh⟩:=KX e0
    simp only [zI,zU] at e1
    obtain ⟨rfl,rfl,rfl⟩:=e1
    refine ⟨_,hh,fun u hu=>u0 (aM (o:=o) ho (.head _)) (df (r:=r) (j:=j) hr (.tail _ (.head _))) hu,fun g S w vs hI hA hv=>?_⟩
    obtain ⟨v,rfl,hv,GR⟩:=hv.qo
    have fQ:=(hA o (aM ho (.head _))).1.trans (vC ho hg)
    obtain ⟨g',k1,k2,k3,_⟩:=hI.yU (X:=.cT r j) (Y:=.loc o) (i:=gV r j) rfl rfl h0 fQ ((hA (gV r j) (df (r:=r) (j:=j) hr (.tail _ (.head _)))).2.2 hf) (Nat.le_refl l.length)
    have e2:tk l.length l=l:=by simp [tk]
    rw [e2] at k1 k2
    exact ⟨g',k1,k2,.cons (k3 v rfl hv) GR .nil⟩
   ·rename_i o z' n
    obtain ⟨hz,e0⟩:=ab e
    obtain rfl:=beq_eq hz
    obtain ⟨t,l,j,h1,e1,ho,hr,rfl,h0,hg,hf,hh⟩:=KX e0
    simp only [zI,zU] at e1
    obtain ⟨rfl,rfl,rfl⟩:=e1
    refine ⟨_,hh,fun u hu=>u0 (aM (o:=o) ho (.head _)) (df (r:=r) (j:=j) hr (.tail _ (.head _))) hu,fun g S w vs hI hA hv=>?_⟩
    obtain ⟨v,rfl,hv,GR⟩:=hv.qo
    have fQ:=(hA o (aM ho (.head _))).1.trans (vC ho hg)
    have hle:=xu hI (X:=.loc o) h0 fQ hv
    obtain ⟨g',k1,k2,_,k3⟩:=hI.yU (X:=.cT r j) (Y:=.loc o) (i:=gV r j) rfl rfl h0 fQ ((hA (gV r j) (df (r:=r) (j:=j) hr (.tail _ (.head _)))).2.2 hf) (m:=n) (by omega)
    exact ⟨g',k1,k2,.cons (k3 v hv) GR .nil⟩
   ·exact ny e
  ·rename_i r
   split at e
   ·rename_i o
    obtain ⟨j,h1,e1,ho,hr,MX,hf,hh⟩:=SO e
    simp only [zI,zU] at e1
    obtain ⟨rfl,rfl,rfl⟩:=e1
    refine ⟨_,hh,fun u hu=>u0 (aM (o:=o) ho (.head _)) (df (r:=r) (j:=j) hr (.tail _ (.head _))) hu,fun g S w vs hI hA hv=>?_⟩
    obtain ⟨v,rfl,hv,GR⟩:=hv.qo
    have fQ:=(hA o (aM ho (.head _))).1.trans MX
    have mF:=(hA (gV r j) (df (r:=r) (j:=j) hr (.tail _ (.head _)))).2.2 hf
    obtain ⟨b,s,ob,k1,k2,k3⟩:=hI.d_ o _ fQ
    obtain ⟨q1,q2⟩:=hI.mvw (s':=s) (x':=.d_ (.map [])) fQ mF k1 rfl (fun _ _=>rfl) rfl rfl rfl ⟨ob,k2,k3.mono (oi (hI.fresh _ mF))⟩
    refine ⟨_,q1,q2,.cons ?_ GR .nil⟩
    cases hv with
    | mp _ b' s' h1=>
     rw [show (Ref.loc o).id=o from rfl,k1] at h1
     cases h1
     exact .mp (.cT r j) b s dG
   ·exact ny e
  ·rename_i r
   split at e
   ·rename_i o
    split at e
    ·rename_i ds t hds ht
     split at e
     ·rename_i nQ h1 T1 e1
      split at e
      ·rename_i x hx
       cases hT:T1.any (Nat.beq (fT o)) with
       | true=>rw [hT] at e;cases e
       | false=>
        rw [hT] at e;simp only [cond_false] at e
        obtain ⟨j,h2,e2,ho,hr,hf,hh⟩:=SP e
        simp only [zI,zU] at e2
        obtain ⟨rfl,rfl,rfl⟩:=e2
        obtain ⟨us,c1,c2,c3⟩:=ih _ _ _ _ _ _ e1
        have MX:(hp h).ob o=some (.cells ds):=by
         rw [mm ho]
         unfold ir
         unfold Yq at hds
         split at hds<;>simp_all [jJ.low]
        refine ⟨us++[.del o,.new (gV r j) (.cells (aJ t x))],by rw [kM,←c1,hh],fun u hu=>?_,fun g S w vs hI hA hv=>?_⟩
        ·rcases zX.1 hu with hu | hu
         ·exact gK (fun i hi=>zQ _ hi) (c2 u hu)
         ·exact u0 (aM (o:=o) ho (zS _ (.head _))) (df (r:=r) (j:=j) hr (zS _ (.tail _ (.head _)))) hu
        ·obtain ⟨v,rfl,hv,GR⟩:=hv.qo
         have fQ:=(hA o (aM ho (zS _ (.head _)))).1.trans MX
         cases hv with
         | ptr _ _ b s hg=>
          rcases hI.cells o ds fQ with ⟨k1,_⟩ | ⟨b',tt,k1,cur,ty,k2,sW,k3⟩
          ·rw [k1] at hg;cases hg
          rw [k1] at hg;cases hg
          obtain ⟨g1,q1,q2,q3⟩:=c3 g S w _ hI (hA.mono fun i hi=>zQ _ hi) k3
          obtain ⟨z1,z2⟩:=lH (g:=g1) t nQ x hx
          have z3:=z2 _ q3
          have aep:(app us S).ob o=some (.cells ds):=by
           rw [(gI us S o (fun u hu e=>by have:=CJ ho (e▸c2 u hu);rw [hT] at this;cases this)).1];exact fQ
          have M6:(app us S).fr (gV r j):=by
           have TR:=(hA.mono (T:=[kA r]) (w':=true) (s':=[]) (fun i hi=>by rcases zF.1 hi with rfl;exact zS _ (.tail _ (.head _)))).app us
           rw [←c1] at TR
           exact (TR (gV r j) (df (r:=r) (j:=j) hr (.head _))).2.2 hf
          have hl:ds.length=(aJ t x).length:=by rw [k3.1,z3.1]
          obtain ⟨y1,y2⟩:=q1.mvw (s':=((aJ t x).length,tt)) (x':=.cells (aJ t x)) aep M6 (q2.le.cn _ _ k1) rfl (fun _ _=>rfl) rfl rfl rfl ⟨rfl,cur,ty,k2,sW,by rw [←hl];exact z3.mono (oi (q1.fresh _ M6))⟩
          rw [kM]
          exact ⟨_,y1,q2.trans y2,.cons (.tp (.cT r j) [] _ _ dG trivial) GR .nil⟩
      ·cases e
     ·cases e
    ·cases e
   ·exact ny e
  ·exact ny e
def Sa {β:Type} (u:Ty) (ps:List A) (h:H) (k:List A→H→List Nat→Option β):Option β:=match u,ps with
 | .kz r z,[.ts (.cT r' i) z' 0 n]=>bif Nat.beq z z' && Nat.beq r r' then adV r z i n h (fun j h'=>k [.tw (.cT r j) z] h' [kA r]) else none
 | u,ps=>match fixC 64 u ps h with
  | some (yM,h',T)=>k yM h' T
  | none=>none
theorem Nm {β:Type} {u:Ty} {ps:List A} {h:H} {k:List A→H→List Nat→Option β} {x:β} (hr:Sa u ps h k=some x):∃yM h' T,k yM h' T=some x∧Cv h h' T ps yM:=by
 unfold Sa at hr
 split at hr
 ·rename_i r z r' i z' n
  obtain ⟨hz,e0⟩:=ab hr
  rw [zC] at hz
  obtain rfl:=beq_eq hz.1
  obtain rfl:=beq_eq hz.2
  obtain ⟨t,l,j,h1,e1,hr6,rfl,h0,hg,hf,hh⟩:=SN e0
  refine ⟨_,_,_,e1,_,hh,fun u hu=>u0 (df (r:=r) (j:=i) hr6 (.head _)) (df (r:=r) (j:=j) hr6 (.head _)) hu,fun g S w vs hI hA hv=>?_⟩
  obtain ⟨v,rfl,hv,GR⟩:=hv.qo
  have fQ:=(hA (gV r i) (df (r:=r) (j:=i) hr6 (.head _))).1.trans hg
  have hle:=xu hI (X:=.cT r i) h0 fQ hv
  obtain ⟨g',k1,k2,_,k3⟩:=hI.yU (X:=.cT r j) (Y:=.cT r i) (i:=gV r j) rfl rfl h0 fQ ((hA (gV r j) (df (r:=r) (j:=j) hr6 (.head _))).2.2 hf) (m:=n) (by omega)
  exact ⟨g',k1,k2,.cons (k3 v hv) GR .nil⟩
 ·split at hr
  ·rename_i yM h' T hf
   exact ⟨_,_,_,hr,sG _ _ _ _ _ _ _ hf⟩
  ·cases hr
end
section
open Go.RowKit
theorem CO {S:Hp} {i:Nat} {x:Ob}:(S.set i x).ob i=some x:=if_pos rfl
theorem GD {o:Nat} (h:o<16777215):o<16777216:=by omega
theorem bU {a b:Nat} (h:Nat.blt a b=true):a<b:=Nat.le_of_ble_eq_true h
theorem uM {α:Type} (l:List α) (i:Nat) (x:α):(aT l i x).length=l.length:=zM
theorem vi {t:Ty} {c:List (Option (List t.T))} {j:Nat} {l:List t.T} (hj:j<c.length) (i:Nat):fp (.row t) (aT c j (some l)) i=if i=j then some (.cells (l.flatMap (aJ t))) else fp (.row t) c i:=by
 show (match nz (aT c j (some l)) i with | some (some l)=>some (Ob.cells (l.flatMap (aJ t))) | _=>none)=if i=j then some (Ob.cells (l.flatMap (aJ t))) else (match nz c i with | some (some l)=>some (Ob.cells (l.flatMap (aJ t))) | _=>none)
 rw [sC]
 by_cases h:i=j
 ·rw [if_pos ⟨h,hj⟩,if_pos h]
 ·rw [if_neg (fun k=>h k.1),if_neg h]
theorem vl {t:Ty} {c:List t.T} {j:Nat} {x:t.T} (hj:j<c.length) (i:Nat):fp (.box t) (aT c j x) i=if i=j then some (.cells (aJ t x)) else fp (.box t) c i:=by
 show (match nz (aT c j x) i with | some x=>some (Ob.cells (aJ t x)) | none=>none)=if i=j then some (Ob.cells (aJ t x)) else (match nz c i with | some x=>some (Ob.cells (aJ t x)) | none=>none)
 rw [sC]
 by_cases h:i=j
 ·rw [if_pos ⟨h,hj⟩,if_pos h]
 ·rw [if_neg (fun k=>h k.1),if_neg h]
def kX:Ref→Nat
 | .loc o=>fT o
 | .cT r _=>kA r
def Gt:Ref→Bool
 | .loc o=>Nat.blt o 16777216
 | .cT r _=>Nat.blt r 64
theorem cF {X:Ref} (h:Gt X=true) {l:List Nat} {w:Bool} {s:List Nat} (hm:kX X∈l):aR ⟨false,l,w,s⟩ X.id=true:=by
 cases X with
 | loc o=>exact aM (o:=o) (bU h) hm
 | cT r j=>exact df (r:=r) (j:=j) (bU h) hm
def kY {β:Type} (h:H) (X:Ref) (k:(t:Ty)→List t.T→Option β):Option β:=match X with
 | .loc o=>match h.t.get o with
  | some (.row t l)=>bif Nat.blt o 16777216 then k t l else none
  | _=>none
 | .cT r j=>match cj h.rg r with
  | some ⟨_,.row t,c⟩=>bif Nat.blt r 64 then bd (aE (α:=t.T) c j) (fun l=>k t l) else none
  | _=>none
theorem CV {α:Type} {c:List (Option (List α))} {j:Nat} {l:List α} (h:aE c j=some l):nz c j=some (some l):=by
 unfold aE at h
 unfold nz
 rw [zA] at h
 cases hc:c[j]? with
 | none=>rw [hc] at h;cases h
 | some x=>rw [hc] at h;simp at h;rw [h]
theorem F5 {t:Ty} {c:List (Option (List t.T))} {j:Nat} {l:List t.T} (h:nz c j=some (some l)):fp (.row t) c j=some (.cells (l.flatMap (aJ t))):=by
 show (match nz c j with | some (some l)=>some (Ob.cells (l.flatMap (aJ t))) | _=>none)=_
 rw [h]
theorem gq {β:Type} {h:H} {X:Ref} {k:(t:Ty)→List t.T→Option β} {r:β} (hr:kY h X k=some r):∃t l,k t l=some r∧Gt X=true∧(hp h).ob X.id=some (.cells (l.flatMap (aJ t))):=by
 cases X with
 | loc o=>
  unfold kY at hr
  simp only at hr
  split at hr
  ·rename_i t l hg
   obtain ⟨h1,h2⟩:=ab hr
   exact ⟨t,l,h2,h1,vC (bU h1) hg⟩
  ·cases hr
 | cT r j=>
  unfold kY at hr
  simp only at hr
  split at hr
  ·rename_i _ t c hf
   obtain ⟨h1,h2⟩:=ab hr
   obtain ⟨l,h3,h4⟩:=wF h2
   refine ⟨t,l,h4,h1,?_⟩
   show (hp h).ob (gV r j)=_
   rw [iT.1,nt (bU h1) hf]
   exact F5 (CV h3)
  ·cases hr
def KN {β:Type} (h:H) (X:Ref) (k:(t:Ty)→t.T→Option β):Option β:=match X with
 | .loc o=>match h.t.get o with
  | some (.one t x)=>bif Nat.blt o 16777216 then k t x else none
  | _=>none
 | .cT r j=>match cj h.rg r with
  | some ⟨_,.box t,c⟩=>bif Nat.blt r 64 then k t (nth (α:=t.T) t.dO c j) else none
  | _=>none
theorem F8 {t:Ty} {c:List t.T} {j:Nat} (h:j<c.length):fp (.box t) c j=some (.cells (aJ t (nth t.dO c j))):=by
 show (match nz c j with | some x=>some (Ob.cells (aJ t x)) | none=>none)=_
 have e:nz c j=some (nth t.dO c j):=by simp [nz,nth,zA,zD h]
 rw [e]
theorem Fy {β:Type} {h:H} {X:Ref} {k:(t:Ty)→t.T→Option β} {r:β} (hr:KN h X k=some r):∃t x,k t x=some r∧Gt X=true∧∀g S w b s,Inv g S w→S.ob X.id=(hp h).ob X.id→(S.fr X.id↔(hp h).fr X.id)→g.cn X.id=some (some b,s)→S.ob X.id=some (.cells (aJ t x)):=by
 cases X with
 | loc o=>
  unfold KN at hr
  simp only at hr
  split at hr
  ·rename_i t x hg
   obtain ⟨h1,h2⟩:=ab hr
   refine ⟨t,x,h2,h1,fun g S w b s _ e _ _=>?_⟩
   rw [e]
   show (hp h).ob o=_
   rw [mm (bU h1)];unfold ir;rw [hg];rfl
  ·cases hr
 | cT r j=>
  unfold KN at hr
  simp only at hr
  split at hr
  ·rename_i _ t c hf
   obtain ⟨h1,h2⟩:=ab hr
   have h3:r<64:=bU h1
   refine ⟨t,_,h2,h1,fun g S w b s hI e e2 hg=>?_⟩
   have dP:j<List.length (α:=t.T) c:=by
    rcases Nat.lt_or_ge j (List.length (α:=t.T) c) with dP | Am
    ·exact dP
    ·have:S.fr (gV r j):=e2.2 (by rw [show (Ref.cT r j).id=gV r j from rfl,iT.2,iL h3 hf];exact Am)
     have:=hI.fresh _ this
     rw [show (Ref.cT r j).id=gV r j from rfl,this] at hg;cases hg
   rw [e]
   show (hp h).ob (gV r j)=_
   rw [iT.1,nt h3 hf]
   exact F8 dP
  ·cases hr
theorem pq (t:Ty) (l:List t.T) {i:Nat} (hi:i<l.length):l.flatMap (aJ t)=(l.take i).flatMap (aJ t)++(aJ t (nth t.dO l i)++(l.drop (i+1)).flatMap (aJ t))∧((l.take i).flatMap (aJ t)).length=i*t.size:=by
 refine ⟨?_,by rw [bT,List.length_take,Nat.min_eq_left (Nat.le_of_lt hi)]⟩
 have e:l=l.take i++nth t.dO l i::l.drop (i+1):=by
  rw [show nth t.dO l i=l[i] by simp [nth,zA,zD hi],List.getElem_cons_drop,zP]
 conv=>lhs;rw [e]
 rw [List.flatMap_append,List.flatMap_cons]
def vt {β:Type} (h:H) (X:Ref) (π:List Sp) (k:Sg→Option β):Option β:=match π with
 | .ix i z::π'=>kY h X (fun t l=>bif Nat.beq z t.size && Nat.blt 0 z then (match qY π' t (nth t.dO l i) with
  | some s=>k s
  | none=>none) else none)
 | π=>KN h X (fun t x=>match qY π t x with
  | some s=>k s
  | none=>none)
theorem xJ {β:Type} {h:H} {X:Ref} {π:List Sp} {k:Sg→Option β} {r:β} (hr:vt h X π k=some r):∃sg,k sg=some r∧Gt X=true∧∀g S w v,Inv g S w→S.ob X.id=(hp h).ob X.id→(S.fr X.id↔(hp h).fr X.id)→V g (.tp X π) v→∃a c,S.ob X.id=some (.cells (a++(aJ sg.t sg.x++c)))∧a.length=fg π:=by
 unfold vt at hr
 split at hr
 ·rename_i i z π'
  obtain ⟨t,l,h1,h2,h3⟩:=gq hr
  obtain ⟨h4,h5⟩:=ab h1
  simp only [zC] at h4
  obtain rfl:=beq_eq h4.1
  have h0:0<t.size:=bU h4.2
  split at h5
  ·rename_i sg hg
   refine ⟨sg,h5,h2,fun g S w v hI e _ hv=>?_⟩
   cases hv with
   | tp _ _ b s cR hk=>
    have fQ:=e.trans h3
    rcases hI.cells _ _ fQ with ⟨k1,_⟩ | ⟨b',tt,k1,_⟩
    ·rw [k1] at cR;cases cR
    rw [k1] at cR
    simp only [zI,zU] at cR
    obtain ⟨_,rfl⟩:=cR
    have hi:i<l.length:=by
     have:=hk.1
     simp only [bT] at this
     exact Nat.lt_of_succ_le (Nat.le_of_mul_le_mul_right this h0)
    obtain ⟨a,c,q1,q2⟩:=sE π' t _ _ _ hg hk.2
    obtain ⟨f1,f2⟩:=pq t l hi
    refine ⟨(l.take i).flatMap (aJ t)++a,c++(l.drop (i+1)).flatMap (aJ t),?_,?_⟩
    ·rw [fQ,f1,q1];simp
    ·rw [zY,f2,q2];rfl
  ·cases h5
 ·obtain ⟨t,x,h1,h2,h3⟩:=Fy hr
  split at h1
  ·rename_i sg hg
   refine ⟨sg,h1,h2,fun g S w v hI e e2 hv=>?_⟩
   cases hv with
   | tp _ _ b s cR hk=>
    obtain ⟨a,c,q1,q2⟩:=sE π t x _ _ hg hk
    exact ⟨a,c,by rw [h3 g S w b s hI e e2 cR,q1],q2⟩
  ·cases h1
def vq {β:Type} (h:H) (X:Ref) (t:Ty) (l:List t.T) (k:H→Option β):Option β:=bif Bv h (kX X) then none else match X with
 | .loc o=>g_ h.t o (some (.row t l)) (fun t1=>k { h with t:=t1 })
 | .cT r j=>match cj h.rg r with
  | some ⟨_,.row t',c⟩=>match iz (.cB t) (.cB t') l with
   | some l'=>k { h with rg:=lJ h.rg r (.row t') (aT (α:=Option (List t'.T)) c j (some l')) }
   | none=>none
  | _=>none
def IC {β:Type} (h:H) (X:Ref) (t:Ty) (x:t.T) (k:H→Option β):Option β:=bif Bv h (kX X) then none else match X with
 | .loc o=>g_ h.t o (some (.one t x)) (fun t1=>k { h with t:=t1 })
 | .cT r j=>match cj h.rg r with
  | some ⟨_,.box t',c⟩=>match iz t t' x with
   | some x'=>k { h with rg:=lJ h.rg r (.box t') (aT (α:=t'.T) c j x') }
   | none=>none
  | _=>none
theorem lE {α:Type} {c:Bool} {x:Option α} {r:α} (h:(bif c then none else x)=some r):c=false∧x=some r:=by
 cases c with
 | true=>cases h
 | false=>exact ⟨rfl,h⟩
def FL:List Sp→Ty→Option Ty
 | [],t=>some t
 | .fst::π,.pair a _=>FL π a
 | .snd _::π,.pair _ b=>FL π b
 | .ai _ _ _::π,.arr _ t=>FL π t
 | _,_=>none
def Xa (π:List Sp) (t:Ty):Option Ty:=match π with
 | .ix _ _::π'=>FL π' t
 | _=>none
def plT (h:H) (X:Ref) (π:List Sp):Option Ty:=match X with
 | .loc o=>match h.t.get o with
  | some (.one t _)=>FL π t
  | some (.row t _)=>Xa π t
  | _=>none
 | .cT r _=>match cj h.rg r with
  | some ⟨_,.box t,_⟩=>FL π t
  | some ⟨_,.row t,_⟩=>Xa π t
  | _=>none
def Cl (h h':H) (X:Ref) (x:Ob):Prop:=(∀i,aR (.wr [kX X]) i=false→(hp h').ob i=(hp h).ob i∧((hp h').fr i↔(hp h).fr i))∧(¬(hp h).fr X.id→hp h'=app [.set X.id x] (hp h))
theorem u7 {r i:Nat} {w:Bool} {s:List Nat} (hr:r<64) (h:aR ⟨false,[kA r],w,s⟩ i=false):¬(¬i<dJ∧oM i=r):=fun ⟨h1,h2⟩=>by
 have e:=ve h1
 rw [h2] at e
 rw [e,df (r:=r) (j:=EU i) hr (.head _)] at h
 cases h
theorem EA {h h':H} {o:Nat} {x:Ob} (ho:o<16777215) (e:hp h'=app [.set o x] (hp h)) (i:Nat) (hi:aR (.wr [kX (.loc o)]) i=false):(hp h').ob i=(hp h).ob i∧((hp h').fr i↔(hp h).fr i):=by
 rw [e]
 refine gI _ _ i (fun u hu he=>?_)
 rcases zF.1 hu with rfl
 have h2:i=o:=he
 subst h2
 rw [show aR (.wr [kX (.loc i)]) i=true from aM (o:=i) (GD ho) (.head _)] at hi
 cases hi
theorem pY {β:Type} {h:H} {X:Ref} {t:Ty} {l:List t.T} {k:H→Option β} {r:β} (hx:Gt X=true) (hr:vq h X t l k=some r):∃h',k h'=some r∧Cl h h' X (.cells (l.flatMap (aJ t))):=by
 obtain ⟨_,hr⟩:=lE hr
 cases X with
 | loc o=>
  obtain ⟨hq,t1,k1,k2⟩:=cp hr
  have e:=tH (h:=h) (x:=.row t l) (GD hq) k2
  exact ⟨_,k1,EA hq e,fun _=>e⟩
 | cT r j=>
  simp only at hr
  split at hr
  ·rename_i _ t' c hf
   split at hr
   ·rename_i l' hl
    obtain ⟨e,rfl⟩:=du hl
    cases e
    have h3:r<64:=bU hx
    refine ⟨_,hr,fun i hi=>?_,fun mF=>?_⟩
    ·have hn:=u7 h3 hi
     have:=oe (h:=h) (k:=.row t) (c:=aT (α:=Option (List t.T)) c j (some l)) hf i
     rw [if_neg hn,if_neg hn] at this
     exact this
    ·have dP:j<List.length (α:=Option (List t.T)) c:=by
      rcases Nat.lt_or_ge j (List.length (α:=Option (List t.T)) c) with dP | Am
      ·exact dP
      ·exact absurd (by rw [show (Ref.cT r j).id=gV r j from rfl,iT.2,iL h3 hf];exact Am) mF
     exact vR (j:=j) (u:=.set (gV r j) _) h3 hf (uM (α:=Option (List t.T)) c j _) (fun i hi=>by rw [vi (c:=c) dP,if_neg hi]) rfl (by rw [vi (c:=c) dP,if_pos rfl];exact CO) rfl
   ·cases hr
  ·cases hr
theorem Ge {β:Type} {h:H} {X:Ref} {t:Ty} {x:t.T} {k:H→Option β} {r:β} (hx:Gt X=true) (hr:IC h X t x k=some r):∃h',k h'=some r∧Cl h h' X (.cells (aJ t x)):=by
 obtain ⟨_,hr⟩:=lE hr
 cases X with
 | loc o=>
  obtain ⟨hq,t1,k1,k2⟩:=cp hr
  have e:=tH (h:=h) (x:=.one t x) (GD hq) k2
  exact ⟨_,k1,EA hq e,fun _=>e⟩
 | cT r j=>
  simp only at hr
  split at hr
  ·rename_i _ t' c hf
   split at hr
   ·rename_i l' hl
    obtain ⟨e,rfl⟩:=du hl
    cases e
    have h3:r<64:=bU hx
    refine ⟨_,hr,fun i hi=>?_,fun mF=>?_⟩
    ·have hn:=u7 h3 hi
     have:=oe (h:=h) (k:=.box t) (c:=aT (α:=t.T) c j x) hf i
     rw [if_neg hn,if_neg hn] at this
     exact this
    ·have dP:j<List.length (α:=t.T) c:=by
      rcases Nat.lt_or_ge j (List.length (α:=t.T) c) with dP | Am
      ·exact dP
      ·exact absurd (by rw [show (Ref.cT r j).id=gV r j from rfl,iT.2,iL h3 hf];exact Am) mF
     exact vR (j:=j) (u:=.set (gV r j) _) h3 hf (uM (α:=t.T) c j _) (fun i hi=>by rw [vl (c:=c) dP,if_neg hi]) rfl (by rw [vl (c:=c) dP,if_pos rfl];exact CO) rfl
   ·cases hr
  ·cases hr
def uy {β:Type} (h:H) (X:Ref) (π:List Sp) (u:Ty) (y:u.T) (k:H→Option β):Option β:=match π with
 | .ix i z::π'=>kY h X (fun t l=>bif Nat.beq z t.size && Nat.blt 0 z then (match uw u y π' t (nth t.dO l i) with
  | some x=>vq h X t (aT l i x) k
  | none=>none) else none)
 | π=>KN h X (fun t x=>match uw u y π t x with
  | some x=>IC h X t x k
  | none=>none)
theorem HL (t:Ty) (l:List t.T) {i:Nat} (hi:i<l.length) (x:t.T) {k:Nat} {ps:List A} (he:aJ t x=put (aJ t (nth t.dO l i)) k ps) (hk:k+ps.length≤t.size):(aT l i x).flatMap (aJ t)=put (l.flatMap (aJ t)) (i*t.size+k) ps:=by
 obtain ⟨f1,f2⟩:=pq t l hi
 have hu:i<(aT l i x).length:=by simpa [aT] using hi
 obtain ⟨g1,g2⟩:=pq t (aT l i x) hu
 have e1:(aT l i x).take i=l.take i:=by simp [aT,List.take_set_of_le]
 have e2:(aT l i x).drop (i+1)=l.drop (i+1):=by simp [aT,List.drop_set]
 have e3:nth t.dO (aT l i x) i=x:=by simp [nth,aT,zA,hi]
 rw [g1,f1,e1,e2,e3,←f2,yJ (by rw [cQ];exact hk),he]
theorem LS {β:Type} {h:H} {X:Ref} {π:List Sp} {u:Ty} {y:u.T} {k:H→Option β} {r:β} (hr:uy h X π u y k=some r):∃h',k h'=some r∧Gt X=true∧(∀i,aR (.wr [kX X]) i=false→(hp h').ob i=(hp h).ob i∧((hp h').fr i↔(hp h).fr i)) ∧
  ∀T,kX X∈T→∀g S w v,Inv g S w→bK (Fp.wr (T)) (hp h) S→V g (.tp X π) v→∃cs,S.ob X.id=some (.cells cs)∧fg π+u.size≤cs.length∧l6 (Fp.wr (T)) (hp h') S=S.set X.id (.cells (put cs (fg π) (aJ u y))):=by
 have fin:∀{h':H} {x:Ob} {T:List Nat},Gt X=true→kX X∈T→Cl h h' X x→∀g S w b s,Inv g S w→bK (Fp.wr (T)) (hp h) S→g.cn X.id=some (some b,s)→l6 (Fp.wr (T)) (hp h') S=S.set X.id x:=fun hx hT GM g S w b s hI hA cR=>by
  have hT:=cF hx (l:=_) (w:=true) (s:=[]) hT
  have Lr:¬(hp h).fr X.id:=fun hf=>by rw [hI.fresh _ ((hA _ hT).2.2 hf)] at cR;cases cR
  rw [GM.2 Lr,lR (fun u hu=>by rcases zF.1 hu with rfl;exact hT) hA];rfl
 unfold uy at hr
 split at hr
 ·rename_i i z π'
  obtain ⟨t,l,h1,h2,h3⟩:=gq hr
  obtain ⟨h4,h5⟩:=ab h1
  simp only [zC] at h4
  obtain rfl:=beq_eq h4.1
  have h0:0<t.size:=bU h4.2
  split at h5
  ·rename_i x hg
   obtain ⟨h',k1,k2⟩:=pY h2 h5
   refine ⟨h',k1,h2,k2.1,fun T hT g S w v hI hA hv=>?_⟩
   cases hv with
   | tp _ _ b s cR hk=>
    have fQ:=((hA _ (cF h2 hT)).1).trans h3
    have TF:=fin h2 hT k2 g S w b s hI hA cR
    rcases hI.cells _ _ fQ with ⟨k1,_⟩ | ⟨b',tt,k1,_⟩
    ·rw [k1] at cR;cases cR
    rw [k1] at cR
    simp only [zI,zU] at cR
    obtain ⟨_,rfl⟩:=cR
    have hi:i<l.length:=by
     have:=hk.1
     simp only [bT] at this
     exact Nat.lt_of_succ_le (Nat.le_of_mul_le_mul_right this h0)
    obtain ⟨q1,q2⟩:=rJ u y π' t _ x _ hg hk.2
    have JI:fg (.ix i t.size::π')=i*t.size+fg π':=rfl
    refine ⟨_,fQ,?_,?_⟩
    ·rw [bT,JI]
     have:=zW t.size (show i+1≤l.length from hi)
     rw [Nat.add_mul,Nat.one_mul] at this
     omega
    ·rw [TF,HL t l hi x q1 (by rw [cQ];exact q2),JI]
  ·cases h5
 ·obtain ⟨t,x,h1,h2,h3⟩:=Fy hr
  split at h1
  ·rename_i x' hg
   obtain ⟨h',k1,k2⟩:=Ge h2 h1
   refine ⟨h',k1,h2,k2.1,fun T hT g S w v hI hA hv=>?_⟩
   cases hv with
   | tp _ _ b s cR hk=>
    have hT':=hA _ (cF h2 hT)
    obtain ⟨q1,q2⟩:=rJ u y π t x x' _ hg hk
    exact ⟨_,h3 g S w b s hI hT'.1 hT'.2 cR,by rw [cQ];exact q2,by rw [fin h2 hT k2 g S w b s hI hA cR,q1]⟩
  ·cases h1
end
end Go.Bm