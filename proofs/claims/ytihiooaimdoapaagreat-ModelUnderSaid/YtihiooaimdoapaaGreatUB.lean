/- Texts of one proof, put together: see each part. -/
import Derived.Test.YtihiooaimdoapaaGreatUA
noncomputable section
set_option linter.unusedVariables false
set_option linter.unusedSimpArgs false
namespace Go.Bm
section
open Go.RowKit
theorem oI {s:Nat}:∀(π σ:List Sp),H8 s (π++σ)↔H8 s π∧H8 s σ
 | [],σ=>⟨fun h=>⟨trivial,h⟩,fun h=>h.2⟩
 | .fst::π,σ=>oI π σ
 | .snd _::π,σ=>oI π σ
 | .ix _ _::π,σ=>(and_congr_right fun _=>oI π σ).trans and_assoc.symm
 | .ai _ _ _::π,σ=>(and_congr_right fun _=>oI π σ).trans and_assoc.symm
theorem mr:∀(π σ:List Sp),fJ (π++σ)=fJ π+fJ σ
 | [],σ=>(Nat.zero_add _).symm
 | .fst::π,σ=>mr π σ
 | .snd c::π,σ=>by show c+fJ (π++σ)=c+fJ π+fJ σ;rw [mr π σ,Nat.add_assoc]
 | .ix i z::π,σ=>by show i*z+fJ (π++σ)=i*z+fJ π+fJ σ;rw [mr π σ,Nat.add_assoc]
 | .ai i n z::π,σ=>by show i*z+fJ (π++σ)=i*z+fJ π+fJ σ;rw [mr π σ,Nat.add_assoc]
section
variable {P:Program} {E:Env} {o:Oper} {ρ:Operand→A} {h:H} {β:Type} {K:A→H→Fp→Option β} {r:β}
theorem Step.tx {h h':H} {T:Fp} {pv LF:A} (k:Step P o ρ h h' T pv) (hv:∀g v,V g pv v→V g LF v):Step P o ρ h h' T LF where
 out:=k.out
 rd:=k.rd
 ok:=fun S2 hS=>fun r g w a next Q hI hx K'=>k.ok S2 hS r g w a next Q hI hx (fun v g' w' h1 h2 h3=>K' v g' w' (hv _ _ h1) h2 h3)
def Ir (v:A) (k:A→Option β):Option β:=match v with
 | .op r o=>opt o (k (.v (.pointer none))) (fun j=>k (.tp (.c_ r j) []))
 | .os r z o=>opt o (k .e0) (fun j=>k (.tw (.c_ r j) z))
 | .om r o=>opt o (k (.v (.map none))) (fun j=>k (.mp (.c_ r j)))
 | v=>k v
theorem Df {v:A} {k:A→Option β} (hr:Ir v k=some r):∃v',k v'=some r∧∀g x,V g v x→V g v' x:=by
 unfold Ir at hr
 split at hr
 ·rcases kJ hr with ⟨e,h1⟩ | ⟨j,e,h1⟩
  ·exact ⟨_,h1,fun g x hv=>by cases hv with | op _ _ _ h0 _=>rw [h0 e];exact .v _⟩
  ·exact ⟨_,h1,fun g x hv=>by cases hv with | op _ _ _ _ h0=>exact h0 j e⟩
 ·rcases kJ hr with ⟨e,h1⟩ | ⟨j,e,h1⟩
  ·exact ⟨_,h1,fun g x hv=>by cases hv with | os _ _ _ _ h0 _=>exact h0 e⟩
  ·exact ⟨_,h1,fun g x hv=>by cases hv with | os _ _ _ _ _ h0=>exact h0 j e⟩
 ·rcases kJ hr with ⟨e,h1⟩ | ⟨j,e,h1⟩
  ·exact ⟨_,h1,fun g x hv=>by cases hv with | om _ _ _ h0 _=>rw [h0 e];exact .v _⟩
  ·exact ⟨_,h1,fun g x hv=>by cases hv with | om _ _ _ _ h0=>exact h0 j e⟩
 ·exact ⟨_,hr,fun g x hv=>hv⟩
def Out (P:Program) (o:Oper) (ρ:Operand→A) (h:H) (K:A→H→Fp→Option β) (r:β):Prop:=∃pv h' T,K pv h' T=some r∧Step P o ρ h h' T pv
theorem Out.pure {v:A} (hr:K v h .no=some r) (k:∀S2,gY P o ρ S2 S2 v) (hd:∀c,o.op≠.defer c):Out P o ρ h K r:=⟨v,h,.no,hr,.pure k hd⟩
theorem Out.read {v:A} (T:List Nat) (hr:K v h (.rd T)=some r) (k:∀S2,bO (.rd T) (hp h) S2→gY P o ρ S2 S2 v) (hd:∀c,o.op≠.defer c):Out P o ρ h K r:=⟨v,h,.rd T,hr,.read _ k hd⟩
theorem Out.sp {h':H} {T:Fp} {v:A} (hr:Ir v (fun v=>K v h' T)=some r) (k:Step P o ρ h h' T v):Out P o ρ h K r:=by
 obtain ⟨v',h1,h2⟩:=Df hr
 exact ⟨v',h',T,h1,k.tx h2⟩
def mvK (x:A) (h:H) (K:A→H→Fp→Option β):Option β:=K x h .no
def SP (px:A) (ix:Nat) (h:H) (K:A→H→Fp→Option β):Option β:=match px with
 | .mH cs=>match cs[ix]? with
  | some p=>Ir p (fun v=>K v h .no)
  | none=>none
 | _=>none
theorem NX {x:Operand} {ix:Nat} (ho:o.op = .extract x ix) (hr:SP (ρ x) ix h K=some r):Out P o ρ h K r:=by
 unfold SP at hr
 split at hr
 ·rename_i cs hx
  split at hr
  ·rename_i p hp
   exact .sp hr (.pure (fun S2=>BD ho hx hp) (by rw [ho];intro c e;cases e))
  ·cases hr
 ·cases hr
def Ja (px py pz:A) (h:H) (K:A→H→Fp→Option β):Option β:=match px with
 | .v (.bool b)=>br b (K py h .no) (K pz h .no)
 | _=>none
theorem I_ {x y z:Operand} (ho:o.op = .pick x y z) (hr:Ja (ρ x) (ρ y) (ρ z) h K=some r):Out P o ρ h K r:=by
 unfold Ja at hr
 split at hr
 ·rename_i b hx
  rcases t_ hr with ⟨rfl,h1⟩ | ⟨rfl,h1⟩
  ·exact .pure h1 (fun S2=>by have:=BB (P:=P) (S:=S2) ho hx;simpa using this) (by rw [ho];intro c e;cases e)
  ·exact .pure h1 (fun S2=>by have:=BB (P:=P) (S:=S2) ho hx;simpa using this) (by rw [ho];intro c e;cases e)
 ·cases hr
def abL (op:BinOp) (k:IntKind) (m n:Int) (K:Value→Option β):Option β:=match op with
 | .add=>K (.int k (af k m n))
 | .sub=>K (.int k (aK k m n))
 | .mul=>K (.int k (fY k m n))
 | .quo=>gd (LL n) (K (.int k (iS k m n)))
 | .rem=>gd (LL n) (K (.int k (dU m n)))
 | .and=>K (.int k (bits .and k m n))
 | .or=>K (.int k (bits .or k m n))
 | .xor=>K (.int k (bits .xor k m n))
 | .andNot=>K (.int k (bits .andNot k m n))
 | .eql=>K (.bool (aj m n))
 | .neq=>K (.bool (aH (aj m n)))
 | .lss=>K (.bool (bz m n))
 | .leq=>K (.bool (cZ m n))
 | .gtr=>K (.bool (bz n m))
 | .geq=>K (.bool (cZ n m))
 | _=>none
theorem Oe {op:BinOp} {k:IntKind} {m n:Int} {K:Value→Option β} (hr:abL op k m n K=some r):∃v,K v=some r∧Ni op k m n=some v:=by
 cases op with
 | quo=>
  obtain ⟨h1,h2⟩:=cH (show gd (LL n) (K (.int k (iS k m n)))=some r from hr)
  exact ⟨_,h2,if_neg h1⟩
 | rem=>
  obtain ⟨h1,h2⟩:=cH (show gd (LL n) (K (.int k (dU m n)))=some r from hr)
  exact ⟨_,h2,if_neg h1⟩
 | _=>first | exact ⟨_,hr,rfl⟩ | cases hr
def shI (op:BinOp) (k:IntKind) (m n:Int) (K:Value→Option β):Option β:=match op with
 | .shl=>gd (bl n) (K (.int k (Hc k m n)))
 | .shr=>gd (bl n) (K (.int k (uM k m n)))
 | _=>none
theorem Rm {op:BinOp} {k:IntKind} {m n:Int} {K:Value→Option β} (hr:shI op k m n K=some r):∃v,K v=some r∧DP op k m n=some v:=by
 cases op with
 | shl=>
  obtain ⟨h1,h2⟩:=cH (show gd (bl n) (K (.int k (Hc k m n)))=some r from hr)
  exact ⟨_,h2,if_neg (by unfold bl at h1;omega)⟩
 | shr=>
  obtain ⟨h1,h2⟩:=cH (show gd (bl n) (K (.int k (uM k m n)))=some r from hr)
  exact ⟨_,h2,if_neg (by unfold bl at h1;omega)⟩
 | _=>cases hr
def Qw:BinOp→Bool
 | .shl=>true
 | .shr=>true
 | _=>false
def isEq:BinOp→Bool
 | .eql=>true
 | .neq=>true
 | _=>false
theorem oj {op:BinOp} (h:isEq op=true):op = .eql∨op = .neq:=by cases op<;>first | exact .inl rfl | exact .inr rfl | cases h
def G3 (op:BinOp) (b:Bool):Bool:=match op with
 | .eql=>b
 | _=>aH b
theorem sv {op:BinOp} (b:Bool) (h:isEq op=true):G3 op b=if op = .eql then b else !b:=by
 rcases oj h with rfl | rfl<;>rfl
def G0 (p q:A):Option Bool:=match q with
 | .v (.slice none 0 0)=>match p with
  | .v (.slice none _ _)=>some true
  | .nn _ _=>some false
  | .aa _ _ _ _=>some false
  | .sl _ _ _ _=>some false
  | _=>none
 | _=>none
theorem M0 {g:G} {p q:A} {u v:Value} {b:Bool} (h:G0 p q=some b) (hp:V g p u) (hq:V g q v):v = .slice none 0 0∧∃A n c,u = .slice A n c∧A.isNone=b:=by
 unfold G0 at h
 split at h
 ·cases hq
  refine ⟨rfl,?_⟩
  split at h
  ·cases h;cases hp;exact ⟨_,_,_,rfl,rfl⟩
  ·cases h;cases hp;exact ⟨_,_,_,rfl,rfl⟩
  ·cases h;cases hp;exact ⟨_,_,_,rfl,rfl⟩
  ·cases h;cases hp;exact ⟨_,_,_,rfl,rfl⟩
  ·cases h
 ·cases h
theorem ID (d:Nat) (w:World) {T E:TypeId} (hT:P.underlying T=some (.slice E)) (A:Option Addr) (n c:Nat):(Op.equalIn (d+1) T (.slice A n c) (.slice none 0 0)).run P w = .ok A.isNone w:=by
 cases A<;>simp [Op.equalIn,run_underlying hT]
theorem ES (w:World) {T E:TypeId} (hT:P.underlying T=some (.slice E)) (A:Option Addr) (n c:Nat):(Op.equalIn 10000 T (.slice A n c) (.slice none 0 0)).run P w = .ok A.isNone w:=ID 9999 w hT A n c
theorem MQ {S:Hp} {op:BinOp} {T T' E:TypeId} {x y:Operand} {b:Bool} (ho:o.op = .binOp op T x y T') (hT:P.underlying T=some (.slice E)) (tj:op = .eql∨op = .neq)
  (hb:G0 (ρ x) (ρ y)=some b):gY P o ρ S S (.v (.bool (if op = .eql then b else !b))):=
 .value fun g w a _ hv=>by
  obtain ⟨e2,A,n,c,h1,h2⟩:=M0 hb (hv x (by simp [ho,Op.operands])) (hv y (by simp [ho,Op.operands]))
  have jb:=ES (P:=P) w hT A n c
  rw [h2] at jb
  refine ⟨.bool (if op = .eql then b else !b),?_,.v _⟩
  have mw:(eqGuard op T x y (.slice A n c) (.slice none 0 0)).run P w = .ok () w:=by
   rcases tj with rfl | rfl<;>rfl
  rcases tj with rfl | rfl
  ·have hb:(binOp .eql T (.slice A n c) (.slice none 0 0)).run P w = .ok (.bool b) w:=by
    simp only [binOp];simp [Op.equal,Op.maxDepth,jb]
   simp only [execOp,ho,h1,e2,Sem.run_bind,mw,Result.andThen_ok,if_true,hb,Sem.run_pure]
  ·have hb:(binOp .neq T (.slice A n c) (.slice none 0 0)).run P w = .ok (.bool (!b)) w:=by
    simp only [binOp];simp [Op.equal,Op.maxDepth,jb]
   simp only [execOp,ho,h1,e2,Sem.run_bind,mw,Result.andThen_ok,hb,Sem.run_pure]
   rfl
def Lh (E:Env) (op:BinOp) (T:Nat) (px py:A) (h:H) (K:A→H→Fp→Option β):Option β:=match px,py with
 | .v (.int k m),.v (.int k' n)=>bif Qw op then shI op k m n (fun v=>K (.v v) h .no) else if k=k' then abL op k m n (fun v=>K (.v v) h .no) else none
 | .v (.bool p),.v (.bool q)=>bif isEq op then (match dA E.fO T with
  | some ⟨.bool,_,_,_,_,_,_⟩=>K (.v (.bool (G3 op (Ar p q)))) h .no
  | _=>none) else none
 | px,py=>bif isEq op then (match dA E.fO T with
  | some e=>match e.d with
   | .pointer _=>match Ju px py with
    | some b=>K (.v (.bool (G3 op b))) h .no
    | none=>none
   | .slice _=>match G0 px py with
    | some b=>K (.v (.bool (G3 op b))) h .no
    | none=>none
   | .struct _=>bif kN px && kN py && E.eqs.any (Nat.beq T) then (match px.cells,py.cells with
    | some cs,some ds=>match AO E 6 T cs ds with
     | some b=>K (.v (.bool (G3 op b))) h .no
     | none=>none
    | _,_=>none) else none
   | _=>none
  | none=>none) else none
theorem Aq (hE:dq P E) {op:BinOp} {T T':TypeId} {x y:Operand} (ho:o.op = .binOp op T x y T') (hr:Lh E op T (ρ x) (ρ y) h K=some r):Out P o ρ h K r:=by
 have hd:∀c,o.op≠.defer c:=by rw [ho];intro c e;cases e
 unfold Lh at hr
 split at hr
 ·rename_i k m k' n hx hy
  cases hs:Qw op with
  | true=>
   rw [hs] at hr
   simp only [cond_true] at hr
   obtain ⟨v,h1,h2⟩:=Rm hr
   exact .pure h1 (fun S2=>GM ho hx hy h2) hd
  | false=>
   rw [hs] at hr
   simp only [cond_false] at hr
   split at hr
   ·rename_i hk;subst hk
    obtain ⟨v,h1,h2⟩:=Oe hr
    exact .pure h1 (fun S2=>MT ho hx hy h2) hd
   ·cases hr
 ·rename_i p q hx hy
  obtain ⟨hq,hr⟩:=ae hr
  split at hr
  ·rename_i ht
   refine .pure hr (fun S2=>?_) hd
   have:=MS (P:=P) (S:=S2) ho (hE.fO _ _ ht).u hx hy (oj hq)
   rw [sv _ hq]
   rcases oj hq with rfl | rfl<;>exact this
  ·cases hr
 ·obtain ⟨hq,hr⟩:=ae hr
  split at hr
  ·rename_i e ht
   split at hr
   ·rename_i el HY
    split at hr
    ·rename_i b hb
     refine .pure hr (fun S2=>?_) hd
     rw [sv _ hq]
     exact GO ho (by rw [(hE.fO _ _ ht).u,HY]) hb (oj hq)
    ·cases hr
   ·rename_i el HY
    split at hr
    ·rename_i b hb
     refine .pure hr (fun S2=>?_) hd
     rw [sv _ hq]
     exact MQ ho (by rw [(hE.fO _ _ ht).u,HY]) (oj hq) hb
    ·cases hr
   ·rename_i fs HY
    obtain ⟨hc,hr⟩:=ae hr
    simp only [zC] at hc
    split at hr
    ·rename_i cs ds h1 h2
     split at hr
     ·rename_i b hb
      refine .pure hr (fun S2=>?_) hd
      rw [sv _ hq]
      exact GP hE ho ht (by rw [HY];rfl) (hE.eqs _ hc.2) hc.1.1 hc.1.2 h1 h2 hb (by omega) (oj hq)
     ·cases hr
    ·cases hr
   ·cases hr
  ·cases hr
def unK (op:UnOp) (px:A) (h:H) (K:A→H→Fp→Option β):Option β:=match op,px with
 | .not,.v (.bool b)=>K (.v (.bool (aH b))) h .no
 | _,_=>none
theorem Rd {op:UnOp} {T:TypeId} {x:Operand} (ho:o.op = .unOp op T x) (hr:unK op (ρ x) h K=some r):Out P o ρ h K r:=by
 unfold unK at hr
 split at hr
 ·rename_i b hx
  exact .pure hr (fun S2=>ML ho hx) (by rw [ho];intro c e;cases e)
 ·cases hr
def alf (E:Env) (s d:Nat) (px:A) (h:H) (K:A→H→Fp→Option β):Option β:=match dA E.fO s,dA E.fO d,px with
 | some _,some ⟨.int k',_,_,_,_,_,_⟩,.v (.int k n)=>if k'=k then K (.v (.int k n)) h .no else K (.v (.int k' (kU k' n))) h .no
 | _,_,_=>none
def cvK (E:Env) (s d:Nat) (px:A) (h:H) (K:A→H→Fp→Option β):Option β:=match dA E.fO s,dA E.fO d,px with
 | some _,some ⟨.int k',_,_,_,_,_,_⟩,.v (.int _ n)=>K (.v (.int k' (kU k' n))) h .no
 | _,_,_=>none
theorem SY (hE:dq P E) {s d:TypeId} {x:Operand} (ho:o.op = .convert s d x) (hr:cvK E s d (ρ x) h K=some r):Out P o ρ h K r:=by
 unfold cvK at hr
 split at hr
 ·rename_i es _ _ _ _ _ _ _ _ _ hs qC hx
  exact .pure hr (fun S2=>Jl ho (by rw [(hE.fO _ _ hs).u];rfl) (hE.fO _ _ qC).u hx) (by rw [ho];intro c e;cases e)
 ·cases hr
def Y0 (px:A) (h:H) (K:A→H→Fp→Option β):Option β:=bif JY px then K px h .no else none
theorem M3 {x:Operand} (ho:o.op = .nilCheck x) (hr:Y0 (ρ x) h K=some r):Out P o ρ h K r:=by
 obtain ⟨h1,h2⟩:=ae hr
 exact .pure h2 (fun S2=>y7 ho h1) (by rw [ho];intro c e;cases e)
end
end
section
open Go.RowKit
section
variable {P:Program} {E:Env} {o:Oper} {ρ:Operand→A} {h:H} {β:Type} {K:A→H→Fp→Option β} {r:β}
def oy:Nat→Ty→Nat→Option (List Sp)
 | 1,_,0=>some []
 | _+2,.pair _ _,0=>some [.fst]
 | n+2,.pair a b,f+1=>match oy (n+1) b f with
  | some π=>some (.snd a.size::π)
  | none=>none
 | _,_,_=>none
theorem z_ {s:Nat}:∀(n:Nat) (t:Ty) (f:Nat) (π:List Sp),oy n t f=some π→H8 s π
 | 0,_,_,_,h=>by simp [oy] at h
 | 1,_,0,_,h=>by simp [oy] at h;subst h;trivial
 | 1,_,f+1,_,h=>by simp [oy] at h
 | n+2,.pair a b,0,_,h=>by simp [oy] at h;subst h;trivial
 | n+2,.pair a b,f+1,_,h=>by
  simp only [oy] at h
  split at h
  ·rename_i π' h'
   cases h
   exact z_ (s:=s) (n+1) b f π' h'
  ·cases h
 | n+2,.int _,f,_,h=>by cases f<;>simp [oy] at h
 | n+2,.bool,f,_,h=>by cases f<;>simp [oy] at h
 | n+2,.unit,f,_,h=>by cases f<;>simp [oy] at h
 | n+2,.arr _ _,f,_,h=>by cases f<;>simp [oy] at h
 | n+2,.cN _,f,_,h=>by cases f<;>simp [oy] at h
 | n+2,.ptr _,f,_,h=>by cases f<;>simp [oy] at h
 | n+2,.dR _,f,_,h=>by cases f<;>simp [oy] at h
 | n+2,.kA _ _,f,_,h=>by cases f<;>simp [oy] at h
 | n+2,.td _ _,f,_,h=>by cases f<;>simp [oy] at h
 | n+2,.mp _,f,_,h=>by cases f<;>simp [oy] at h
def SJ (E:Env) (T f:Nat) (px:A) (h:H) (K:A→H→Fp→Option β):Option β:=match dA E.fO T with
 | some ⟨.struct fs,_,_,_,_,t,_⟩=>match fs[f]? with
  | some fd=>match dA E.fO fd.type with
   | some e=>bif Nat.blt 0 e.size then (match px with
    | .ptr o off=>K (.ptr o (off+fd.offset)) h .no
    | .tp X π=>match t with
     | some t=>match oy fs.size t f with
      | some σ=>bif Nat.beq (fJ σ) fd.offset then K (.tp X (π++σ)) h .no else none
      | none=>none
     | none=>none
    | .dp t x=>match oy fs.size t f with
     | some σ=>bif Nat.beq (fJ σ) fd.offset then (match rq σ t x with
      | some s=>K (.dp s.t s.x) h .no
      | none=>none) else none
     | none=>none
    | _=>none) else none
   | none=>none
  | none=>none
 | _=>none
theorem NR (hE:dq P E) {T f:Nat} {x:Operand} (ho:o.op = .fieldAddr T x f) (hr:SJ E T f (ρ x) h K=some r):Out P o ρ h K r:=by
 have hd:∀c,o.op≠.defer c:=by rw [ho];intro c e;cases e
 unfold SJ at hr
 split at hr
 ·rename_i fs _ _ _ _ t _ ht
  split at hr
  ·rename_i fd hf
   split at hr
   ·rename_i e he
    obtain ⟨h0,hr⟩:=ae hr
    have h0:=bW h0
    have qX:∀{v:A},(∀g u,V g (ρ x) u→∃b off,u = .pointer (some ⟨b,off,none⟩)∧V g v (.pointer (some ⟨b,off+fd.offset,none⟩)))→∀S2,gY P o ρ S2 S2 v:=fun hv S2=>
     GN ho (hE.fO _ _ ht).u hf (hE.fO _ _ he).ti.size (by omega) hv
    split at hr
    ·rename_i q off hx
     refine .pure hr (qX fun g u hu=>?_) hd
     rw [hx] at hu
     cases hu with
     | ptr _ _ b s hb=>exact ⟨b,off,rfl,.ptr _ _ b s hb⟩
    ·rename_i X π hx
     split at hr
     ·rename_i t'
      split at hr
      ·rename_i σ hσ
       obtain ⟨hc,hr⟩:=ae hr
       refine .pure hr (qX fun g u hu=>?_) hd
       rw [hx] at hu
       cases hu with
       | tp _ _ b s hb hk=>
        refine ⟨b,fJ π,rfl,?_⟩
        rw [←beq_eq hc,←mr]
        exact .tp X _ b s hb ((oI π σ).2 ⟨hk,z_ _ _ _ _ hσ⟩)
      ·cases hr
     ·cases hr
    ·rename_i t' y hx
     split at hr
     ·rename_i σ hσ
      obtain ⟨hc,hr⟩:=ae hr
      split at hr
      ·rename_i sg LP
       refine .pure hr (qX fun g u hu=>?_) hd
       rw [hx] at hu
       cases hu with
       | dp _ _ b off f hm=>
        obtain ⟨a,c,q1,q2⟩:=pJ σ t' y 0 sg LP (z_ _ _ _ _ hσ)
        refine ⟨b,off,rfl,.dp sg.t sg.x b _ (fun j=>f (fJ σ+j)) (fun j d hj=>?_)⟩
        have:=hm (fJ σ+j) d (by
         rw [q1,zJ (by omega),show fJ σ+j-a.length=j by omega,zK (zB.1 hj).1];exact hj)
        rw [←beq_eq hc,Nat.add_assoc]
        exact this
      ·cases hr
     ·cases hr
    ·cases hr
   ·cases hr
  ·cases hr
 ·cases hr
def spl:Nat→Nat→Int→(Nat→Option β)→Option β
 | 0,_,_,_=>none
 | n+1,i,m,k=>br (aj m (zN i)) (k i) (spl n (i+1) m k)
theorem De {m:Int} {k:Nat→Option β}:∀(n i:Nat),spl n i m k=some r→∃j,k j=some r∧m=((j:Nat):Int)∧i≤j∧j<i+n
 | 0,i,h=>by cases h
 | n+1,i,h=>by
  rcases t_ h with ⟨e,h1⟩ | ⟨e,h1⟩
  ·exact ⟨i,h1,of_decide_eq_true e,Nat.le_refl _,by omega⟩
  ·obtain ⟨j,k1,k2,k3,k4⟩:=De n (i+1) h1
   exact ⟨j,k1,k2,by omega,by omega⟩
def aec:Operand→Option Nat
 | .const (.int _ (.ofNat n))=>some n
 | _=>none
theorem qM {n:Int} (h:bl n):((nN n:Nat):Int)=n:=Int.toNat_of_nonneg h
def ixK (E:Env) (T:Nat) (px:A) (y:Operand) (py:A) (h:H) (K:A→H→Fp→Option β):Option β:=match py with
 | .v (.int _ n)=>match dA E.fO T with
  | some ⟨.array len el,_,_,_,_,_,_⟩=>match dA E.fO el with
   | some e=>match px with
    | .ptr q off=>match aec y with
     | some i=>gd (neq (nN n) i) (bif Nat.blt i len then gd (bl n) (K (.ptr q (off+i*e.size)) h .no) else none)
     | none=>spl len 0 n (fun i=>K (.ptr q (off+i*e.size)) h .no)
    | .tp X π=>gd (bl n) (gd (bn (nN n) len) (K (.tp X (π++[.ai (nN n) len e.size])) h .no))
    | .dp t x=>gd (bl n) (gd (bn (nN n) len) (bif Nat.blt 0 e.size then (match rq [.ai (nN n) len e.size] t x with
     | some s=>K (.dp s.t s.x) h .no
     | none=>none) else none))
    | _=>none
   | none=>none
  | some ⟨.slice el,_,_,_,_,_,_⟩=>match dA E.fO el with
   | some e=>bif Nat.blt 0 e.size then (match px with
    | .tl t _ l=>bif Nat.beq t.size e.size then gd (bl n) (gd (bn (nN n) (len l)) (K (.dp t (nth t.dS l (nN n))) h .no)) else none
    | .tw X z=>bif Nat.beq z e.size then lg h X (fun t l=>bif Nat.beq z t.size then gd (bl n) (gd (bn (nN n) (len l)) (K (.tp X [.ix (nN n) z]) h (.rd [lf X]))) else none) else none
    | .ts X z off m=>bif Nat.beq z e.size then gd (bl n) (gd (bn (nN n) m) (K (.tp X [.ix (aY off (nN n)) z]) h .no)) else none
    | .tf X z off m=>bif Nat.beq z e.size then gd (bl n) (gd (bn (nN n) m) (K (.tp X [.ix (aY off (nN n)) z]) h .no)) else none
    | .aa X π m z=>bif Nat.beq z e.size then gd (bl n) (gd (bn (nN n) m) (K (.tp X (π++[.ai (nN n) m z])) h .no)) else none
    | .sl q off z m=>bif Nat.beq z e.size then spl m 0 n (fun i=>K (.ptr q (off+i*z)) h .no) else none
    | _=>none) else none
   | none=>none
  | _=>none
 | _=>none
theorem NS {t:Ty} {l:List t.T} {i:Nat} (hi:i<l.length) {j:Nat} {c:D} (hj:(fb t (nth t.dS l i))[j]?=some c):(l.map (fb t)).flatten[i*t.size+j]?=some c:=by
 have e:l=l.take i++nth t.dS l i::l.drop (i+1):=by
  rw [show nth t.dS l i=l[i] by simp [nth,zA,zD hi],List.getElem_cons_drop,zP]
 have hl:((l.take i).flatMap (fb t)).length=i*t.size:=by
  have:∀m:List t.T,(m.flatMap (fb t)).length=m.length*t.size:=fun m=>by
   induction m with
   | nil=>simp
   | cons a m ih=>rw [List.flatMap_cons,zY,ih,gk,zR,Nat.succ_mul,Nat.add_comm]
  rw [this,List.length_take,Nat.min_eq_left (Nat.le_of_lt hi)]
 rw [nA]
 conv=>lhs;rw [e]
 rw [List.flatMap_append,List.flatMap_cons,zJ (by omega),hl,show i*t.size+j-i*t.size=j by omega,zK (zB.1 hj).1]
 exact hj
theorem Sd (hE:dq P E) {T:Nat} {x y:Operand} (ho:o.op = .indexAddr T x y) (hr:ixK E T (ρ x) y (ρ y) h K=some r):Out P o ρ h K r:=by
 have hd:∀c,o.op≠.defer c:=by rw [ho];intro c e;cases e
 unfold ixK at hr
 split at hr
 ·rename_i k n hy
  split at hr
  ·rename_i len el _ _ _ _ _ _ ht
   split at hr
   ·rename_i e he
    have qX:∀{v:A},0≤n∧n<len→(∀g u,V g (ρ x) u→∃b off,u = .pointer (some ⟨b,off,none⟩)∧V g v (.pointer (some ⟨b,off+n.toNat*e.size,none⟩)))→∀S2,gY P o ρ S2 S2 v:=fun hn hv S2=>
     xm ho (hE.fO _ _ ht).u (hE.fO _ _ he).ti.size hy hn hv
    split at hr
    ·rename_i q off hx
     have ptr:∀i:Nat,n.toNat=i→∀g u,V g (ρ x) u→∃b YX,u = .pointer (some ⟨b,YX,none⟩)∧V g (.ptr q (off+i*e.size)) (.pointer (some ⟨b,YX+n.toNat*e.size,none⟩)):=fun i hi g u hu=>by
      rw [hx] at hu
      cases hu with
      | ptr _ _ b s hb=>exact ⟨b,off,rfl,by rw [hi];exact .ptr _ _ b s hb⟩
     split at hr
     ·rename_i i _
      obtain ⟨h1,hr⟩:=cH hr
      obtain ⟨h2,hr⟩:=ae hr
      obtain ⟨h3,hr⟩:=cH hr
      have h4:=qM h3
      have h1:nN n=i:=h1
      have h5:=bW h2
      exact .pure hr (qX ⟨h3,by omega⟩ (ptr i h1)) hd
     ·obtain ⟨i,h1,h2,h3,h4⟩:=De _ _ hr
      exact .pure h1 (qX ⟨by omega,by omega⟩ (ptr i (by omega))) hd
    ·rename_i X π hx
     obtain ⟨h3,hr⟩:=cH hr
     obtain ⟨h4,hr⟩:=cH hr
     have h5:=qM h3
     have h4:nN n<len:=h4
     refine .pure hr (qX ⟨h3,by omega⟩ (fun g u hu=>?_)) hd
     rw [hx] at hu
     cases hu with
     | tp _ _ b s hb hk=>
      refine ⟨b,fJ π,rfl,?_⟩
      have:=V.tp (g:=g) X (π++[.ai (nN n) len e.size]) b s hb ((oI π [.ai (nN n) len e.size]).2 ⟨hk,show nN n<len∧True from ⟨h4,trivial⟩⟩)
      rw [mr] at this
      exact this
    ·rename_i t z hx
     obtain ⟨h3,hr⟩:=cH hr
     obtain ⟨h4,hr⟩:=cH hr
     obtain ⟨_,hr⟩:=ae hr
     have h5:=qM h3
     have h4:nN n<len:=h4
     split at hr
     ·rename_i sg LP
      refine .pure hr (qX ⟨h3,by omega⟩ (fun g u hu=>?_)) hd
      rw [hx] at hu
      cases hu with
      | dp _ _ b off f hm=>
       obtain ⟨a,c,q1,q2⟩:=pJ _ t z 0 sg LP ⟨h4,trivial⟩
       have q2:a.length=nN n*e.size:=q2
       refine ⟨b,off,rfl,.dp sg.t sg.x b _ (fun j=>f (nN n*e.size+j)) (fun j d hj=>?_)⟩
       have:=hm (nN n*e.size+j) d (by
        rw [q1,zJ (by omega),show nN n*e.size+j-a.length=j by omega,zK (zB.1 hj).1];exact hj)
       rw [Nat.add_assoc]
       exact this
     ·cases hr
    ·cases hr
   ·cases hr
  ·rename_i el _ _ _ _ _ _ ht
   split at hr
   ·rename_i e he
    obtain ⟨h0,hr⟩:=ae hr
    have h0:=bW h0
    have qX:∀{v:A} {S2:Hp},(∀g w u,Inv g S2 w→V g (ρ x) u→∃b off m cap,u = .slice (some ⟨b,off,none⟩) m cap∧(0≤n∧n<m)∧V g v (.pointer (some ⟨b,off+n.toNat*e.size,none⟩)))→gY P o ρ S2 S2 v:=fun hv=>
     y9 ho (hE.fO _ _ ht).u (hE.fO _ _ he).ti.size hy hv
    split at hr
    ·rename_i t f l hx
     obtain ⟨h1,hr⟩:=ae hr
     obtain ⟨h3,hr⟩:=cH hr
     obtain ⟨h4,hr⟩:=cH hr
     have h5:=qM h3
     have h4:nN n<l.length:=h4
     refine .pure hr (fun S2=>qX (fun g w u hI hu=>?_)) hd
     rw [hx] at hu
     cases hu with
     | tl _ _ _ _ hv=>
      rw [←beq_eq h1] at *
      generalize oO:List.map (fb t) l=es at hv
      have tT:es.length=l.length:=by rw [←oO,zH]
      cases hv with
      | xc=>simp at tT;omega
      | sl _ _ _ a cap vs hz hc hf hn sE hl hm He=>
       obtain ⟨p,rfl⟩:∃p,a=some p:=by
        cases a with
        | none=>have:=hn rfl;omega
        | some p=>exact ⟨p,rfl⟩
       refine ⟨p.1,p.2,es.length,cap,rfl,⟨h3,by omega⟩,.dp t _ p.1 _ (fun j=>vs.getD (nN n*t.size+j) undef) (fun j c hj=>?_)⟩
       have AJ:=NS (t:=t) (l:=l) h4 hj
       rw [oO] at AJ
       have eh:=(zB.1 AJ).1
       have CZ:vs[nN n*t.size+j]?=some (vs.getD (nN n*t.size+j) undef):=by
        rw [zA,zD (by rw [←hl];exact eh)];rfl
       refine ⟨?_,He _ c _ AJ CZ⟩
       have:=hm p _ _ rfl CZ
       rw [Nat.add_assoc];exact this
    ·rename_i X z hx
     obtain ⟨h1,hr⟩:=ae hr
     obtain rfl:=beq_eq h1
     obtain ⟨t,l,hr,hX,fN⟩:=gK hr
     obtain ⟨h2,hr⟩:=ae hr
     obtain ⟨h3,hr⟩:=cH hr
     obtain ⟨h4,hr⟩:=cH hr
     have h5:=qM h3
     have h4:nN n<l.length:=h4
     have h2:=beq_eq h2
     refine .read _ hr (fun S2 hA=>qX (fun g w u hI hu=>?_)) hd
     have gh:=(hA _ (cJ hX (.head _))).1.trans fN
     rw [hx] at hu
     cases hu with
     | AA _ _ ad cV=>
      rcases hI.cells _ _ gh with ⟨_,k2⟩ | ⟨b,tt,k1,_⟩
      ·have:=bV t l
       rw [k2] at this
       have:0<l.length*t.size:=Nat.mul_pos (by omega) (by omega)
       simp at *;omega
      ·rw [k1] at cV;cases cV
     | tw _ _ m b cap tt cV hn sE hp d qC=>
      rcases hI.cells _ _ gh with ⟨k1,_⟩ | ⟨b',Md,k1,_⟩
      ·rw [k1] at cV;cases cV
      have SB:=cV
      rw [k1] at cV
      simp only [zI,zU] at cV
      obtain ⟨rfl,hlen,_⟩:=cV
      rw [bV,h2] at hlen
      have hm:l.length=m:=Nat.eq_of_mul_eq_mul_right (by omega) hlen
      refine ⟨b',d,m,cap,rfl,⟨h3,by omega⟩,?_⟩
      obtain rfl:=qC (by omega)
      have:=V.tp (g:=g) X [.ix (nN n) e.size] b' _ SB ⟨zW _ (by omega),trivial⟩
      rw [show fJ [.ix (nN n) e.size]=nN n*e.size from rfl] at this
      rw [Nat.zero_add];exact this
    ·rename_i X z off m hx
     obtain ⟨h1,hr⟩:=ae hr
     obtain rfl:=beq_eq h1
     obtain ⟨h3,hr⟩:=cH hr
     obtain ⟨h4,hr⟩:=cH hr
     have h5:=qM h3
     have h4:nN n<m:=h4
     refine .pure hr (fun S2=>qX (fun g w u hI hu=>?_)) hd
     rw [hx] at hu
     cases hu with
     | xJ _ _ _ _ _ _ hn=>omega
     | ts _ _ _ _ b cap s cV hn sE hs hp d qC=>
      refine ⟨b,d,m,cap,rfl,⟨h3,by omega⟩,?_⟩
      obtain rfl:=qC (by omega)
      have:=V.tp (g:=g) X [.ix (aY off (nN n)) e.size] b _ cV ⟨Nat.le_trans (zW _ (show aY off (nN n)+1≤off+m by unfold aY;omega)) hs,trivial⟩
      rw [show fJ [.ix (aY off (nN n)) e.size]=(off+nN n)*e.size from rfl,Nat.add_mul] at this
      exact this
    ·rename_i X z off m hx
     obtain ⟨h1,hr⟩:=ae hr
     obtain rfl:=beq_eq h1
     obtain ⟨h3,hr⟩:=cH hr
     obtain ⟨h4,hr⟩:=cH hr
     have h5:=qM h3
     have h4:nN n<m:=h4
     refine .pure hr (fun S2=>qX (fun g w u hI hu=>?_)) hd
     rw [hx] at hu
     cases hu with
     | Io _ _ _ _ _ _ hn=>omega
     | tf _ _ _ _ b s cV sE hs d qC=>
      refine ⟨b,d,m,m,rfl,⟨h3,by omega⟩,?_⟩
      obtain rfl:=qC (by omega)
      have:=V.tp (g:=g) X [.ix (aY off (nN n)) e.size] b _ cV ⟨Nat.le_trans (zW _ (show aY off (nN n)+1≤off+m by unfold aY;omega)) hs,trivial⟩
      rw [show fJ [.ix (aY off (nN n)) e.size]=(off+nN n)*e.size from rfl,Nat.add_mul] at this
      exact this
    ·rename_i X π m z hx
     obtain ⟨h1,hr⟩:=ae hr
     obtain rfl:=beq_eq h1
     obtain ⟨h3,hr⟩:=cH hr
     obtain ⟨h4,hr⟩:=cH hr
     have h5:=qM h3
     have h4:nN n<m:=h4
     refine .pure hr (fun S2=>qX (fun g w u hI hu=>?_)) hd
     rw [hx] at hu
     cases hu with
     | aa _ _ _ _ b cap s cV hk hn sE=>
      refine ⟨b,fJ π,m,cap,rfl,⟨h3,by omega⟩,?_⟩
      have:=V.tp (g:=g) X (π++[.ai (nN n) m e.size]) b s cV ((oI π [.ai (nN n) m e.size]).2 ⟨hk,show nN n<m∧True from ⟨h4,trivial⟩⟩)
      rw [mr] at this
      exact this
    ·rename_i q off z m hx
     obtain ⟨h1,hr⟩:=ae hr
     obtain rfl:=beq_eq h1
     obtain ⟨i,k1,k2,k3,k4⟩:=De _ _ hr
     refine .pure k1 (fun S2=>qX (fun g w u hI hu=>?_)) hd
     rw [hx] at hu
     cases hu with
     | sl _ _ _ _ b cap s cV hn sE hs=>
      refine ⟨b,off,m,cap,rfl,⟨by omega,by omega⟩,?_⟩
      rw [show n.toNat=i by omega]
      exact .ptr _ _ b s cV
    ·cases hr
   ·cases hr
  ·cases hr
 ·cases hr
end
end
section
open Go.RowKit
section
variable {P:Program} {E:Env} {o:Oper} {ρ:Operand→A} {h:H} {β:Type} {K:A→H→Fp→Option β} {r:β}
def RY (E:Env) (T:Nat) (px:A) (h:H) (K:A→H→Fp→Option β):Option β:=match dA E.fO T with
 | some e=>match px with
  | .ptr q off=>bif Nat.blt q 16777216 then (match h.t.get q with
   | some (.cells cs)=>bif l8 e.d then (bif Nat.ble (off+e.size) cs.length then K (.agg ((cs.drop off).take e.size)) h (.rd [gq q]) else none) else (match cs[off]? with
    | some c=>Ir c (fun v=>K v h (.rd [gq q]))
    | none=>none)
   | _=>none) else none
  | .tp X π=>vG h X π (fun s=>bif Nat.beq s.t.size e.size then (bif l8 e.d then K (.agg (aJ s.t s.x)) h (.rd [lf X]) else (match aJ s.t s.x with
   | [c]=>Ir c (fun v=>K v h (.rd [lf X]))
   | _=>none)) else none)
  | .dp t x=>bif t.data && Nat.beq t.size e.size then (bif l8 e.d then K (.agg (aJ t x)) h .no else (match aJ t x with
   | [c]=>Ir c (fun v=>K v h .no)
   | _=>none)) else none
  | _=>none
 | none=>none
theorem JI (hE:dq P E) {T:Nat} {px:A} (hr:RY E T px h K=some r):∃v l,K v h (.rd l)=some r∧∀S2,bO (.rd l) (hp h) S2→∀(o:Oper) (ρ:Operand→A) (x:Operand),o.op = .load T x→ρ x=px→Lx P o ρ S2 v:=by
 have sp:∀{c:A} {l:List Nat},Ir c (fun v=>K v h (.rd l))=some r→(∀S2,bO (.rd l) (hp h) S2→∀(o:Oper) (ρ:Operand→A) (x:Operand),o.op = .load T x→ρ x=px→Lx P o ρ S2 c) →
   ∃v l,K v h (.rd l)=some r∧∀S2,bO (.rd l) (hp h) S2→∀(o:Oper) (ρ:Operand→A) (x:Operand),o.op = .load T x→ρ x=px→Lx P o ρ S2 v:=fun h1 h2=>by
  obtain ⟨v,k1,k2⟩:=Df h1
  exact ⟨v,_,k1,fun S2 hA o ρ x ho hx g w a hI hv=>let ⟨u,q1,q2⟩:=h2 S2 hA o ρ x ho hx g w a hI hv;⟨u,q1,k2 g u q2⟩⟩
 unfold RY at hr
 split at hr
 ·rename_i e ht
  have hk:=hE.fO _ _ ht
  split at hr
  ·rename_i q off
   obtain ⟨hq,hr⟩:=ae hr
   have hq:=bW hq
   split at hr
   ·rename_i cs hg
    have fN:(hp h).ob q=some (.cells cs):=by rw [mv hq];unfold iG;rw [hg];rfl
    cases ha:l8 e.d with
    | true=>
     rw [ha] at hr;simp only [cond_true] at hr
     obtain ⟨h1,hr⟩:=ae hr
     exact ⟨_,_,hr,fun S2 hA o ρ x ho hx=>sk ho hk.u ha hk.ti.size (by rw [hx];rfl) ((hA q (aL hq (.head _))).1.trans fN) (Nat.le_of_ble_eq_true h1)⟩
    | false=>
     rw [ha] at hr;simp only [cond_false] at hr
     split at hr
     ·rename_i c hc
      exact sp hr (fun S2 hA o ρ x ho hx=>BA ho hk.u ha (by rw [hx];rfl) ((hA q (aL hq (.head _))).1.trans fN) hc)
     ·cases hr
   ·cases hr
  ·rename_i X π
   obtain ⟨sg,h1,hX,h2⟩:=xW hr
   obtain ⟨h3,h1⟩:=ae h1
   have h3:=beq_eq h3
   have ck:∀{S2:Hp} {v:A} {o:Oper} {ρ:Operand→A} {x:Operand},o.op = .load T x→ρ x = .tp X π→bO (.rd [lf X]) (hp h) S2→(∀a c,S2.ob X.id=some (.cells (a++(aJ sg.t sg.x++c)))→a.length=fJ π→Lx P o ρ S2 v)→Lx P o ρ S2 v:=fun {S2 v o ρ x} ho hx hA k=>.ck fun g w a hI hv=>by
    have LO:=hv x (by simp [ho,Op.operands])
    rw [hx] at LO
    have ha:=hA _ (cJ hX (.head _))
    obtain ⟨a,c,q1,q2⟩:=h2 g _ w _ hI ha.1 ha.2 LO
    exact k a c q1 q2
   have J8:∀{ρ:Operand→A} {x:Operand},ρ x = .tp X π→Pl (ρ x)=some (X.id,fJ π):=fun hx=>by rw [hx];rfl
   cases ha:l8 e.d with
   | true=>
    rw [ha] at h1;simp only [cond_true] at h1
    refine ⟨_,_,h1,fun S2 hA o ρ x ho hx=>ck ho hx hA fun a c q1 q2=>?_⟩
    have:=sk (P:=P) ho hk.u ha hk.ti.size (J8 hx) q1 (by simp only [zY,cU];omega)
    rwa [←q2,List.drop_left,←h3,←cU sg.t sg.x,List.take_left] at this
   | false=>
    rw [ha] at h1;simp only [cond_false] at h1
    split at h1
    ·rename_i c0 L0
     refine sp h1 (fun S2 hA o ρ x ho hx=>ck ho hx hA fun a c q1 q2=>?_)
     refine BA ho hk.u ha (J8 hx) q1 ?_
     rw [←q2,zJ (Nat.le_refl _),Nat.sub_self,L0];rfl
    ·cases h1
  ·rename_i t y
   obtain ⟨h1,hr⟩:=ae hr
   simp only [zC] at h1
   have h3:=beq_eq h1.2
   cases ha:l8 e.d with
   | true=>
    rw [ha] at hr;simp only [cond_true] at hr
    exact ⟨_,[],hr,fun S2 _ o ρ x ho hx=>uk ho hk.u (by rw [h3];exact hk.ti.size) hx h1.1 (by rw [ha,if_pos rfl])⟩
   | false=>
    rw [ha] at hr;simp only [cond_false] at hr
    split at hr
    ·rename_i c0 L0
     exact sp (l:=[]) hr (fun S2 _ o ρ x ho hx=>uk ho hk.u (by rw [h3];exact hk.ti.size) hx h1.1 (by rw [ha,if_neg (by simp)];exact L0))
    ·cases hr
  ·cases hr
 ·cases hr
theorem RX (hE:dq P E) {T:Nat} {x:Operand} (ho:o.op = .load T x) (hr:RY E T (ρ x) h K=some r):Out P o ρ h K r:=by
 have hd:∀c,o.op≠.defer c:=by rw [ho];intro c e;cases e
 obtain ⟨v,l,k1,k2⟩:=JI hE hr
 exact .read _ k1 (fun S2 hA=>.value (k2 S2 hA o ρ x ho rfl)) hd
def xG (P:Program) (o:Oper) (S S':Hp) (pv:A) (g:G) (w:World) (a:Act):Prop:=
 ∀(next:Act→World→Prop) (Q:Exit→Act→World→Prop),(∀v g' w',V g' pv v→Inv g' S' w'→Ext S g w S' g' w'→next (a.put o.dst v) w')→o.wp P a w next Q
theorem xG.pre {S S1 S':Hp} {pv:A} {g g1:G} {w:World} {a:Act} (k:xG P o S1 S' pv g1 w a) (e:Ext S g w S1 g1 w):xG P o S S' pv g w a:=fun next Q K=>k next Q (fun v g' w' h1 h2 h3=>K v g' w' h1 h2 (e.trans h3))
theorem Iq {S:Hp} {T:TypeId} {x y:Operand} {p off n:Nat} {cs ps:List A} {g:G} {w:World} {a:Act} (ho:o.op = .store T x y) (hs:gR P T n) (hI:Inv g S w) (hx:∃b s,g.ck p=some (some b,s)∧a.eval x = .pointer (some ⟨b,off,none⟩)) (hy:Vs g ps (a.eval y).cells.toList) (hl:ps.length=n)
  (hp:S.ob p=some (.cells cs)) (hn:off+n≤cs.length):xG P o S (S.set p (.cells (put cs off ps))) .dN g w a:=by
 intro next Q K
 obtain ⟨b,s,h,hu⟩:=hx
 obtain ⟨cur,ty,k2,tg,h3,h4⟩:=hI.store (off:=off) hp h hy (by omega)
 unfold Oper.wp
 have qB:(a.eval y).cells.size=n:=by have:=hy.1;simp at this;omega
 have qN:=run_storeCells_at P b off ty (a.eval y).cells.toList 0 cur w k2 (by simpa using tg) hy.one
 simp only [execOp,ho,hu,Instr.storeAt,Instr.sureAddr,pure_bind,storeVar,Sem.run_bind,hs.run w,Result.andThen_ok,qB,ne_eq,not_true_eq_false,if_false]
 simp only [Nat.add_zero] at qN
 simp only [qN,Result.andThen_ok,Sem.run_pure]
 exact K _ g _ (.dN _) h3 h4
theorem MK {T:Fp} {us:List Up} {S' S2:Hp} (hT:∀u∈us,aR T u.id=true):mb T S' (app us S2)=mb T S' S2:=by
 refine Hp.ext' (fun i=>?_) (fun i=>?_)
 ·show (if aR T i=true then _ else _)=(if aR T i=true then _ else _)
  split
  ·rfl
  ·rename_i hi;exact (gX us S2 i (fun u hu e=>hi (e▸hT u hu))).1
 ·show (if aR T i=true then _ else _)↔(if aR T i=true then _ else _)
  split
  ·exact Iff.rfl
  ·rename_i hi;exact (gX us S2 i (fun u hu e=>hi (e▸hT u hu))).2
def stK (E:Env) (T:Nat) (px py:A) (h:H) (K:A→H→Fp→Option β):Option β:=match dA E.fO T,py.cells with
 | some e,some ps=>match px with
  | .ptr q off=>bif Nat.blt q 16777216 then (match h.t.get q with
   | some (.cells cs)=>bif Nat.beq ps.length e.size && Nat.ble (off+e.size) cs.length && !(BR h (gq q)) then ir h.t q (some (.cells (put cs off ps))) (fun t1=>K .dN { h with t:=t1 } (.wr [gq q])) else none
   | _=>none) else none
  | .tp X π=>match plT h X π with
   | some u=>bif Nat.beq u.size e.size then (SK u ps h (fun y5 h1 T1=>match te u y5 with
     | some y=>uK h1 X π u y (fun h2=>K .dN h2 (.wr (lf X::T1)))
     | none=>none)) else none
   | none=>none
  | _=>none
 | _,_=>none
theorem tB {T U:List Nat} {w:Bool} {s:List Nat} {i:Nat} (hU:∀j∈U,j∈T) (k:aR ⟨false,T,w,s⟩ i=false):aR ⟨false,U,w,s⟩ i=false:=by
 cases hx:aR ⟨false,U,w,s⟩ i with
 | false=>rfl
 | true=>rw [g9 hU hx] at k;cases k
theorem Rk (hE:dq P E) {T:Nat} {x y:Operand} (ho:o.op = .store T x y) (hr:stK E T (ρ x) (ρ y) h K=some r):Out P o ρ h K r:=by
 have hd:∀c,o.op≠.defer c:=by rw [ho];intro c e;cases e
 unfold stK at hr
 split at hr
 ·rename_i e ps ht xt
  have hk:=hE.fO _ _ ht
  split at hr
  ·rename_i q off hx
   obtain ⟨hq,hr⟩:=ae hr
   have hq:=bW hq
   split at hr
   ·rename_i cs hg
    have fN:(hp h).ob q=some (.cells cs):=by rw [mv hq];unfold iG;rw [hg];rfl
    obtain ⟨h1,hr⟩:=ae hr
    simp only [zC] at h1
    obtain ⟨_,t1,k1,k2⟩:=cz hr
    exact ⟨_,_,_,k1,.of [.set q (.cells (put cs off ps))] (tR (x:=.cells (put cs off ps)) hq k2) rfl (fun u hu=>by rcases zF.1 hu with rfl;exact aL (o:=q) hq (.head _))
     (fun S2 hA=>GK ho hk.ti.size (by rw [hx];rfl) xt (beq_eq h1.1.1) ((hA q (aL hq (.head _))).1.trans fN) (Nat.le_of_ble_eq_true h1.1.2)) hd⟩
   ·cases hr
  ·rename_i X π hx
   split at hr
   ·rename_i u hu
    obtain ⟨Sj,hr⟩:=ae hr
    obtain ⟨y5,h1,T1,hr,us,c1,c2,c3⟩:=NT hr
    split at hr
    ·rename_i y' hy
     obtain ⟨h2,k1,hX,k2,k3⟩:=Mk hr
     have zu:∀u∈us,aR (Fp.wr (lf X::T1)) u.id=true:=fun u hu=>g9 (fun i hi=>.tail _ hi) (c2 u hu)
     have out:∀i,aR (Fp.wr (lf X::T1)) i=false→(hp h2).ob i=(hp h).ob i∧((hp h2).fr i↔(hp h).fr i):=fun i hi=>by
      have e1:=k2 i (tB (T:=lf X::T1) (fun j hj=>by rcases zF.1 hj with rfl;exact .head _) hi)
      have e2:=gX us (hp h) i (fun u hu e=>by have:=zu u hu;rw [←e] at this;rw [show aR (Fp.wr (lf X::T1)) i=false from hi] at this;cases this)
      rw [←c1] at e2
      exact ⟨e1.1.trans e2.1,e1.2.trans e2.2⟩
     refine ⟨_,_,_,k1,⟨out,fun i hi=>out i (xH hi),fun S2 hA=>?_⟩⟩
     ·refine gY.RP (fun g w a next Q hI hv K'=>?_) hd
      have AE:=hv x (by simp [ho,Op.operands])
      have hvy:=(hv y (by simp [ho,Op.operands])).cells xt
      obtain ⟨g1,q1,q2,q3⟩:=c3 g S2 w _ hI (hA.mono fun i hi=>.tail _ hi) hvy
      obtain ⟨z1,z2⟩:=lO (g:=g1) u y5 y' hy
      have Ux:bO (Fp.wr (lf X::T1)) (hp h1) (app us S2):=by rw [c1];exact bO.app us hA
      rw [hx] at AE
      have Zf:=AE.mono q2.le
      obtain ⟨cs,w1,w2,w3⟩:=k3 (lf X::T1) (.head _) g1 _ w _ q1 Ux Zf
      have J8:∃b s,g1.ck X.id=some (some b,s)∧a.eval x = .pointer (some ⟨b,fJ π,none⟩):=Zf.pl rfl
      have qB:=beq_eq Sj
      have st:=Iq (P:=P) ho hk.ti.size q1 J8 (z2 _ q3) (by rw [cU,qB]) w1 (by rw [←qB];exact w2)
      rw [←w3,MK zu] at st
      exact (st.pre q2) next Q K'
    ·cases hr
   ·cases hr
  ·cases hr
 ·cases hr
def su (x:jM) (h:H) (k:Nat→H→Option β):Option β:=ir h.t h.bI (some x) (fun t1=>k h.bI { h with t:=t1,bI:=h.bI+1 })
theorem jW {x:jM} {k:Nat→H→Option β} (hr:su x h k=some r):∃h',k h.bI h'=some r∧h.bI<16777216∧(hp h).fr h.bI∧hp h'=app [.new h.bI x.low] (hp h):=by
 obtain ⟨hq,t1,k1,k2⟩:=cz hr
 have hq:h.bI<16777216:=G6 hq
 refine ⟨_,k1,hq,?_,J_ hq k2⟩
 have e:(if h.bI<dO then h.bI≤h.bI else iZ h.rg h.bI)=(h.bI≤h.bI):=if_pos hq
 show (if h.bI<dO then h.bI≤h.bI else iZ h.rg h.bI)
 rw [e];exact Nat.le_refl _
theorem q9 {S:Hp} {T:TypeId} {i:TypeInfo} {z:Value} {q:Nat} {zs:List A} (ho:o.op = .alloc T) (hi:P.info? T=some i) (hz:i.zero=some z) (Zc:Zs zs z) (hf:S.fr q) :
  gY P o ρ S (S.new q (.cells zs)) (.ptr q 0):=by
 intro g w a next Q hI hv K
 have hzs:=Zc g
 obtain ⟨h1,h2⟩:=hI.pY hf (cs:=zs) (vs:=z.cells) T (by have:=hzs.1;simp at this ⊢;omega) hzs.all
 unfold Oper.wp
 simp only [execOp,ho,Instr.alloc,Sem.run_bind,zeroValue,typeInfo,run_program,Result.andThen_ok,hi,hz,Sem.run_pure,newVar,newRow,run_newObj]
 exact K _ _ _ (.ptr _ _ w.heap.size _ dK) h1 h2
theorem V.I5 {g:G} {q:Nat} {v:Value} (hv:V g (.ptr q 0) v):V g (.tp (.loc q) []) v:=by
 cases hv with
 | ptr _ _ b s hb=>exact .tp (.loc q) [] b s hb trivial
def Tp (E:Env) (T:Nat) (h:H) (K:A→H→Fp→Option β):Option β:=match dA E.fO T with
 | some e=>bif e.lt then (match e.t with
  | some t=>su (.one t t.dS) h (fun q h'=>K (.tp (.loc q) []) h' (.wr [gq q]))
  | none=>none) else su (.cells (mg e.zero)) h (fun q h'=>K (.ptr q 0) h' (.wr [gq q]))
 | none=>none
theorem Ok (hE:dq P E) {T:Nat} (ho:o.op = .alloc T) (hr:Tp E T h K=some r):Out P o ρ h K r:=by
 have hd:∀c,o.op≠.defer c:=by rw [ho];intro c e;cases e
 unfold Tp at hr
 split at hr
 ·rename_i e ht
  have hk:=hE.fO _ _ ht
  obtain ⟨i,t1,t2,t3,t4,t5,t6⟩:=hk.ti
  cases hl:e.lt with
  | true=>
   rw [hl] at hr;simp only [cond_true] at hr
   split at hr
   ·rename_i t C1
    obtain ⟨h',k1,hq,hf,hh⟩:=jW hr
    refine ⟨_,_,_,k1,Step.tx (.of _ hh rfl (fun u hu=>by rcases zF.1 hu with rfl;exact aL (o:=h.bI) hq (.head _)) (fun S2 hA=>q9 ho t1 t2 (hk.tz t C1) ((hA _ (aL hq (.head _))).2.2 hf)) hd) (fun g v hv=>hv.I5)⟩
   ·cases hr
  | false=>
   rw [hl] at hr;simp only [cond_false] at hr
   obtain ⟨h',k1,hq,hf,hh⟩:=jW hr
   exact ⟨_,_,_,k1,.of _ hh rfl (fun u hu=>by rcases zF.1 hu with rfl;exact aL (o:=h.bI) hq (.head _)) (fun S2 hA=>q9 ho t1 t2 (H9 t6) ((hA _ (aL hq (.head _))).2.2 hf)) hd⟩
 ·cases hr
theorem BE {S:Hp} {T:TypeId} {x:Operand} {ps qs:List A} {q:Nat} (ho:o.op = .box T x) (hx:(ρ x).cells=some ps) (hq:∀g vs,Vs g ps vs→Vs g qs vs) (hf:S.fr q):gY P o ρ S (S.new q (.cells qs)) (.ptr q 0):=by
 intro g w a next Q hI hv K
 have e2:=hq _ _ ((hv x (by simp [ho,Op.operands])).cells hx)
 obtain ⟨h1,h2⟩:=hI.pY hf (cs:=qs) (vs:=(a.eval x).cells) T (by have:=e2.1;simp at this ⊢;omega) e2.all
 unfold Oper.wp
 simp only [execOp,ho,Instr.box,Sem.run_bind,Result.andThen_ok,Sem.run_pure,newVar,newRow,run_newObj]
 exact K _ _ _ (.ptr _ _ w.heap.size _ dK) h1 h2
def Lf (E:Env) (T:Nat) (px:A) (h:H) (K:A→H→Fp→Option β):Option β:=match dA E.fO T,px.cells with
 | some e,some ps=>bif e.lt then (match e.t with
  | some t=>match te t ps with
   | some x=>su (.one t x) h (fun q h'=>K (.tp (.loc q) []) h' (.wr [gq q]))
   | none=>none
  | none=>none) else su (.cells ps) h (fun q h'=>K (.ptr q 0) h' (.wr [gq q]))
 | _,_=>none
theorem Ld {T:Nat} {x:Operand} (ho:o.op = .box T x) (hr:Lf E T (ρ x) h K=some r):Out P o ρ h K r:=by
 have hd:∀c,o.op≠.defer c:=by rw [ho];intro c e;cases e
 unfold Lf at hr
 split at hr
 ·rename_i e ps ht xt
  cases hl:e.lt with
  | true=>
   rw [hl] at hr;simp only [cond_true] at hr
   split at hr
   ·rename_i t C1
    split at hr
    ·rename_i y hy
     obtain ⟨h',k1,hq,hf,hh⟩:=jW hr
     exact ⟨_,_,_,k1,Step.tx (.of _ hh rfl (fun u hu=>by rcases zF.1 hu with rfl;exact aL (o:=h.bI) hq (.head _)) (fun S2 hA=>BE ho xt (fun g vs hv=>(lO t ps y hy).2 vs hv) ((hA _ (aL hq (.head _))).2.2 hf)) hd) (fun g v hv=>hv.I5)⟩
    ·cases hr
   ·cases hr
  | false=>
   rw [hl] at hr;simp only [cond_false] at hr
   obtain ⟨h',k1,hq,hf,hh⟩:=jW hr
   exact ⟨_,_,_,k1,.of _ hh rfl (fun u hu=>by rcases zF.1 hu with rfl;exact aL (o:=h.bI) hq (.head _)) (fun S2 hA=>BE ho xt (fun g vs hv=>hv) ((hA _ (aL hq (.head _))).2.2 hf)) hd⟩
 ·cases hr
end
end
section
open Go.RowKit
section
variable {P:Program} {E:Env} {o:Oper} {ρ:Operand→A} {h:H} {β:Type} {K:A→H→Fp→Option β} {r:β}
def Tm (E:Env) (T:Nat) (ρ:Operand→A) (ps:List (Nat×Operand)) (h:H) (K:A→H→Fp→Option β):Option β:=match dA E.fO T with
 | some e=>match e.d with
  | .struct _=>match wA ρ (fun i=>e.pl.toArray[i]?) (mg e.zero) ps with
   | some cs=>K (.agg cs) h .no
   | none=>none
  | .array _ el=>match dA E.fO el with
   | some e'=>match wA ρ (fun i=>some (i*e'.size,e'.size)) (mg e.zero) ps with
    | some cs=>K (.agg cs) h .no
    | none=>none
   | none=>none
  | _=>none
 | none=>none
theorem Od (hE:dq P E) {T:Nat} {ps:Array (Nat×Operand)} (ho:o.op = .build T ps) (hr:Tm E T ρ ps.toList h K=some r):Out P o ρ h K r:=by
 have hd:∀c,o.op≠.defer c:=by rw [ho];intro c e;cases e
 unfold Tm at hr
 split at hr
 ·rename_i e ht
  have hk:=hE.fO _ _ ht
  split at hr
  ·rename_i fs HY
   split at hr
   ·rename_i cs hf
    obtain ⟨i,t1,t2,t3,t4,t5,t6⟩:=hk.ti
    exact .pure hr (fun S2=>GS ho (by rw [hk.u,HY]) t1 t2 t6 (hk.pl fs HY) hf) hd
   ·cases hr
  ·rename_i n el HY
   split at hr
   ·rename_i e' he'
    split at hr
    ·rename_i cs hf
     exact .pure hr (fun S2=>xn ho (by rw [hk.u,HY]) hk.ti (hE.fO _ _ he').ti.size hf) hd
    ·cases hr
   ·cases hr
  ·cases hr
 ·cases hr
def KE (f:List A→H→Option (List A×H×List Nat)) (z:Nat):Nat→List A→H→Option (List A×H×List Nat)
 | 0,cs,h=>some (cs,h,[])
 | n+1,cs,h=>match f (cs.take z) h with
  | some (FZ,h1,T1)=>match KE f z n (cs.drop z) h1 with
   | some (Q1,h2,T2)=>some (FZ++Q1,h2,T1++T2)
   | none=>none
  | none=>none
theorem FI {f:List A→H→Option (List A×H×List Nat)} (hf:∀cs h kt h' T,f cs h=some (kt,h',T)→Cv h h' T cs kt) {z:Nat}:∀(n:Nat) (cs:List A) (h:H) (kt:List A) (h':H) (T:List Nat),KE f z n cs h=some (kt,h',T)→Cv h h' T cs kt
 | 0,cs,h,kt,h',T,e=>by
  simp only [KE,zI,zU] at e
  obtain ⟨rfl,rfl,rfl⟩:=e
  exact Cv.refl h [] _
 | n+1,cs,h,kt,h',T,e=>by
  simp only [KE] at e
  split at e
  ·rename_i FZ h1 T1 e1
   split at e
   ·rename_i Q1 h2 T2 e2
    simp only [zI,zU] at e
    obtain ⟨rfl,rfl,rfl⟩:=e
    have:=(hf _ _ _ _ _ e1).append (FI hf n _ _ _ _ _ e2)
    rwa [zP] at this
   ·cases e
  ·cases e
theorem qQ {pv:A} {S:Hp} {T El:TypeId} {n z:Nat} {parts:Array (Nat×Operand)} {ie:TypeInfo} {zv:Value} {es cs:List A} {q:Nat} {g g0:G} {w:World} {a:Act} (ho:o.op = .buildSlice T n parts) (hT:P.underlying T=some (.slice El)) (hE:P.info? El=some ie) (hz:ie.zero=some zv)
  (hs:ie.size=z) (h0:0<z) (hn:n*z≤16777216) (oO:KU ρ z parts.toList 0=some es) (hl:parts.toList.length=n) (hI:Inv g S w) (hv:∀x∈o.op.operands,V g0 (ρ x) (a.eval x)) (hf:S.fr q) (e5:Vs g cs ((parts.toList.map fun x=>a.eval x.2).flatMap (fun v=>v.cells.toList)))
  (uN:∀g' b,g'.ck q=some (some b,(n*z,n*z))→n≤maxLen→V g' pv (.slice (some ⟨b,0,none⟩) n n)):xG P o S (S.new q (.cells cs)) pv g w a:=by
 intro next Q K
 subst hs
 obtain ⟨e2,e1,e3,e4⟩:=vd (z:=ie.size) (a:=a) (g:=g0) parts.toList 0 es (fun x hx=>hv x.2 (by
  simp only [ho,Op.operands]
  rw [List.mem_toArray]
  exact List.mem_map.2 ⟨x,hx,rfl⟩)) oO
 have Sj:((Array.range (n*ie.size)).map (zv.cells[· % zv.cells.size]!)).size=n*ie.size:=by simp
 have Zz:=Go.Great.fill_whole h0 (parts.toList.map fun x=>a.eval x.2) ((Array.range (n*ie.size)).map (zv.cells[· % zv.cells.size]!)) e3 (by simp only [zH];rw [Sj,hl])
 have v_:(parts.map fun (i,x)=>(i,a.eval x)).toList=((parts.toList.map fun x=>a.eval x.2).zipIdx 0).map (fun x=>(x.2,x.1)):=by rw [←e2];simp
 generalize CZ:(parts.toList.map fun x=>a.eval x.2).flatMap (fun v=>v.cells.toList)=vs at *
 have hvl:vs.length=n*ie.size:=by rw [←e4.1,e1,hl]
 obtain ⟨h1,h2⟩:=hI.pY hf (cs:=cs) (vs:=vs.toArray) El (by have:=e5.1;simp;omega) (Vs.all (vs:=vs.toArray) e5)
 have hmx:n≤n*ie.size:=Nat.le_mul_of_pos_right _ h0
 have h8:cs.length=n*ie.size:=by rw [e5.1,hvl]
 have h9:vs.toArray.size=n*ie.size:=by simp [hvl]
 have uN:=uN (l5 g q (some w.heap.size,(cs.length,vs.toArray.size))) w.heap.size (by rw [dK,h8,h9]) (by simp only [maxLen];omega)
 unfold Oper.wp
 by_cases Um:n=0
 ·subst Um
  have hpe:parts.toList=[]:=zZ hl
  have aer:vs=[]:=zZ (by rw [hvl];simp)
  have hp3:parts = #[]:=by apply Array.ext';simp [hpe]
  have jb:(execOp a.eval o).run P w = .ok (.value (.slice (some ⟨w.heap.size,0,none⟩) 0 0)) (w.alloc (.cells #[] El)):=by
   simp [execOp,ho,hp3,Instr.buildSlice,run_underlying hT,sizeOf,typeInfo,hE,Instr.fill,newRow,Array.range_zero']
  rw [jb]
  subst aer
  exact K (.slice (some ⟨w.heap.size,0,none⟩) 0 0) _ _ uN h1 h2
 ·have Sm:¬n*ie.size=0:=by
   intro h;rcases Nat.mul_eq_zero.1 h with h | h<;>omega
  have jb:(execOp a.eval o).run P w = .ok (.value (.slice (some ⟨w.heap.size,0,none⟩) n n)) (w.alloc (.cells vs.toArray El)):=by
   have:=run_buildSlice (P:=P) w T El n (parts.map fun (i,x)=>(i,a.eval x)) vs.toArray ie zv hT hE hz (by omega) Sm (by rw [v_];exact Zz)
   simp only [execOp,ho,Sem.run_bind,this,Result.andThen_ok,Sem.run_pure]
  rw [jb]
  exact K _ _ _ uN h1 h2
def Tj (E:Env) (T n:Nat) (ρ:Operand→A) (ps:List (Nat×Operand)) (h:H) (K:A→H→Fp→Option β):Option β:=match dA E.fO T with
 | some ⟨.slice el,_,_,_,_,_,_⟩=>match dA E.fO el with
  | some e=>bif Nat.blt 0 e.size && Nat.ble (n*e.size) 16777216 && Nat.beq ps.length n then (match KU ρ e.size ps 0,e.t with
   | some es,some t=>match KE (fixC 64 t) t.size n es h with
    | some (tm,h1,T1)=>match xL (te t) t.size n tm with
     | some l=>su (.row t l) h1 (fun q h2=>K (.tw (.loc q) e.size) h2 (.wr (gq q::T1)))
     | none=>none
    | none=>none
   | some es,none=>su (.cells es) h (fun q h2=>K (.sl q 0 e.size n) h2 (.wr [gq q]))
   | _,_=>none) else none
  | none=>none
 | _=>none
theorem Step.new {T1:List Nat} {h1 h2:H} {us:List Up} {x:Ob} {pv:A} (c1:hp h1=app us (hp h)) (c2:∀u∈us,aR (.wr T1) u.id=true) (hq:h1.bI<16777216) (hf:(hp h1).fr h1.bI) (hh:hp h2=app [.new h1.bI x] (hp h1)) (hd:∀c,o.op≠.defer c)
  (k:∀S2 g w a,bO (.wr T1) (hp h) S2→(app us S2).fr h1.bI→Inv g S2 w→(∀x∈o.op.operands,V g (ρ x) (a.eval x))→xG P o S2 ((app us S2).new h1.bI x) pv g w a):Step P o ρ h h2 (.wr (gq h1.bI::T1)) pv:=
 .of (us++[.new h1.bI x]) (by rw [kQ,←c1,hh]) rfl (fun u hu=>by
  rcases zX.1 hu with hu | hu
  ·exact g9 (fun i hi=>.tail _ hi) (c2 u hu)
  ·rcases zF.1 hu with rfl;exact aL (o:=h1.bI) hq (.head _)) (fun S2 hA g w a next Q hI hv K'=>by
  have mz:(app us S2).fr h1.bI:=by
   have:=bO.app us hA
   rw [←c1] at this
   exact (this h1.bI (aL hq (.head _))).2.2 hf
  have e:=kQ us [.new h1.bI x] S2
  rw [e] at K'
  exact k S2 g w a (hA.mono fun i hi=>.tail _ hi) mz hI hv next Q K') hd
theorem N_ (hE:dq P E) {T n:Nat} {ps:Array (Nat×Operand)} (ho:o.op = .buildSlice T n ps) (hr:Tj E T n ρ ps.toList h K=some r):Out P o ρ h K r:=by
  have hd:∀c,o.op≠.defer c:=by rw [ho];intro c e;cases e
  unfold Tj at hr
  split at hr
  · rename_i el _ _ _ _ _ _ ht
    split at hr
    · rename_i e he
      obtain ⟨hc,hr⟩:=ae hr
      simp only [zC] at hc
      have h0:=bW hc.1.1
      have hn:=Nat.le_of_ble_eq_true hc.1.2
      have hl:=beq_eq hc.2
      obtain ⟨i,t1,t2,t3,t4,t5,t6⟩:=(hE.fO _ _ he).ti
      split at hr
      · rename_i es t oO C1
        split at hr
        · rename_i tm h1 T1 hf
          split at hr
          · rename_i l hy
            obtain ⟨us,c1,c2,c3⟩:=FI (fun cs h kt h' T e=>sO _ _ _ _ _ _ _ e) _ _ _ _ _ _ hf
            obtain ⟨h2,k1,hq,mz,hh⟩:=jW hr
            refine ⟨_,_,_,k1,.new c1 c2 hq mz hh hd (fun S2 g w a hA hf hI hv=>?_)⟩
            obtain ⟨e2,e1,e3,e4⟩:=vd (z:=e.size) (a:=a) (g:=g) ps.toList 0 es (fun x hx=>hv x.2 (by
              simp only [ho,Op.operands]
              rw [List.mem_toArray]
              exact List.mem_map.2 ⟨x,hx,rfl⟩)) oO
            obtain ⟨g1,q1,q2,q3⟩:=c3 g S2 w _ hI hA e4
            obtain ⟨z1,z2,z3⟩:=rR (g:=g1) (fun cs x h=>lO t cs x h) _ _ _ hy
            refine xG.pre ?_ q2
            refine qQ (g0:=g) ho (hE.fO _ _ ht).u t1 t2 t3 h0 hn oO hl q1 hv hf ?_ (fun g' b hb hx=>.tw (.loc h1.bI) e.size n b n _ hb (Nat.le_refl _) hx (Nat.le_refl _) 0 (fun _=>rfl))
            exact z3 _ q3
          · cases hr
        · cases hr
      · rename_i es oO C1
        obtain ⟨h2,k1,hq,mz,hh⟩:=jW hr
        refine ⟨_,_,_,k1,.of _ hh rfl (fun u hu=>by rcases zF.1 hu with rfl;exact aL (o:=h.bI) hq (.head _)) (fun S2 hA g w a next Q hI hv K'=>?_) hd⟩
        obtain ⟨e2,e1,e3,e4⟩:=vd (z:=e.size) (a:=a) (g:=g) ps.toList 0 es (fun x hx=>hv x.2 (by
              simp only [ho,Op.operands]
              rw [List.mem_toArray]
              exact List.mem_map.2 ⟨x,hx,rfl⟩)) oO
        exact qQ (g0:=g) ho (hE.fO _ _ ht).u t1 t2 t3 h0 hn oO hl hI hv ((hA _ (aL hq (.head _))).2.2 mz) e4 (fun g' b hb hx=>.sl h.bI 0 e.size n b n _ hb (Nat.le_refl _) hx (by omega)) next Q K'
      · cases hr
    · cases hr
  · cases hr
end
end
section
open Go.RowKit
section
variable {P:Program} {E:Env} {o:Oper} {ρ:Operand→A} {h:H} {β:Type} {K:A→H→Fp→Option β} {r:β}
theorem V.uh {g:G} {S:Hp} {w:World} (hI:Inv g S w) {X:Ref} {t:Ty} {l:List t.T} (h0:0<t.size) (ho:S.ob X.id=some (.cells (l.flatMap (aJ t)))) {v:Value} (hv:V g (.tw X t.size) v) :
  (∃ad,g.ck X.id=some (none,(0,0))∧v = .slice ad 0 0∧l=[])∨∃b s cap d,g.ck X.id=some (some b,s)∧v = .slice (some ⟨b,d,none⟩) l.length cap∧(cap≠0→d=0)∧l.length≤cap∧cap≤maxLen∧cap*t.size≤s.2:=by
 have hlen:=bV t l
 cases hv with
 | AA _ _ ad cV=>
  rcases hI.cells _ _ ho with ⟨_,k2⟩ | ⟨b,tt,k1,_⟩
  ·refine .inl ⟨ad,cV,rfl,zZ ?_⟩
   rw [k2] at hlen
   rcases Nat.eq_zero_or_pos l.length with h | h
   ·exact h
   ·have:0<l.length*t.size:=Nat.mul_pos h h0
    simp at hlen;omega
  ·rw [k1] at cV;cases cV
 | tw _ _ m b cap tt cV hn sE hp d qC=>
  rcases hI.cells _ _ ho with ⟨k1,_⟩ | ⟨b',Md,k1,_⟩
  ·rw [k1] at cV;cases cV
  have SB:=cV
  rw [k1] at cV
  simp only [zI,zU] at cV
  obtain ⟨rfl,hl,rfl⟩:=cV
  rw [hlen] at hl
  have hm:l.length=m:=Nat.eq_of_mul_eq_mul_right h0 hl
  subst hm
  exact .inr ⟨b',_,cap,d,SB,rfl,qC,hn,sE,hp⟩
def Y8 (h:H) (px:A) (k:Nat→List Nat→Option β):Option β:=match px with
 | .e0=>k 0 []
 | .v (.slice _ n _)=>k n []
 | .tl _ _ l=>k (len l) []
 | .tw X z=>lg h X (fun t l=>bif Nat.beq z t.size && Nat.blt 0 t.size then k (len l) [lf X] else none)
 | .ts _ _ _ n=>k n []
 | .tf _ _ _ n=>k n []
 | .aa _ _ n _=>k n []
 | .sl _ _ _ n=>k n []
 | _=>none
theorem V.WW {g:G} {t:Ty} {f:Bool} {l:List t.T} {v:Value} (hv:V g (.tl t f l) v):∃ad c,v = .slice ad l.length c:=by
 cases hv with
 | tl _ _ _ _ hd=>
  generalize oO:List.map (fb t) l=es at hd
  have tT:es.length=l.length:=by rw [←oO,zH]
  cases hd with
  | xc=>rw [←tT];exact ⟨_,_,rfl⟩
  | sl _ _ _ a cap vs=>rw [←tT];exact ⟨_,_,rfl⟩
theorem Nb {px:A} {k:Nat→List Nat→Option β} (hr:Y8 h px k=some r):∃n T,k n T=some r∧∀S2,bO (.rd T) (hp h) S2→∀g w v,Inv g S2 w→V g px v→∃ad c,v = .slice ad n c:=by
 cases px with
 | e0=>exact ⟨0,[],hr,fun S2 _ g w v _ hv=>by cases hv with | e0 ad=>exact ⟨ad,0,rfl⟩⟩
 | v x=>cases x with
  | slice ad n c=>exact ⟨n,[],hr,fun S2 _ g w v _ hv=>by cases hv;exact ⟨_,_,rfl⟩⟩
  | _=>cases hr
 | tl t f l=>exact ⟨len l,[],hr,fun S2 _ g w v _ hv=>hv.WW⟩
 | tw X z=>
  obtain ⟨t,l,hr,hX,fN⟩:=gK (show lg h X _=some r from hr)
  obtain ⟨h1,hk⟩:=ae hr
  simp only [zC] at h1
  obtain rfl:=beq_eq h1.1
  exact ⟨_,_,hk,fun S2 hA g w v hI hv=>by
   rcases hv.uh hI (bW h1.2) ((hA _ (cJ hX (.head _))).1.trans fN) with ⟨ad,_,rfl,rfl⟩ | ⟨b,s,cap,d,_,rfl,_⟩
   ·exact ⟨ad,0,rfl⟩
   ·exact ⟨_,cap,rfl⟩⟩
 | ts X z off n=>exact ⟨n,[],hr,fun S2 _ g w v _ hv=>by
   cases hv with
   | xJ _ _ _ _ ad _ hn=>exact ⟨ad,0,by rw [show n=0 by omega]⟩
   | ts=>exact ⟨_,_,rfl⟩⟩
 | tf X z off n=>exact ⟨n,[],hr,fun S2 _ g w v _ hv=>by
   cases hv with
   | Io _ _ _ _ ad _ hn=>exact ⟨ad,0,by rw [show n=0 by omega]⟩
   | tf=>exact ⟨_,_,rfl⟩⟩
 | aa X π n z=>exact ⟨n,[],hr,fun S2 _ g w v _ hv=>by cases hv;exact ⟨_,_,rfl⟩⟩
 | sl q off z n=>exact ⟨n,[],hr,fun S2 _ g w v _ hv=>by cases hv;exact ⟨_,_,rfl⟩⟩
 | _=>cases hr
def DQ (E:Env) (T:Nat):Option Nat:=match dA E.fO T with
 | some ⟨.slice el,_,_,_,_,_,_⟩=>some el
 | _=>none
theorem sD (hE:dq P E) {T el:Nat} (h:DQ E T=some el):P.underlying T=some (.slice el):=by
 unfold DQ at h
 split at h
 ·rename_i ht;cases h;exact (hE.fO _ _ ht).u
 ·cases h
def RW (E:Env) (T:Nat) (px:A) (h:H) (K:A→H→Fp→Option β):Option β:=match DQ E T with
 | some _=>Y8 h px (fun n T=>K (.v (.int .i64 (zN n))) h (.rd T))
 | none=>none
theorem Na (hE:dq P E) {T:Nat} {x:Operand} (ho:o.op = .call { callee:=.builtin .len,args:=#[x],argTypes:=#[T] }) (hr:RW E T (ρ x) h K=some r):Out P o ρ h K r:=by
 unfold RW at hr
 split at hr
 ·rename_i el he
  obtain ⟨n,T',h1,h2⟩:=Nb hr
  exact .read _ h1 (fun S2 hA=>MO ho ⟨el,sD hE he⟩ (h2 S2 hA)) (by rw [ho];intro c e;cases e)
 ·cases hr
def Ef {α:Type} (d:α) (n:Nat) (l:List α):List α:=(List.range n).map (nth d l)
theorem Hw {α β:Type} (f:α→List β) (d:α) (n:Nat) (l:List α):(Ef d n l).flatMap f=Li f d n l:=by
 unfold Ef Li
 rw [List.flatMap_map]
theorem KF {α:Type} (d:α) (n:Nat) (l:List α):(Ef d n l).length=n:=by simp [Ef]
def Gj (h:H) (t:Ty) (py:A) (k:List t.T→List Nat→Option β):Option β:=match py with
 | .e0=>k [] []
 | .v (.slice _ 0 _)=>k [] []
 | .tl t' _ l=>match iJ (.cN t') (.cN t) l with
  | some l'=>bif t.data then k l' [] else none
  | none=>none
 | .nn t' l=>match iJ (.cN t') (.cN t) l with
  | some l'=>bif t.data then k l' [] else none
  | none=>none
 | .os r z o=>opt o (k [] []) (fun j=>lg h (.c_ r j) (fun t' l=>match iJ (.cN t') (.cN t) l with
  | some l'=>bif Nat.beq z t.size && Nat.blt 0 t.size then k l' [lf (.c_ r j)] else none
  | none=>none))
 | .tw X z=>lg h X (fun t' l=>match iJ (.cN t') (.cN t) l with
  | some l'=>bif Nat.beq z t.size && Nat.blt 0 t.size then k l' [lf X] else none
  | none=>none)
 | .ts X z off n=>lg h X (fun t' l=>match iJ (.cN t') (.cN t) l with
  | some l'=>bif Nat.beq z t.size && Nat.blt 0 t.size then k (tk n (dr off l')) [lf X] else none
  | none=>none)
 | .tf X z off n=>lg h X (fun t' l=>match iJ (.cN t') (.cN t) l with
  | some l'=>bif Nat.beq z t.size && Nat.blt 0 t.size then k (tk n (dr off l')) [lf X] else none
  | none=>none)
 | .aa X π n z=>vG h X π (fun sg=>match iJ sg.t (.arr n t) sg.x with
  | some l=>bif Nat.beq z t.size then k (Ef t.dS n l) [lf X] else none
  | none=>none)
 | .sl q off z n=>match h.t.get q with
  | some (.cells cs)=>bif Nat.blt q 16777216 && Nat.beq z t.size && Nat.ble (off+n*z) cs.length then (match xL (te t) t.size n ((cs.drop off).take (n*z)) with
   | some l=>k l [gq q]
   | none=>none) else none
  | _=>none
 | _=>none
theorem Given.conv {g:G} {w:World} {v:Value} {sz m:Nat} {ps qs:List A} (k:Given g w v sz m ps) (hc:∀vs,Vs g ps vs→Vs g qs vs):Given g w v sz m qs:=by
 obtain ⟨A2,oX,us,h1,h2,h3,h4⟩:=k
 exact ⟨A2,oX,us,h1,hc _ h2,h3,h4⟩
theorem V.EI {g:G} {S:Hp} {w:World} (hI:Inv g S w) {t:Ty} (hd:t.data=true) {f:Bool} {l:List t.T} {v:Value} (hv:V g (.tl t f l) v):Given g w v t.size l.length (l.flatMap (aJ t)):=by
 cases hv with
 | tl _ _ _ _ hv=>
  generalize oO:List.map (fb t) l=es at hv
  have tT:es.length=l.length:=by rw [←oO,zH]
  have AJ:es.flatten=l.flatMap (fb t):=by rw [←oO,nA]
  cases hv with
  | xc=>
   have:l=[]:=zZ tT.symm
   subst this
   exact .zero ⟨_,_,rfl⟩
  | sl _ _ _ a cap vs hz hc hf hn hx hl hm He=>
   rw [AJ] at He hl
   have CZ:ng g.mem (l.flatMap (fb t)) vs:=⟨hl,He⟩
   have h1:=KD (g:=g) (f:=aJ t) (f':=fb t) (fun x us hu=>ng.cells t x us hd hu) (fun x=>by rw [cU,gk]) l vs CZ
   rw [tT]
   refine ⟨_,cap,vs,rfl,h1,by rw [←h1.1,bV],fun h0=>?_⟩
   cases a with
   | none=>have:=hn rfl;omega
   | some p=>
    refine ⟨_,rfl,fun j x hj=>?_⟩
    obtain ⟨cur,ty,fz,q1,q2⟩:=hI.mem _ _ _ (hm p j x rfl hj)
    rw [show (adr p).add j=⟨p.1,p.2+j,none⟩ from Addr.add_lit _ _ _,cell_of_row w p.1 _ cur ty _ q1];exact q2
theorem piece {g:G} {S:Hp} {w:World} (hI:Inv g S w) {X:Ref} {t:Ty} {l:List t.T} {off n b cap d:Nat} {s:Nat×Nat} (_h0:0<t.size) (fN:S.ob X.id=some (.cells (l.flatMap (aJ t)))) (cV:g.ck X.id=some (some b,s)) (hle:off+n≤l.length) (hd:n≠0→d=off*t.size) :
  Given g w (.slice (some ⟨b,d,none⟩) n cap) t.size (tk n (dr off l)).length ((tk n (dr off l)).flatMap (aJ t)):=by
 have hl:(tk n (dr off l)).length=n:=by simp [tk,dr];omega
 rw [hl]
 rcases Nat.eq_zero_or_pos n with h0 | h0
 ·subst h0
  rw [show tk 0 (dr off l)=[] from by simp [tk]]
  exact .zero ⟨_,cap,rfl⟩
 ·obtain rfl:=hd (by omega)
  have:=hI.given (off:=off*t.size) (sz:=t.size) (m:=n) (cap:=cap) fN cV (by rw [bV,←Nat.add_mul];exact zW _ hle)
  rw [lu] at this
  exact this
theorem EL {t:Ty} {py:A} {k:List t.T→List Nat→Option β} (hr:Gj h t py k=some r):∃l T,k l T=some r∧∀S2,bO (.rd T) (hp h) S2→∀g w v,Inv g S2 w→V g py v→Given g w v t.size l.length (l.flatMap (aJ t)):=by
 cases py with
 | e0=>exact ⟨[],[],hr,fun S2 _ g w v _ hv=>by cases hv with | e0 ad=>exact .zero ⟨ad,0,rfl⟩⟩
 | v x=>cases x with
  | slice ad n c=>cases n with
   | zero=>exact ⟨[],[],hr,fun S2 _ g w v _ hv=>by cases hv;exact .zero ⟨_,_,rfl⟩⟩
   | succ n=>cases hr
  | _=>cases hr
 | tl t' f l=>
  unfold Gj at hr
  simp only at hr
  split at hr
  ·rename_i l' hl
   obtain ⟨e,rfl⟩:=dz hl
   cases e
   obtain ⟨h1,hr⟩:=ae hr
   exact ⟨_,[],hr,fun S2 _ g w v hI hv=>hv.EI hI h1⟩
  ·cases hr
 | nn t' l=>
  unfold Gj at hr
  simp only at hr
  split at hr
  ·rename_i l' hl
   obtain ⟨e,rfl⟩:=dz hl
   cases e
   obtain ⟨h1,hr⟩:=ae hr
   exact ⟨_,[],hr,fun S2 _ g w v hI hv=>by cases hv with | nn _ _ a n c h=>exact (V.tl _ false _ _ h).EI hI h1⟩
  ·cases hr
 | os q z o=>
  rcases kJ (show opt o (k [] []) _=some r from hr) with ⟨e0,hr⟩ | ⟨jj,e0,hr⟩
  ·exact ⟨[],[],hr,fun S2 _ g w v _ hv=>by
    cases hv with
    | os _ _ _ _ h0 _=>cases h0 e0 with | e0 ad=>exact .zero ⟨ad,0,rfl⟩⟩
  ·obtain ⟨t',l,hr,hX,fN⟩:=gK (show lg h (.c_ q jj) _=some r from hr)
   split at hr
   ·rename_i l' hl
    obtain ⟨e,rfl⟩:=dz hl
    cases e
    obtain ⟨h1,hk⟩:=ae hr
    simp only [zC] at h1
    have ez:=beq_eq h1.1
    subst ez
    refine ⟨_,_,hk,fun S2 hA g w v hI zt=>?_⟩
    have hv:V g (.tw (.c_ q jj) t.size) v:=by cases zt with | os _ _ _ _ _ h1=>exact h1 jj e0
    have gh:=(hA _ (cJ hX (.head _))).1.trans fN
    rcases hv.uh hI (bW h1.2) gh with ⟨ad,_,rfl,rfl⟩ | ⟨b,s,cap,d,cV,rfl,hd,hn,_⟩
    ·exact .zero ⟨ad,0,rfl⟩
    ·rcases Nat.eq_zero_or_pos l.length with h0 | h0
     ·have:l=[]:=zZ h0
      subst this
      exact .zero ⟨_,cap,rfl⟩
     ·obtain rfl:=hd (by omega)
      have:=hI.given (off:=0) (sz:=t.size) (m:=l.length) (cap:=cap) gh cV (by rw [bV];omega)
      rw [List.drop_zero,za (by rw [bV];exact Nat.le_refl _)] at this
      exact this
   ·cases hr
 | tw X z=>
  obtain ⟨t',l,hr,hX,fN⟩:=gK (show lg h X _=some r from hr)
  split at hr
  ·rename_i l' hl
   obtain ⟨e,rfl⟩:=dz hl
   cases e
   obtain ⟨h1,hk⟩:=ae hr
   simp only [zC] at h1
   obtain rfl:=beq_eq h1.1
   refine ⟨_,_,hk,fun S2 hA g w v hI hv=>?_⟩
   have gh:=(hA _ (cJ hX (.head _))).1.trans fN
   rcases hv.uh hI (bW h1.2) gh with ⟨ad,_,rfl,rfl⟩ | ⟨b,s,cap,d,cV,rfl,hd,hn,_⟩
   ·exact .zero ⟨ad,0,rfl⟩
   ·rcases Nat.eq_zero_or_pos l.length with h0 | h0
    ·have:l=[]:=zZ h0
     subst this
     exact .zero ⟨_,cap,rfl⟩
    ·obtain rfl:=hd (by omega)
     have:=hI.given (off:=0) (sz:=t.size) (m:=l.length) (cap:=cap) gh cV (by rw [bV];omega)
     rw [List.drop_zero,za (by rw [bV];exact Nat.le_refl _)] at this
     exact this
  ·cases hr
 | ts X z off n=>
  obtain ⟨t',l,hr,hX,fN⟩:=gK (show lg h X _=some r from hr)
  split at hr
  ·rename_i l' hl
   obtain ⟨e,rfl⟩:=dz hl
   cases e
   obtain ⟨h1,hk⟩:=ae hr
   simp only [zC] at h1
   obtain rfl:=beq_eq h1.1
   refine ⟨_,_,hk,fun S2 hA g w v hI hv=>?_⟩
   have gh:=(hA _ (cJ hX (.head _))).1.trans fN
   have hle:=xI hI (bW h1.2) gh hv
   cases hv with
   | xJ _ _ _ _ ad _ hn=>
    rw [show n=0 by omega,show tk 0 (dr off l)=[] by simp [tk]]
    exact .zero ⟨ad,0,rfl⟩
   | ts _ _ _ _ b cap s cV hn hx hs So d hd=>exact piece hI (bW h1.2) gh cV hle (fun Um=>hd (by omega))
  ·cases hr
 | tf X z off n=>
  obtain ⟨t',l,hr,hX,fN⟩:=gK (show lg h X _=some r from hr)
  split at hr
  ·rename_i l' hl
   obtain ⟨e,rfl⟩:=dz hl
   cases e
   obtain ⟨h1,hk⟩:=ae hr
   simp only [zC] at h1
   obtain rfl:=beq_eq h1.1
   refine ⟨_,_,hk,fun S2 hA g w v hI hv=>?_⟩
   have gh:=(hA _ (cJ hX (.head _))).1.trans fN
   cases hv with
   | Io _ _ _ _ ad _ hn=>
    rw [show n=0 by omega,show tk 0 (dr off l)=[] by simp [tk]]
    exact .zero ⟨ad,0,rfl⟩
   | tf _ _ _ _ b s cV hx hs d hd=>
    have hle:off+n≤l.length:=by
     rcases hI.cells _ _ gh with ⟨k1,_⟩ | ⟨b',Md,k1,_⟩
     ·rw [k1] at cV;cases cV
     rw [k1] at cV
     simp only [zI,zU] at cV
     obtain ⟨_,rfl⟩:=cV
     simp only [bV] at hs
     exact Nat.le_of_mul_le_mul_right hs (bW h1.2)
    exact piece hI (bW h1.2) gh cV hle hd
  ·cases hr
 | aa X π n z=>
  obtain ⟨sg,hk,hX,h2⟩:=xW (show vG h X π _=some r from hr)
  split at hk
  ·rename_i l hl
   obtain ⟨st,sx⟩:=sg
   obtain ⟨e,hl⟩:=dz hl
   simp only at e hl h2
   subst e
   simp only at hl
   subst hl
   obtain ⟨h1,hk⟩:=ae hk
   refine ⟨_,_,hk,fun S2 hA g w v hI hv=>?_⟩
   obtain rfl:=beq_eq h1
   cases hv with
   | aa _ _ _ _ b cap s cV hp hn hx=>
    have ha:=hA _ (cJ hX (.head _))
    obtain ⟨a,c,q1,q2⟩:=h2 g _ w _ hI ha.1 ha.2 (.tp X π b s cV hp)
    have e1:(Ef (α:=t.T) t.dS n sx).flatMap (aJ t)=aJ (.arr n t) sx:=Hw _ _ _ _
    have e3:(Ef (α:=t.T) t.dS n sx).length=n:=KF _ _ _
    have e2:(aJ (.arr n t) sx).length=n*t.size:=cU (.arr n t) sx
    have:=hI.given (off:=fJ π) (sz:=t.size) (m:=n) (cap:=cap) q1 cV (by simp only [zY];rw [e2];omega)
    rw [←q2,List.drop_left,←e2,List.take_left,q2] at this
    exact Eq.subst (motive:=fun k=>Given g w _ t.size k _) e3.symm (Eq.subst (motive:=fun cs=>Given g w _ t.size n cs) e1.symm this)
  ·cases hk
 | sl q off z n=>
  unfold Gj at hr
  simp only at hr
  split at hr
  ·rename_i cs hg
   obtain ⟨h1,hr⟩:=ae hr
   simp only [zC] at h1
   have hq:=bW h1.1.1
   obtain rfl:=beq_eq h1.1.2
   split at hr
   ·rename_i l hy
    refine ⟨_,_,hr,fun S2 hA g w v hI hv=>?_⟩
    obtain ⟨z1,z2,z3⟩:=rR (g:=g) (fun cs x h=>lO t cs x h) _ _ _ hy
    have fN:(hp h).ob q=some (.cells cs):=by rw [mv hq];unfold iG;rw [hg];rfl
    cases hv with
    | sl _ _ _ _ b cap s cV hn hx hs=>
     rw [z2]
     exact (hI.given ((hA q (aL hq (.head _))).1.trans fN) cV (Nat.le_of_ble_eq_true h1.2)).conv z3
   ·cases hr
  ·cases hr
 | _=>cases hr
end
end
section
open Go.RowKit
section
variable {P:Program} {E:Env} {o:Oper} {ρ:Operand→A} {h:H} {β:Type} {K:A→H→Fp→Option β} {r:β}
theorem Bj (t:Ty) (n:Nat) (x:t.T):(rep n x).flatMap (aJ t)=tG n (aJ t x):=by
 unfold rep tG
 induction n with
 | zero=>rfl
 | succ n ih=>rw [List.replicate_succ,List.replicate_succ,List.flatMap_cons,List.flatten_cons,ih]
def mkK (E:Env) (T:Nat) (same:Bool) (px:A) (h:H) (K:A→H→Fp→Option β):Option β:=match DQ E T with
 | some el=>match dA E.fO el,px with
  | some e,.v (.int _ m)=>match e.t with
   | some t=>bif same && Nat.blt 0 e.size && Nat.ble (16777216*e.bytes) 281474976710656 then gd (bl m) (gd (dD (nN m) 16777216) (su (.row t (rep (nN m) t.dS)) h (fun q h'=>K (.tw (.loc q) e.size) h' (.wr [gq q])))) else none
   | none=>none
  | _,_=>none
 | none=>none
theorem RS (hE:dq P E) {T:Nat} {x y:Operand} {same:Bool} (ho:o.op = .makeSlice T x y) (hs:same=true→x=y) (hr:mkK E T same (ρ x) h K=some r):Out P o ρ h K r:=by
 have hd:∀c,o.op≠.defer c:=by rw [ho];intro c e;cases e
 unfold mkK at hr
 split at hr
 ·rename_i el he
  split at hr
  ·rename_i e k m ht hx
   split at hr
   ·rename_i t C1
    obtain ⟨h1,hr⟩:=ae hr
    simp only [zC] at h1
    obtain rfl:=hs h1.1.1
    obtain ⟨h2,hr⟩:=cH hr
    obtain ⟨h3,hr⟩:=cH hr
    have h3:nN m≤16777216:=h3
    obtain ⟨h',k1,hq,hf,hh⟩:=jW hr
    have hk:=hE.fO _ _ ht
    have hb:=Nat.le_of_ble_eq_true h1.2
    refine ⟨_,_,_,k1,.of _ hh rfl (fun u hu=>by rcases zF.1 hu with rfl;exact aL (o:=h.bI) hq (.head _)) (fun S2 hA=>?_) hd⟩
    have e1:jM.low (.row t (rep (nN m) t.dS)) = .cells (tG (nN m) (aJ t t.dS)):=congrArg Ob.cells (Bj t _ _)
    rw [e1]
    have sE:ρ x = .v (.int k ((nN m:Nat):Int)):=by rw [hx,qM h2]
    exact xl ho (sD hE he) hk.ti (bW h1.1.2) sE sE (Nat.le_trans (zW _ h3) hb) (by omega) ((hA _ (aL hq (.head _))).2.2 hf) (hk.tz t C1)
   ·cases hr
  ·cases hr
 ·cases hr
def SX (h:H) (X:Ref) (k:H→Option β):Option β:=bif BR h (lf X) then none else match X with
 | .loc o=>ir h.t o none (fun t1=>k { h with t:=t1 })
 | .c_ r j=>match cl h.rg r with
  | some ⟨_,.row t',c⟩=>bif Nat.blt r 64 then gd (bn j (len (α:=Option (List t'.T)) c)) (k { h with rg:=lQ h.rg r (.row t') (aU (α:=Option (List t'.T)) c j none) }) else none
  | _=>none
theorem vu {t:Ty} {c:List (Option (List t.T))} {j:Nat} (hj:j<c.length) (i:Nat):fQ (.row t) (aU c j none) i=if i=j then none else fQ (.row t) c i:=by
 show (match ny (aU c j none) i with | some (some l)=>some (Ob.cells (l.flatMap (aJ t))) | _=>none)=if i=j then none else (match ny c i with | some (some l)=>some (Ob.cells (l.flatMap (aJ t))) | _=>none)
 rw [sK]
 by_cases h:i=j
 ·subst h;rw [if_pos ⟨rfl,hj⟩,if_pos rfl]
 ·rw [if_neg (fun k=>h k.1),if_neg h]
theorem FW {X:Ref} {k:H→Option β} (hr:SX h X k=some r):∃h',k h'=some r∧GW X=true∧hp h'=app [.del X.id] (hp h)∧h'.bI=h.bI:=by
 obtain ⟨_,hr⟩:=lN hr
 cases X with
 | loc o=>
  obtain ⟨hq,t1,k1,k2⟩:=cz hr
  exact ⟨_,k1,by show Nat.blt o 16777216=true;simpa using (G6 hq),wb (G6 hq) k2,rfl⟩
 | c_ r j=>
  simp only at hr
  split at hr
  ·rename_i _ t' c hf
   obtain ⟨h3,hr⟩:=ae hr
   obtain ⟨h4,hr⟩:=cH hr
   have eh:j<List.length (α:=Option (List t'.T)) c:=h4
   refine ⟨_,hr,h3,?_,rfl⟩
   exact wa (j:=j) (u:=.del (ig r j)) (bW h3) hf (uU (α:=Option (List t'.T)) c j _) (fun i hi=>by rw [vu (c:=c) eh,if_neg hi]) rfl (by rw [vu (c:=c) eh,if_pos rfl];exact if_pos rfl) rfl
  ·cases hr
def zp:A→Bool
 | .e0=>true
 | .v (.slice _ 0 0)=>true
 | _=>false
theorem V.G0 {g:G} {p:A} {v:Value} (hv:V g p v) (h:zp p=true):∃ad,v = .slice ad 0 0:=by
 unfold zp at h
 split at h
 ·cases hv with | e0 ad=>exact ⟨ad,rfl⟩
 ·cases hv;exact ⟨_,rfl⟩
 ·cases h
theorem xo {S:Hp} {T E':TypeId} {z b m n:Nat} {X:Ref} {zv:Value} {cs ps:List A} {x y:Operand} (ho:o.op = .call { callee:=.builtin .append,args:=#[x,y],argTypes:=#[T,T] }) (hT:P.underlying T=some (.slice E')) (hE:TI P E' z b zv) (h0:0<z)
  (hp:S.ob X.id=some (.cells cs)) (hx:ρ x = .ts X z 0 n) (tU:(n+m)*z≤cs.length) (hy:∀g w v,Inv g S w→V g (ρ y) v→Given g w v z m ps):gY P o ρ S (S.set X.id (.cells (put cs (n*z) ps))) (.ts X z 0 (n+m)):=
 .app ho fun g w a hI e1 e2=>by
  obtain ⟨i,t1,t2,t3,t4,t5,t6⟩:=hE
  subst t3 t4
  have NI:gR P E' i.size:=⟨i,t1,rfl⟩
  obtain ⟨A2,oX,us,ye,tQ,qk,Kt⟩:=hy g w _ hI e2
  rw [hx] at e1
  generalize hu:a.eval x=vx at e1 ⊢
  cases e1 with
  | xJ _ _ _ _ ad hg hn=>
   rcases hI.cells X.id cs hp with ⟨_,k2⟩ | ⟨b',t,k1,_⟩
   ·subst k2
    have hn:n=0:=by omega
    subst hn
    have hm:m=0:=by
     rcases Nat.eq_zero_or_pos m with h | h
     ·exact h
     ·have:0<(0+m)*i.size:=Nat.mul_pos (by omega) h0
      simp only [List.length_nil] at tU;omega
    subst hm
    have xt:ps=[]:=zZ (by rw [tQ.1,qk];simp)
    subst xt
    have hS:S.set X.id (.cells (put [] (0*i.size) []))=S:=by
     refine Hp.ext' (fun j=>?_) (fun j=>Iff.rfl)
     show (if j=X.id then some (.cells (put [] (0*i.size) [])) else S.ob j)=S.ob j
     by_cases hj:j=X.id
     ·subst hj;rw [if_pos rfl,hp];simp [put]
     ·rw [if_neg hj]
    rw [hS,ye]
    exact ⟨_,g,w,jO w T E' o.type hT NI _ A2 0 0 oX (Nat.le_refl _),.xJ X i.size 0 (0+0) ad hg (by simp),hI,.refl S g w⟩
   ·rw [k1] at hg;cases hg
  | ts _ _ _ _ bk cap s hg hnc Ut hs So d hd hq=>
   rw [ye]
   rw [Nat.zero_add] at So hq
   have xt:ps.length=m*i.size:=by rw [tQ.1,qk]
   have hlen:(put cs (n*i.size) ps).length=cs.length:=yZ (by rw [xt,←Nat.add_mul];exact tU)
   rcases hI.cells X.id cs hp with ⟨k1,_⟩ | ⟨b',t,k1,cur,ty,k2,tg,k3⟩
   ·rw [k1] at hg;cases hg
   have LX:=hg
   rw [k1] at hg;simp at hg
   obtain ⟨rfl,rfl⟩:=hg
   simp only at hq So hs
   have uo:n+m≤cap:=Nat.le_of_mul_le_mul_right (Nat.le_trans tU hq) h0
   have pG:(0+(n+m))*i.size≤(cs.length,t).1:=by rw [Nat.zero_add];exact tU
   have uN:∀g',g'.ck X.id=some (some b',(cs.length,t))→V g' (.ts X i.size 0 (n+m)) (.slice (some ⟨b',d,none⟩) (n+m) cap):=fun g' cV=>.ts X i.size 0 (n+m) b' cap _ cV uo Ut pG (by rw [Nat.zero_add];exact So) d hd (by rw [Nat.zero_add];exact hq)
   rcases Nat.eq_zero_or_pos m with rfl | hm
   ·have xt:ps=[]:=zZ (by rw [xt];simp)
    subst xt
    have xq:put cs (n*i.size) []=cs:=by simp [put]
    have hS:S.set X.id (.cells (put cs (n*i.size) []))=S:=by
     rw [xq]
     refine Hp.ext' (fun j=>?_) (fun j=>Iff.rfl)
     show (if j=X.id then some (.cells cs) else S.ob j)=S.ob j
     by_cases hj:j=X.id
     ·subst hj;rw [if_pos rfl,hp]
     ·rw [if_neg hj]
    rw [hS]
    exact ⟨_,g,w,jO w T E' o.type hT NI _ A2 n cap oX hnc,uN g LX,hI,.refl S g w⟩
   ·obtain ⟨L5,rfl,pH⟩:=Kt hm
    obtain rfl:=hd (by omega)
    have Hh:(n+m)*i.size≤cs.length:=tU
    rw [Nat.add_mul] at Hh
    obtain ⟨aob,ty',c1,c2,c3,c4⟩:=hI.store (off:=n*i.size) hp LX tQ (by rw [xt];exact Hh)
    rw [k2] at c1
    simp only [zI,Obj.cells.injEq,and_true] at c1
    obtain ⟨rfl,rfl⟩:=c1
    have jb:=nj (P:=P) w T o.type E' ty i hT t1 b' n cap cur k2 L5 m oX us qk pH tQ.one uo c2
    rw [Nat.zero_mul]
    exact ⟨_,g,_,jb,by have:=uN g LX;rwa [Nat.zero_mul] at this,c3,c4⟩
def Tn (E:Env) (T:Nat) (px py:A) (h:H) (K:A→H→Fp→Option β):Option β:=match DQ E T with
 | some el=>match dA E.fO el with
  | some e=>match e.t with
   | some t=>bif Nat.blt 0 e.size && Nat.ble (16777216*e.bytes) 140737488355328 then Gj h t py (fun l T1=>
    bif zp px then gd (dD (len l) 16777216) (su (.row t l) h (fun q h'=>K (.tw (.loc q) e.size) h' (.pt (gq q) T1)))
    else match px with
    | .tw X z=>lg h X (fun t' l0=>match iJ (.cN t') (.cN t) l0 with
     | some l0=>bif Nat.beq z e.size then gd (dD (aY (len (α:=t.T) l0) (len l)) 16777216) (SX h X (fun h1=>su (.row t (cat (α:=t.T) l0 l)) h1 (fun q h2=>K (.tw (.loc q) e.size) h2 (.p2 (gq q) (lf X) T1)))) else none
     | none=>none)
    | .ts X z 0 n=>lg h X (fun t' l0=>match iJ (.cN t') (.cN t) l0 with
     | some l0=>bif Nat.beq z e.size then (match py with
      | .ts _ _ _ _=>gd (dD (aY n (len l)) (len (α:=t.T) l0)) (vE h X t (cat (tk (α:=t.T) n l0) (cat l (dr (α:=t.T) (aY n (len l)) l0))) (fun h1=>K (.ts X z 0 (aY n (len l))) h1 (.wr (lf X::T1))))
      | _=>gd (dD (aY n (len l)) 16777216) (SX h X (fun h1=>su (.row t (cat (tk (α:=t.T) n l0) l)) h1 (fun q h2=>K (.tw (.loc q) e.size) h2 (.p2 (gq q) (lf X) T1))))) else none
     | none=>none)
    | .tf X z off n=>br (aj (zN n) 0) (gd (dD (len l) 16777216) (su (.row t l) h (fun q h'=>K (.tw (.loc q) e.size) h' (.pt (gq q) T1)))) (lg h X (fun t' l0=>match iJ (.cN t') (.cN t) l0 with
     | some l0=>bif Nat.beq z e.size then gd (bn 0 (len l)) (gd (dD (aY n (len l)) 16777216) (su (.row t (cat (tk n (dr (α:=t.T) off l0)) l)) h (fun q h2=>K (.tw (.loc q) e.size) h2 (.p2 (gq q) (lf X) T1)))) else none
     | none=>none))
    | _=>none) else none
   | none=>none
  | none=>none
 | none=>none
theorem lM (t:Ty) (a b:List t.T):(cat a b).flatMap (aJ t)=a.flatMap (aJ t)++b.flatMap (aJ t):=List.flatMap_append
theorem Aa (t:Ty) (n:Nat) (l:List t.T):(tk n l).flatMap (aJ t)=(l.flatMap (aJ t)).take (n*t.size):=by
 have:=lu t l 0 n
 simpa [tk] using this.symm
theorem Ab (t:Ty) (n:Nat) (l:List t.T):(dr n l).flatMap (aJ t)=(l.flatMap (aJ t)).drop (n*t.size):=by
 have:=lu t l n l.length
 rw [za (by rw [List.length_drop,bV];omega),za (by simp)] at this
 exact this.symm
theorem Qt {t:Ty} {X:Ref} {l:List t.T} {h1 h2:H} {T1:List Nat} {pv:A} (hd:∀c,o.op≠.defer c) (hX:GW X=true) (e1:hp h1=app [.del X.id] (hp h)) (hn:h1.bI=h.bI) (hq:h1.bI<16777216) (hf:(hp h1).fr h1.bI) (e2:hp h2=app [.new h1.bI (jM.row t l).low] (hp h1))
  (k:∀S2,bO (.p2 (gq h1.bI) (lf X) T1) (hp h) S2→S2.fr h1.bI→gY P o ρ S2 ((S2.del X.id).new h1.bI (.cells (l.flatMap (aJ t)))) pv):Step P o ρ h h2 (.p2 (gq h1.bI) (lf X) T1) pv:=
 .of2 [.del X.id,.new h1.bI (.cells (l.flatMap (aJ t)))] (by rw [e2,e1];rfl) (fun u hu=>by
  rcases List.mem_cons.1 hu with rfl | hu
  ·exact cJ hX (.tail _ (.head _))
  ·rcases zF.1 hu with rfl;exact aL (o:=h1.bI) hq (.head _)) (fun u hu=>by
  show aR (.wr [gq h1.bI,lf X]) u.id=true
  rcases List.mem_cons.1 hu with rfl | hu
  ·exact cJ hX (.tail _ (.head _))
  ·rcases zF.1 hu with rfl;exact aL (o:=h1.bI) hq (.head _)) (fun S2 hA=>k S2 hA ((hA _ (aL hq (.head _))).2.2 (by rw [e1] at hf;exact hf))) hd
theorem Og (hE:dq P E) {T:Nat} {x y:Operand} (ho:o.op = .call { callee:=.builtin .append,args:=#[x,y],argTypes:=#[T,T] }) (hr:Tn E T (ρ x) (ρ y) h K=some r):Out P o ρ h K r:=by
 have hd:∀c,o.op≠.defer c:=by rw [ho];intro c e;cases e
 unfold Tn at hr
 split at hr
 ·rename_i el he
  have hT:=sD hE he
  split at hr
  ·rename_i e ht
   have hk:=hE.fO _ _ ht
   split at hr
   ·rename_i t C1
    have pG:=hk.ts t C1
    obtain ⟨hb,hr⟩:=ae hr
    simp only [zC] at hb
    have h0:=bW hb.1
    have hb:=Nat.le_of_ble_eq_true hb.2
    have L1:∀{n:Nat},n≤16777216→n*e.bytes≤140737488355328∧n≤maxLen:=fun hn=>⟨Nat.le_trans (zW _ hn) hb,by unfold maxLen;omega⟩
    obtain ⟨l,T1,hr,zw⟩:=EL hr
    rw [pG] at zw
    cases DY:zp (ρ x) with
    | true=>
     rw [DY] at hr;simp only [cond_true] at hr
     obtain ⟨h2,hr⟩:=cH hr
     have h2:l.length≤16777216:=h2
     obtain ⟨h',k1,hq,hf,hh⟩:=jW hr
     exact ⟨_,_,_,k1,.of2 _ hh (fun u hu=>by rcases zF.1 hu with rfl;exact aL (o:=h.bI) hq (.head _)) (fun u hu=>by rcases zF.1 hu with rfl;exact aL (l:=[gq h.bI]) (w:=false) (s:=[]) (o:=h.bI) hq (.head _))
      (fun S2 hA=>pB ho hT hk.ti (fun g v hv=>hv.G0 DY) (zw S2 (hA.mono fun i hi=>.tail _ hi)) ((hA _ (aL hq (.head _))).2.2 hf) (L1 h2).1 (L1 h2).2) hd⟩
    | false=>
     rw [DY] at hr;simp only [cond_false] at hr
     split at hr
     ·rename_i X z hx
      obtain ⟨t',l0,hr,hX,fN⟩:=gK hr
      split at hr
      ·rename_i l0' hl
       obtain ⟨e',rfl⟩:=dz hl
       cases e'
       obtain ⟨hz,hr⟩:=ae hr
       have hz:=beq_eq hz
       obtain ⟨h2,hr⟩:=cH hr
       have h2:l0.length+l.length≤16777216:=h2
       obtain ⟨h1,hr,_,e1,hn⟩:=FW hr
       obtain ⟨h',k1,hq,hf,hh⟩:=jW hr
       refine ⟨_,_,_,k1,Qt hd hX e1 hn hq hf hh (fun S2 hA mz=>?_)⟩
       have gh:=(hA _ (cJ hX (.tail _ (.head _)))).1.trans fN
       have:=vL (P:=P) (n:=l0.length) (m:=l.length) (z:=e.size) ho hT hk.ti h0 gh (fun g w v hI hv=>by
        rw [hx,hz,←pG] at hv
        rcases hv.uh hI (by rw [pG];exact h0) gh with ⟨ad,_,rfl,rfl⟩ | ⟨b,s,cap,d,cV,rfl,k2,k3,k4,k5⟩
        ·exact .inl ⟨ad,rfl,rfl⟩
        ·exact .inr ⟨b,s,cap,d,cV,rfl,k2,k3,k4,by rw [←pG];exact k5⟩) (by rw [bV,pG];exact Nat.le_refl _) (zw S2 (hA.mono fun i hi=>.tail _ (.tail _ hi))) mz (L1 h2).1 (L1 h2).2
       rw [za (by rw [bV,pG];exact Nat.le_refl _),←lM] at this
       exact this
      ·cases hr
     ·rename_i X z n hx
      obtain ⟨t',l0,hr,hX,fN⟩:=gK hr
      split at hr
      ·rename_i l0' hl
       obtain ⟨e',rfl⟩:=dz hl
       cases e'
       obtain ⟨hz,hr⟩:=ae hr
       have hz:=beq_eq hz
       split at hr
       ·obtain ⟨h2,hr⟩:=cH hr
        have h2:n+l.length≤l0.length:=h2
        obtain ⟨h1,k1,k2⟩:=qf hX hr
        refine ⟨_,_,_,k1,⟨fun i hi=>k2.1 i (tB (fun j hj=>by rcases zF.1 hj with rfl;exact .head _) hi),fun i hi=>k2.1 i (tB (T:=lf X::T1) (fun j hj=>by rcases zF.1 hj with rfl;exact .head _) (xH hi)),fun S2 hA=>?_⟩⟩
        refine gY.RP (gY.ck fun g w a hI hv=>?_) hd
        have hv:=hv x (by simp [ho,Op.operands,Call.operands])
        have gh:=(hA _ (cJ hX (.head _))).1.trans fN
        have LS:¬(hp h).fr X.id:=fun hf=>by
         have ZA:=(hA _ (cJ hX (.head _))).2.2 hf
         have:=hI.fresh _ ZA
         rw [hx] at hv
         generalize a.eval x=vx at hv
         cases hv with
         | xJ _ _ _ _ ad cV=>rw [cV] at this;cases this
         | ts _ _ _ _ b cap s cV=>rw [cV] at this;cases this
        have e1:=k2.2 LS
        have hT1:aR (.wr (lf X::T1)) X.id=true:=cJ hX (.head _)
        rw [e1,lY (fun u hu=>by rcases zF.1 hu with rfl;exact hT1) hA]
        have:=xo (P:=P) (n:=n) (m:=l.length) (X:=X) ho hT hk.ti h0 gh (by rw [hx,hz]) (by rw [bV,pG];exact zW _ h2) (zw S2 (hA.mono fun i hi=>.tail _ hi))
        have e2:put (l0.flatMap (aJ t)) (n*e.size) (l.flatMap (aJ t))=(cat (tk n l0) (cat l (dr (aY n (len l)) l0))).flatMap (aJ t):=by
         rw [lM,lM,Aa,Ab,pG]
         unfold put
         rw [bV,pG,←Nat.add_mul];rfl
        rw [e2] at this
        rw [hz]
        exact this
       ·obtain ⟨h2,hr⟩:=cH hr
        have h2:n+l.length≤16777216:=h2
        obtain ⟨h1,hr,_,e1,hn⟩:=FW hr
        obtain ⟨h',k1,hq,hf,hh⟩:=jW hr
        refine ⟨_,_,_,k1,Qt hd hX e1 hn hq hf hh (fun S2 hA mz=>gY.ck fun g0 w0 a0 ZK zt=>?_)⟩
        have gh:=(hA _ (cJ hX (.tail _ (.head _)))).1.trans fN
        have hle:n≤l0.length:=by
         have hv:=zt x (by simp [ho,Op.operands,Call.operands])
         rw [hx,hz,←pG] at hv
         have:=xI ZK (by rw [pG];exact h0) gh hv
         omega
        have:=vL (P:=P) (n:=n) (m:=l.length) (z:=e.size) ho hT hk.ti h0 gh (fun g w v hI hv=>by
         rw [hx,hz] at hv
         cases hv with
         | xJ _ _ _ _ ad _ hn=>exact .inl ⟨ad,rfl,by omega⟩
         | ts _ _ _ _ b cap s cV k2 k3 k4 k5 d k6=>
          rw [Nat.zero_add] at k5
          exact .inr ⟨b,s,cap,d,cV,rfl,fun hc=>by rw [k6 hc,Nat.zero_mul],k2,k3,k5⟩) (by rw [bV,pG];exact zW _ hle) (zw S2 (hA.mono fun i hi=>.tail _ (.tail _ hi))) mz (L1 h2).1 (L1 h2).2
        rw [←pG,←Aa,←lM] at this
        rw [←pG]
        exact this
      ·cases hr
     ·rename_i X z off n hx
      rcases t_ hr with ⟨Um,hr⟩ | ⟨_,hr⟩
      ·obtain ⟨h2,hr⟩:=cH hr
       have h2:l.length≤16777216:=h2
       have Um:n=0:=by have:=of_decide_eq_true Um;unfold zN at this;omega
       obtain ⟨h',k1,hq,hf,hh⟩:=jW hr
       exact ⟨_,_,_,k1,.of2 _ hh (fun u hu=>by rcases zF.1 hu with rfl;exact aL (o:=h.bI) hq (.head _)) (fun u hu=>by rcases zF.1 hu with rfl;exact aL (l:=[gq h.bI]) (w:=false) (s:=[]) (o:=h.bI) hq (.head _))
        (fun S2 hA=>pB ho hT hk.ti (fun g v hv=>by rw [hx,Um] at hv;cases hv<;>exact ⟨_,rfl⟩) (zw S2 (hA.mono fun i hi=>.tail _ hi)) ((hA _ (aL hq (.head _))).2.2 hf) (L1 h2).1 (L1 h2).2) hd⟩
      obtain ⟨t',l0,hr,hX,fN⟩:=gK hr
      split at hr
      ·rename_i l0' hl
       obtain ⟨e',rfl⟩:=dz hl
       cases e'
       obtain ⟨hz,hr⟩:=ae hr
       have hz:=beq_eq hz
       obtain ⟨h3,hr⟩:=cH hr
       have h3:0<l.length:=h3
       obtain ⟨h2,hr⟩:=cH hr
       have h2:n+l.length≤16777216:=h2
       obtain ⟨h',k1,hq,hf,hh⟩:=jW hr
       refine ⟨_,_,_,k1,.of2 _ hh (fun u hu=>by rcases zF.1 hu with rfl;exact aL (o:=h.bI) hq (.head _)) (fun u hu=>by rcases zF.1 hu with rfl;exact aL (l:=[gq h.bI,lf X]) (w:=false) (s:=[]) (o:=h.bI) hq (.head _)) (fun S2 hA=>gY.ck fun g0 w0 a0 ZK zt=>?_) hd⟩
       have gh:=(hA _ (cJ hX (.tail _ (.head _)))).1.trans fN
       have hle:off+n≤l0.length:=by
        have hv:=zt x (by simp [ho,Op.operands,Call.operands])
        rw [hx,hz,←pG] at hv
        generalize a0.eval x=vx at hv
        cases hv with
        | Io _ _ _ _ _ _ hn=>omega
        | tf _ _ _ _ b s cV _ hs=>
         rcases ZK.cells _ _ gh with ⟨k1,_⟩ | ⟨b',Md,k1,_⟩
         ·rw [k1] at cV;cases cV
         rw [k1] at cV
         simp only [zI,zU] at cV
         obtain ⟨_,rfl⟩:=cV
         simp only [bV] at hs
         exact Nat.le_of_mul_le_mul_right hs (by rw [pG];exact h0)
       have:=uL (P:=P) (off:=off*e.size) (n:=n) (m:=l.length) (z:=e.size) ho hT hk.ti h0 (fun g w v hI hv=>by
        rw [hx,hz] at hv
        cases hv with
        | Io _ _ _ _ ad _ hn=>exact .inl ⟨ad,rfl,by omega⟩
        | tf _ _ _ _ b s cV _ _ d k6=>exact .inr ⟨b,s,d,cV,rfl,k6⟩) gh (by rw [bV,pG,←Nat.add_mul];exact zW _ hle) (zw S2 (hA.mono fun i hi=>.tail _ (.tail _ hi))) h3 ((hA _ (aL hq (.head _))).2.2 hf) (L1 h2).1 (L1 h2).2
       rw [←pG,lu,←lM] at this
       rw [←pG]
       exact this
      ·cases hr
     ·cases hr
   ·cases hr
  ·cases hr
 ·cases hr
end
end
section
open Go.RowKit
theorem qm {α β:Type} {f:α→List β} {s:Nat} (hf:∀x,(f x).length=s) (l:List α):(l.flatMap f).length=l.length*s:=by
 induction l with
 | nil=>simp
 | cons a l ih=>rw [List.flatMap_cons,zY,ih,hf,zR,Nat.succ_mul,Nat.add_comm]
theorem Ec {α β:Type} {f:α→List β} {s:Nat} (hf:∀x,(f x).length=s) (l:List α) (off n:Nat):((l.flatMap f).drop (off*s)).take (n*s)=((l.drop off).take n).flatMap f:=by
 have h1:l.flatMap f=(l.take off).flatMap f++(l.drop off).flatMap f:=by rw [←List.flatMap_append,zP]
 by_cases hl:off≤l.length
 ·have h2:((l.take off).flatMap f).length=off*s:=by rw [qm hf,List.length_take,Nat.min_eq_left hl]
  rw [h1,List.drop_append,List.drop_eq_nil_of_le (by omega),List.nil_append,h2,Nat.sub_self,List.drop_zero]
  generalize l.drop off=k
  have h3:k.flatMap f=(k.take n).flatMap f++(k.drop n).flatMap f:=by rw [←List.flatMap_append,zP]
  by_cases hk:n≤k.length
  ·have h4:((k.take n).flatMap f).length=n*s:=by rw [qm hf,List.length_take,Nat.min_eq_left hk]
   rw [h3,List.take_append_of_le_length (by omega),za (by omega)]
  ·rw [za (by rw [qm hf];exact zW _ (by omega)),za (l:=k) (by omega)]
 ·rw [List.drop_eq_nil_of_le (as:=l) (by omega),List.drop_eq_nil_of_le (by rw [qm hf];exact zW _ (by omega))]
  simp
def uQ (ad:Option Addr) (z lo hi c:Nat):Value:=.slice (if c=lo then ad else ad.map (·.add (lo*z))) (hi-lo) (c-lo)
theorem V.Dc {g:G} {t:Ty} {f f':Bool} {l:List t.T} {lo hi:Nat} {v:Value} (hv:V g (.tl t f l) v) (h1:lo≤hi) (h2:hi≤l.length) :
  ∃ad cap,v = .slice ad l.length cap∧l.length≤cap∧(f=true→cap=l.length)∧∀c,hi≤c→c≤cap→(f'=true→c=hi)→V g (.tl t f' (tk (hi-lo) (dr lo l))) (uQ ad t.size lo hi c):=by
 cases hv with
 | tl _ _ _ _ hd=>
  generalize oO:List.map (fb t) l=es at hd
  have tT:es.length=l.length:=by rw [←oO,zH]
  have AJ:es.flatten=l.flatMap (fb t):=by rw [←oO,nA]
  cases hd with
  | xc=>
   have:l=[]:=zZ tT.symm
   subst this
   refine ⟨_,0,rfl,Nat.le_refl _,fun _=>rfl,fun c k1 k2 k3=>?_⟩
   have hc:c=0:=by omega
   have hl:lo=0:=by simp at h2;omega
   have hh:hi=0:=by simpa using h2
   subst hc hl hh
   exact .tl t f' _ _ (by rw [show tk (0-0) (dr 0 ([]:List t.T))=[] by simp [tk]];exact .xc _ _ _)
  | sl _ _ _ a cap vs hz hc hf hn hx hl hm He=>
   rw [tT] at hc hf
   rw [tT]
   refine ⟨_,cap,rfl,hc,hf,fun c k1 k2 k3=>?_⟩
   unfold uQ
   by_cases tU:c=lo
   ·have e1:hi-lo=0:=by omega
    rw [if_pos tU,e1,show c-lo=0 by omega]
    exact .tl t f' _ _ (by rw [show tk 0 (dr lo l)=[] by simp [tk]];exact .xc _ _ _)
   ·rw [if_neg tU]
    cases a with
    | none=>have:=hn rfl;omega
    | some p=>
     have hlen:(tk (hi-lo) (dr lo l)).length=hi-lo:=by simp [tk,dr];omega
     have J9:=Ec (f:=fb t) (fun x=>gk t x) l lo (hi-lo)
     rw [AJ] at hl He
     have e2:((tk (hi-lo) (dr lo l)).map (fb t)).flatten=((l.flatMap (fb t)).drop (lo*t.size)).take ((hi-lo)*t.size):=by rw [nA,J9];rfl
     have:=VD.sl (M:=g.mem) t.size f' ((tk (hi-lo) (dr lo l)).map (fb t)) (some (p.1,p.2+lo*t.size)) (c-lo) ((vs.drop (lo*t.size)).take ((hi-lo)*t.size))
      (fun e he=>by obtain ⟨x,_,rfl⟩:=List.mem_map.1 he;exact gk t x) (by rw [zH,hlen];omega) (fun h=>by rw [zH,hlen,k3 h]) (fun h=>by cases h) (by omega)
      (by rw [e2];simp only [List.length_take,List.length_drop,hl])
      (fun q j x hq hj=>by
       cases hq
       rw [List.getElem?_take] at hj
       split at hj
       ·rw [List.getElem?_drop] at hj
        have:=hm p _ x rfl hj
        rw [←Nat.add_assoc] at this;exact this
       ·cases hj)
      (fun j d x hj Zv=>by
       rw [e2] at hj
       rw [List.getElem?_take] at hj Zv
       split at hj
       ·rename_i eh
        rw [if_pos eh] at Zv
        rw [List.getElem?_drop] at hj Zv
        exact He _ d x hj Zv
       ·cases hj)
     rw [zH,hlen] at this
     have e3:Option.map (fun x:Addr=>x.add (lo*t.size)) (Option.map adr (some p))=Option.map adr (some (p.1,p.2+lo*t.size)):=congrArg some (Addr.add_lit _ _ _)
     rw [e3]
     exact .tl t f' _ _ this
section
variable {P:Program} {E:Env} {o:Oper} {ρ:Operand→A} {h:H} {β:Type} {K:A→H→Fp→Option β} {r:β}
def HK (ox:Option A) (d:Nat) (k:Nat→Option β):Option β:=match ox with
 | none=>k d
 | some (.v (.int _ m))=>gd (bl m) (k (nN m))
 | _=>none
theorem mD {x:Option Operand} {d:Nat} {k:Nat→Option β} (hr:HK (x.map ρ) d k=some r):∃n,k n=some r∧Bd ρ d x n:=by
 unfold HK at hr
 split at hr
 ·rename_i hx
  cases x with
  | none=>exact ⟨d,hr,rfl⟩
  | some y=>cases hx
 ·rename_i kd m hx
  cases x with
  | none=>cases hx
  | some y=>
   obtain ⟨h1,h2⟩:=cH hr
   refine ⟨_,h2,kd,?_⟩
   rw [qM h1]
   exact Option.some.inj hx
 ·cases hr
theorem V.Pt {g:G} {S:Hp} {w:World} (hI:Inv g S w) {X:Ref} {t:Ty} {l:List t.T} (h0:0<t.size) (ho:S.ob X.id=some (.cells (l.flatMap (aJ t)))) {v:Value} (hv:V g (.tw X t.size) v) {lo hi:Nat} (h1:lo≤hi) (h2:hi≤l.length) :
  ∃ad cap,v = .slice ad l.length cap∧l.length≤cap∧V g (.ts X t.size lo (hi-lo)) (uQ ad t.size lo hi cap)∧V g (.tf X t.size lo (hi-lo)) (uQ ad t.size lo hi hi):=by
 have hlen:=bV t l
 rcases hv.uh hI h0 ho with ⟨ad,cV,rfl,rfl⟩ | ⟨b,s,cap,d,cV,rfl,k2,k3,k4,k5⟩
 ·have hh:hi=0:=by simpa using h2
  have hl:lo=0:=by omega
  subst hh hl
  exact ⟨ad,0,rfl,Nat.le_refl _,.xJ X t.size 0 _ ad cV rfl,.Io X t.size 0 _ ad cV rfl⟩
 ·have hs:s.1=l.length*t.size:=by
   rcases hI.cells _ _ ho with ⟨k1,_⟩ | ⟨b',Md,k1,_⟩
   ·rw [k1] at cV;cases cV
   rw [k1] at cV
   simp only [zI,zU] at cV
   obtain ⟨_,rfl⟩:=cV
   exact hlen
  have m5:(lo+(hi-lo))*t.size≤s.1:=by rw [hs];exact zW _ (by omega)
  refine ⟨_,cap,rfl,k3,?_,?_⟩
  ·unfold uQ
   by_cases hc:cap=lo
   ·rw [if_pos hc]
    refine .ts X t.size lo (hi-lo) b (cap-lo) s cV (by omega) (by omega) m5 ?_ d (fun h=>by omega) ?_
    ·rw [show lo+(cap-lo)=cap by omega];exact k5
    ·rw [show lo+(cap-lo)=cap by omega,hs];exact zW _ k3
   ·rw [if_neg hc,Option.map_some,Addr.add_lit]
    have hd:=k2 (by omega)
    refine .ts X t.size lo (hi-lo) b (cap-lo) s cV (by omega) (by omega) m5 ?_ _ (fun _=>by omega) ?_
    ·rw [show lo+(cap-lo)=cap by omega];exact k5
    ·rw [show lo+(cap-lo)=cap by omega,hs];exact zW _ k3
  ·unfold uQ
   by_cases hc:hi=lo
   ·rw [if_pos hc]
    exact .tf X t.size lo (hi-lo) b s cV (by omega) m5 d (fun h=>by omega)
   ·rw [if_neg hc,Option.map_some,Addr.add_lit]
    have hd:=k2 (by omega)
    exact .tf X t.size lo (hi-lo) b s cV (by omega) m5 _ (fun _=>by omega)
theorem V.WV {g:G} {S:Hp} {w:World} (hI:Inv g S w) {X:Ref} {t:Ty} {l:List t.T} (h0:0<t.size) (ho:S.ob X.id=some (.cells (l.flatMap (aJ t)))) {off n:Nat} {v:Value} (hv:V g (.ts X t.size off n) v) {lo hi:Nat} (h1:lo≤hi) (h2:off+hi≤l.length) :
  ∃ad cap,v = .slice ad n cap∧hi≤cap∧V g (.ts X t.size (off+lo) (hi-lo)) (uQ ad t.size lo hi cap)∧V g (.tf X t.size (off+lo) (hi-lo)) (uQ ad t.size lo hi hi):=by
 have hlen:=bV t l
 cases hv with
 | xJ _ _ _ _ ad cV hn=>
  rcases hI.cells _ _ ho with ⟨_,k2⟩ | ⟨b',Md,k1,_⟩
  ·rw [k2] at hlen
   have hl:l.length=0:=by
    rcases Nat.eq_zero_or_pos l.length with h | h
    ·exact h
    ·have:0<l.length*t.size:=Nat.mul_pos h h0
     simp at hlen;omega
   have hh:hi=0:=by omega
   have hl:lo=0:=by omega
   have hof:off=0:=by omega
   have Kc:n=0:=by omega
   subst hh hl hof Kc
   exact ⟨ad,0,rfl,Nat.le_refl _,.xJ X t.size _ _ ad cV rfl,.Io X t.size _ _ ad cV rfl⟩
  ·rw [k1] at cV;cases cV
 | ts _ _ _ _ b cap s cV hn hx hs hp d hd hq=>
  have No:s.1=l.length*t.size:=by
   rcases hI.cells _ _ ho with ⟨k1,_⟩ | ⟨b',Md,k1,_⟩
   ·rw [k1] at cV;cases cV
   rw [k1] at cV
   simp only [zI,zU] at cV
   obtain ⟨_,rfl⟩:=cV
   exact hlen
  have ae_:l.length≤off+cap:=by rw [No] at hq;exact Nat.le_of_mul_le_mul_right hq h0
  have m5:(off+lo+(hi-lo))*t.size≤s.1:=by rw [No];exact zW _ (by omega)
  refine ⟨_,cap,rfl,by omega,?_,?_⟩
  ·unfold uQ
   by_cases hc:cap=lo
   ·rw [if_pos hc]
    refine .ts X t.size (off+lo) (hi-lo) b (cap-lo) s cV (by omega) (by omega) m5 ?_ d (fun h=>by omega) ?_
    ·rw [show off+lo+(cap-lo)=off+cap by omega];exact hp
    ·rw [show off+lo+(cap-lo)=off+cap by omega];exact hq
   ·rw [if_neg hc,Option.map_some,Addr.add_lit]
    have hd:=hd (by omega)
    refine .ts X t.size (off+lo) (hi-lo) b (cap-lo) s cV (by omega) (by omega) m5 ?_ _ (fun _=>by rw [hd,Nat.add_mul]) ?_
    ·rw [show off+lo+(cap-lo)=off+cap by omega];exact hp
    ·rw [show off+lo+(cap-lo)=off+cap by omega];exact hq
  ·unfold uQ
   by_cases hc:hi=lo
   ·rw [if_pos hc]
    exact .tf X t.size (off+lo) (hi-lo) b s cV (by omega) m5 d (fun h=>by omega)
   ·rw [if_neg hc,Option.map_some,Addr.add_lit]
    have hd:=hd (by omega)
    exact .tf X t.size (off+lo) (hi-lo) b s cV (by omega) m5 _ (fun _=>by rw [hd,Nat.add_mul])
def It (E:Env) (T:Nat) (px:A) (lo hi mx:Option A) (same:Bool) (h:H) (K:A→H→Fp→Option β):Option β:=match dA E.fO T with
 | some ⟨.slice el,_,_,_,_,_,_⟩=>match dA E.fO el with
  | some e=>match px with
   | .e0=>HK lo 0 (fun l=>HK hi 0 (fun n=>gd (dD l n) (gd (dD n 0) (match mx with
    | none=>K .e0 h (.rd [])
    | some _=>bif same && hi.isSome then K .e0 h (.rd []) else none))))
   | .tl t f x=>bif Nat.beq e.size t.size then HK lo 0 (fun l=>HK hi (len x) (fun n=>gd (dD l n) (gd (dD n (len x)) (match mx with
    | none=>K (.tl t (f && hi.isNone) (tk (aF n l) (dr l x))) h .no
    | some _=>bif same && hi.isSome then K (.tl t true (tk (aF n l) (dr l x))) h .no else none)))) else none
   | .tw X z=>lg h X (fun t x=>bif Nat.beq z e.size && Nat.beq z t.size && Nat.blt 0 z then HK lo 0 (fun l=>HK hi (len x) (fun n=>gd (dD l n) (gd (dD n (len x)) (match mx with
    | none=>K (.ts X z l (aF n l)) h (.rd [lf X])
    | some _=>bif same && hi.isSome then K (.tf X z l (aF n l)) h (.rd [lf X]) else none)))) else none)
   | .ts X z off m=>lg h X (fun t x=>bif Nat.beq z e.size && Nat.beq z t.size && Nat.blt 0 z then HK lo 0 (fun l=>HK hi m (fun n=>gd (dD l n) (gd (dD (aY off n) (len x)) (match mx with
    | none=>K (.ts X z (aY off l) (aF n l)) h (.rd [lf X])
    | some _=>bif same && hi.isSome then K (.tf X z (aY off l) (aF n l)) h (.rd [lf X]) else none)))) else none)
   | _=>none
  | none=>none
 | some ⟨.array n el,_,_,_,_,_,_⟩=>match dA E.fO el with
  | some e=>bif lo.isNone && hi.isNone && mx.isNone && Nat.ble n 16777216 then (match px with
   | .tp X π=>K (.aa X π n e.size) h .no
   | .ptr q off=>match h.t.get q with
    | some (.cells cs)=>bif Nat.blt q 16777216 && Nat.ble (off+n*e.size) cs.length then K (.sl q off e.size n) h (.rd [gq q]) else none
    | _=>none
   | _=>none) else none
  | none=>none
 | _=>none
theorem isNone_map {x:Option Operand} (h:(x.map ρ).isNone=true):x=none:=by cases x with | none=>rfl | some y=>cases h
theorem isSome_map {x:Option Operand} (h:(x.map ρ).isSome=true):∃y,x=some y:=by cases x with | none=>cases h | some y=>exact ⟨y,rfl⟩
theorem u0 {S:Hp} {T E':TypeId} {x:Operand} {lo hi mx:Option Operand} {z l n d:Nat} {pv pw:A} (ho:o.op = .slice T x lo hi mx) (hT:P.underlying T=some (.slice E')) (hE:gR P E' z) (z4:Bd ρ 0 lo l) (z5:Bd ρ d hi n) (h1:l≤n)
  (hr:∀g w v,Inv g S w→V g (ρ x) v→∃ad cap,v = .slice ad d cap∧n≤cap∧(mx=none→V g pv (uQ ad z l n cap))∧(mx=hi→V g pw (uQ ad z l n n))):(mx=none→gY P o ρ S S pv)∧(mx=hi→hi≠none→gY P o ρ S S pw):=
 ⟨fun hm=>by
  subst hm
  exact GL ho hT hE z4 h1 (fun g w v hI hv=>let ⟨ad,cap,k1,k2,k3,_⟩:=hr g w v hI hv;⟨ad,d,cap,k1,z5,k2,k3 rfl⟩),
 fun hm hn=>by
  subst hm
  cases QI:mx with
  | none=>exact absurd QI hn
  | some y=>
   subst QI
   exact vI (hi:=y) (mx:=y) ho hT hE z4 z5 z5 h1 (Nat.le_refl _) (fun g w v hI hv=>let ⟨ad,cap,k1,k2,_,k4⟩:=hr g w v hI hv;⟨ad,d,cap,k1,k2,k4 rfl⟩)⟩
theorem yI (hE:dq P E) {T:Nat} {x:Operand} {lo hi mx:Option Operand} {same:Bool} (ho:o.op = .slice T x lo hi mx) (hs:same=true→mx=hi) (hr:It E T (ρ x) (lo.map ρ) (hi.map ρ) (mx.map ρ) same h K=some r):Out P o ρ h K r:=by
 have hd:∀c,o.op≠.defer c:=by rw [ho];intro c e;cases e
 unfold It at hr
 split at hr
 ·rename_i el _ _ _ _ _ _ ht
  have hT:=(hE.fO _ _ ht).u
  split at hr
  ·rename_i e he
   have hz:=(hE.fO _ _ he).ti.size
   have fin:∀{T':List Nat} {pv pw:A} {Sx:Hp→Prop},(∀S2,bO (.rd T') (hp h) S2→(mx=none→gY P o ρ S2 S2 pv)∧(mx=hi→hi≠none→gY P o ρ S2 S2 pw))→(match mx.map ρ with | none=>K pv h (.rd T') | some _=>bif same && (hi.map ρ).isSome then K pw h (.rd T') else none)=some r→Out P o ρ h K r:=fun {T' pv pw Sx} k hr=>by
    cases hm:mx with
    | none=>
     rw [hm] at hr
     exact .read _ hr (fun S2 hA=>(k S2 hA).1 hm) hd
    | some y=>
     rw [hm] at hr
     obtain ⟨h1,hr⟩:=ae hr
     simp only [zC] at h1
     obtain ⟨y',rn⟩:=isSome_map h1.2
     exact .read _ hr (fun S2 hA=>(k S2 hA).2 (hs h1.1) (by rw [rn];intro h;cases h)) hd
   split at hr
   ·rename_i hx
    obtain ⟨l,hr,z4⟩:=mD hr
    obtain ⟨n,hr,z5⟩:=mD hr
    obtain ⟨h1,hr⟩:=cH hr
    obtain ⟨h2,hr⟩:=cH hr
    have h1:l≤n:=h1
    have h2:n≤0:=h2
    have hn:n=0:=by omega
    have hl:l=0:=by omega
    subst hn hl
    exact fin (T':=[]) (Sx:=fun _=>True) (fun S2 _=>u0 (pw:=.e0) ho hT hz z4 z5 h1 (fun g w v hI hv=>by
     rw [hx] at hv
     cases hv with
     | e0 ad=>exact ⟨ad,0,rfl,Nat.le_refl _,fun _=>.e0 _,fun _=>.e0 _⟩)) hr
   ·rename_i t f x' hx
    obtain ⟨hq,hr⟩:=ae hr
    have hq:=beq_eq hq
    obtain ⟨l,hr,z4⟩:=mD hr
    obtain ⟨n,hr,z5⟩:=mD hr
    obtain ⟨h1,hr⟩:=cH hr
    obtain ⟨h2,hr⟩:=cH hr
    have h1:l≤n:=h1
    have h2:n≤x'.length:=h2
    refine fin (T':=[]) (Sx:=fun _=>True) (fun S2 _=>u0 ho hT hz z4 z5 h1 (fun g w v hI hv=>?_)) hr
    rw [hx] at hv
    obtain ⟨ad,cap,k1,k2,k3,_⟩:=hv.Dc (f':=f && (hi.map ρ).isNone) h1 h2
    refine ⟨ad,cap,k1,by omega,fun hm=>?_,fun _=>?_⟩
    ·obtain ⟨ad',ahK,j1,j2,j3,j4⟩:=hv.Dc (f':=f && (hi.map ρ).isNone) h1 h2
     rw [k1] at j1;cases j1
     rw [hq]
     refine j4 cap (by omega) (Nat.le_refl _) (fun hf=>?_)
     simp only [zC] at hf
     have hh:=isNone_map hf.2
     subst hh
     have:n=len x':=z5
     rw [k3 hf.1,this];rfl
    ·obtain ⟨ad',ahK,j1,j2,j3,j4⟩:=hv.Dc (f':=true) h1 h2
     rw [k1] at j1;cases j1
     rw [hq]
     exact j4 n (Nat.le_refl _) (by omega) (fun _=>rfl)
   ·rename_i X z hx
    obtain ⟨t,x',hr,hX,fN⟩:=gK hr
    obtain ⟨hq,hr⟩:=ae hr
    simp only [zC] at hq
    have hq1:=beq_eq hq.1.1
    have Hg:=beq_eq hq.1.2
    have h0:=bW hq.2
    obtain ⟨l,hr,z4⟩:=mD hr
    obtain ⟨n,hr,z5⟩:=mD hr
    obtain ⟨h1,hr⟩:=cH hr
    obtain ⟨h2,hr⟩:=cH hr
    have h1:l≤n:=h1
    have h2:n≤x'.length:=h2
    refine fin (T':=[lf X]) (Sx:=fun _=>True) (fun S2 hA=>u0 ho hT hz z4 z5 h1 (fun g w v hI hv=>?_)) hr
    have gh:=(hA _ (cJ hX (.head _))).1.trans fN
    rw [hx,Hg] at hv
    obtain ⟨ad,cap,k1,k2,k3,k4⟩:=hv.Pt hI (by omega) gh h1 h2
    rw [←Hg] at k3 k4
    rw [←hq1]
    exact ⟨ad,cap,k1,by omega,fun _=>k3,fun _=>k4⟩
   ·rename_i X z off m hx
    obtain ⟨t,x',hr,hX,fN⟩:=gK hr
    obtain ⟨hq,hr⟩:=ae hr
    simp only [zC] at hq
    have hq1:=beq_eq hq.1.1
    have Hg:=beq_eq hq.1.2
    have h0:=bW hq.2
    obtain ⟨l,hr,z4⟩:=mD hr
    obtain ⟨n,hr,z5⟩:=mD hr
    obtain ⟨h1,hr⟩:=cH hr
    obtain ⟨h2,hr⟩:=cH hr
    have h1:l≤n:=h1
    have h2:off+n≤x'.length:=h2
    refine fin (T':=[lf X]) (Sx:=fun _=>True) (fun S2 hA=>u0 ho hT hz z4 z5 h1 (fun g w v hI hv=>?_)) hr
    have gh:=(hA _ (cJ hX (.head _))).1.trans fN
    rw [hx,Hg] at hv
    obtain ⟨ad,cap,k1,k2,k3,k4⟩:=hv.WV hI (by omega) gh h1 h2
    rw [←Hg] at k3 k4
    rw [←hq1]
    exact ⟨ad,cap,k1,k2,fun _=>k3,fun _=>k4⟩
   ·cases hr
  ·cases hr
 ·rename_i n el _ _ _ _ _ _ ht
  have hT:=(hE.fO _ _ ht).u
  split at hr
  ·rename_i e he
   have hz:=(hE.fO _ _ he).ti.size
   obtain ⟨h1,AG⟩:=ae hr
   clear hr
   simp only [zC] at h1
   have e1:=isNone_map h1.1.1.1
   have e2:=isNone_map h1.1.1.2
   have e3:=isNone_map h1.1.2
   have hn:=Nat.le_of_ble_eq_true h1.2
   clear h1
   subst e1 e2 e3
   split at AG
   ·rename_i X π hx
    exact .pure AG (fun S2=>qJ ho hT ⟨_,hz⟩ (fun g w v hI hv=>by
     rw [hx] at hv
     cases hv with
     | tp _ _ b s cV hk=>exact ⟨b,_,rfl,.aa X π n e.size b n s cV hk (Nat.le_refl _) (by unfold maxLen;omega)⟩)) hd
   ·rename_i q off hx
    split at AG
    ·rename_i cs hg
     obtain ⟨h2,AG⟩:=ae AG
     simp only [zC] at h2
     have hq:=bW h2.1
     have h3:=Nat.le_of_ble_eq_true h2.2
     have fN:(hp h).ob q=some (.cells cs):=by rw [mv hq];unfold iG;rw [hg];rfl
     exact .read _ AG (fun S2 hA=>qJ ho hT ⟨_,hz⟩ (fun g w v hI hv=>by
      rw [hx] at hv
      cases hv with
      | ptr _ _ b s cV=>
       have hs:s.1=cs.length:=by
        rcases hI.cells _ _ ((hA q (aL hq (.head _))).1.trans fN) with ⟨k1,_⟩ | ⟨b',Md,k1,_⟩
        ·rw [k1] at cV;cases cV
        rw [k1] at cV
        simp only [zI,zU] at cV
        obtain ⟨_,rfl⟩:=cV
        rfl
       exact ⟨b,off,rfl,.sl q off e.size n b n s cV (Nat.le_refl _) (by unfold maxLen;omega) (by rw [hs];exact h3)⟩)) hd
    ·cases AG
   ·cases AG
  ·cases hr
 ·cases hr
end
end
section
open Go.RowKit
section
variable {P:Program} {E:Env} {o:Oper} {ρ:Operand→A} {h:H} {β:Type} {K:A→H→Fp→Option β} {r:β}
theorem Step.put {h1:H} {X:Ref} {x:Ob} {T1:List Nat} {pv:A} (hd:∀c,o.op≠.defer c) (hX:GW X=true) (k2:CQ h h1 X x) (GI:∀(g:G) (S:Hp) (w:World) (a:Act),Inv g S w→(∀x∈o.op.operands,V g (ρ x) (a.eval x))→g.ck X.id≠none)
  (k:∀S2,bO (.pt (lf X) T1) (hp h) S2→gY P o ρ S2 (S2.set X.id x) pv):Step P o ρ h h1 (.pt (lf X) T1) pv where
 out:=fun i hi=>k2.1 i (by
  have hi:(false || (lf X::T1).any (Nat.beq (res i)))=false:=hi
  rw [List.any_cons,Bool.or_eq_false_iff,Bool.or_eq_false_iff] at hi
  show (false || [lf X].any (Nat.beq (res i)))=false
  rw [List.any_cons,hi.2.1];rfl)
 rd:=fun i hi=>k2.1 i (by simpa [wt,aR,Fp.pt,Fp.wr] using hi)
 ok:=fun S2 hA=>by
  refine gY.RP (gY.ck fun g w a hI hv=>?_) hd
  have hT1:aR (.pt (lf X) T1) X.id=true:=cJ hX (.head _)
  have LS:¬(hp h).fr X.id:=fun hf=>GI g S2 w a hI hv (hI.fresh _ ((hA _ hT1).2.2 hf))
  rw [k2.2 LS,lY (fun u hu=>by rcases zF.1 hu with rfl;exact hT1) hA]
  exact k S2 hA
theorem V.atw {g:G} {X:Ref} {z:Nat} {v:Value} (hv:V g (.tw X z) v):g.ck X.id≠none:=by cases hv<;>simp_all
theorem V.ats {g:G} {X:Ref} {z off n:Nat} {v:Value} (hv:V g (.ts X z off n) v):g.ck X.id≠none:=by cases hv<;>simp_all
def K9 (E:Env) (T:Nat) (px py:A) (h:H) (K:A→H→Fp→Option β):Option β:=match DQ E T with
 | some el=>match dA E.fO el with
  | some e=>match e.t,px with
   | some t,.tw X z=>bif Nat.blt 0 e.size then Gj h t py (fun l T1=>lg h X (fun t' l0=>match iJ (.cN t') (.cN t) l0 with
    | some l0=>bif Nat.beq z e.size then gd (bn 0 (len (α:=t.T) l0)) (gd (dD (len l) (len (α:=t.T) l0)) (vE h X t (cat l (dr (α:=t.T) (len l) l0)) (fun h1=>K (.v (.int .i64 (zN (len l)))) h1 (.pt (lf X) T1)))) else none
    | none=>none)) else none
   | _,_=>none
  | none=>none
 | none=>none
theorem K8 (hE:dq P E) {T T':Nat} {x y:Operand} (ho:o.op = .call { callee:=.builtin .copy,args:=#[x,y],argTypes:=#[T,T'] }) (hr:K9 E T (ρ x) (ρ y) h K=some r):Out P o ρ h K r:=by
 have hd:∀c,o.op≠.defer c:=by rw [ho];intro c e;cases e
 unfold K9 at hr
 split at hr
 ·rename_i el he
  split at hr
  ·rename_i e ht
   have hk:=hE.fO _ _ ht
   split at hr
   ·rename_i t X z C1 hx
    have pG:=hk.ts t C1
    obtain ⟨h0,hr⟩:=ae hr
    have h0:=bW h0
    obtain ⟨l,T1,hr,zw⟩:=EL hr
    obtain ⟨t',l0,hr,hX,fN⟩:=gK hr
    split at hr
    ·rename_i l0' hl
     obtain ⟨e',rfl⟩:=dz hl
     cases e'
     obtain ⟨hz,hr⟩:=ae hr
     have hz:=beq_eq hz
     obtain ⟨h1,hr⟩:=cH hr
     have h1:0<l0.length:=h1
     obtain ⟨h2,hr⟩:=cH hr
     have h2:l.length≤l0.length:=h2
     obtain ⟨h',k1,k2⟩:=qf hX hr
     refine ⟨_,_,_,k1,.put hd hX k2 (fun g S w a hI hv=>?_) (fun S2 hA=>?_)⟩
     ·have hv:=hv x (by simp [ho,Op.operands,Call.operands])
      rw [hx] at hv
      exact hv.atw
     ·have gh:=(hA _ (cJ hX (.head _))).1.trans fN
      have:=Jk (P:=P) (ρ:=ρ) (n:=l0.length) (m:=l.length) (off:=0) (z:=e.size) ho (sD hE he) hk.ti.size (fun g w v hI hv=>by
       rw [hx,hz,←pG] at hv
       rcases hv.uh hI (by rw [pG];exact h0) gh with ⟨ad,_,rfl,rfl⟩ | ⟨b,s,cap,d,cV,rfl,k2,k3,k4,k5⟩
       ·simp at h1
       ·exact ⟨b,s,cap,d,cV,rfl,fun _=>k2 (by omega)⟩) gh (by rw [bV,pG];omega) (by have:=zw S2 (hA.mono fun i hi=>.tail _ hi);rwa [pG] at this) h2
      have e2:put (l0.flatMap (aJ t)) 0 (l.flatMap (aJ t))=(cat l (dr (len l) l0)).flatMap (aJ t):=by
       rw [lM,Ab]
       unfold put
       rw [bV,List.take_zero,List.nil_append,Nat.zero_add];rfl
      rw [e2] at this
      exact this
    ·cases hr
   ·cases hr
  ·cases hr
 ·cases hr
def Tf (E:Env) (T:Nat) (px:A) (h:H) (K:A→H→Fp→Option β):Option β:=match DQ E T with
 | some el=>match dA E.fO el with
  | some e=>match e.t,px with
   | some t,.ts X z off n=>bif Nat.blt 0 e.size then lg h X (fun t' l0=>match iJ (.cN t') (.cN t) l0 with
    | some l0=>bif Nat.beq z e.size then gd (bn 0 n) (vE h X t (cat (tk (α:=t.T) off l0) (cat (rep n t.dS) (dr (α:=t.T) (aY off n) l0))) (fun h1=>K .dN h1 (.wr [lf X]))) else none
    | none=>none) else none
   | _,_=>none
  | none=>none
 | none=>none
theorem N8 (hE:dq P E) {T:Nat} {x:Operand} (ho:o.op = .call { callee:=.builtin .clear,args:=#[x],argTypes:=#[T] }) (hr:Tf E T (ρ x) h K=some r):Out P o ρ h K r:=by
 have hd:∀c,o.op≠.defer c:=by rw [ho];intro c e;cases e
 unfold Tf at hr
 split at hr
 ·rename_i el he
  split at hr
  ·rename_i e ht
   have hk:=hE.fO _ _ ht
   split at hr
   ·rename_i t X z off n C1 hx
    have pG:=hk.ts t C1
    obtain ⟨h0,hr⟩:=ae hr
    have h0:=bW h0
    obtain ⟨t',l0,hr,hX,fN⟩:=gK hr
    split at hr
    ·rename_i l0' hl
     obtain ⟨e',rfl⟩:=dz hl
     cases e'
     obtain ⟨hz,hr⟩:=ae hr
     have hz:=beq_eq hz
     obtain ⟨h1,hr⟩:=cH hr
     have h1:0<n:=h1
     obtain ⟨h',k1,k2⟩:=qf hX hr
     refine ⟨_,_,_,k1,.put hd hX k2 (fun g S w a hI hv=>?_) (fun S2 hA=>gY.ck fun g0 w0 a0 ZK zt=>?_)⟩
     ·have hv:=hv x (by simp [ho,Op.operands,Call.operands])
      rw [hx] at hv
      exact hv.ats
     ·have gh:=(hA _ (cJ hX (.head _))).1.trans fN
      have hle:off+n≤l0.length:=by
       have hv:=zt x (by simp [ho,Op.operands,Call.operands])
       rw [hx,hz,←pG] at hv
       exact xI ZK (by rw [pG];exact h0) gh hv
      have:=GQ (P:=P) (ρ:=ρ) (n:=n) (off:=off*e.size) (z:=e.size) ho (sD hE he) hk.ti h0 (hk.tz t C1) (fun g w v hI hv=>by
       rw [hx,hz] at hv
       cases hv with
       | xJ _ _ _ _ _ _ hn=>omega
       | ts _ _ _ _ b cap s cV hn _ _ _ d qC=>exact ⟨b,s,cap,d,cV,rfl,fun _=>qC (by omega)⟩) h1 gh (by rw [bV,pG,←Nat.add_mul];exact zW _ hle)
      have e2:put (l0.flatMap (aJ t)) (off*e.size) (tG n (aJ t t.dS))=(cat (tk off l0) (cat (rep n t.dS) (dr (aY off n) l0))).flatMap (aJ t):=by
       rw [lM,lM,Aa,Ab,Bj,pG]
       unfold put
       rw [mj,cU,pG,←Nat.add_mul];rfl
      rw [e2] at this
      exact this
    ·cases hr
   ·cases hr
  ·cases hr
 ·cases hr
def Ua (mx:Bool) (px py:A) (h:H) (K:A→H→Fp→Option β):Option β:=match px,py with
 | .v (.int k m),.v (.int k' n)=>if k=k' then K (.v (.int k (bif mx then imax m n else Zb m n))) h .no else none
 | _,_=>none
theorem M7 {Ts:Array TypeId} {x y:Operand} (ho:o.op = .call { callee:=.builtin .max,args:=#[x,y],argTypes:=Ts }) (hr:Ua true (ρ x) (ρ y) h K=some r):Out P o ρ h K r:=by
 unfold Ua at hr
 split at hr
 ·rename_i k m k' n hx hy
  split at hr
  ·rename_i hk;subst hk
   exact .pure hr (fun S2=>MN ho hx hy) (by rw [ho];intro c e;cases e)
  ·cases hr
 ·cases hr
theorem M6 {Ts:Array TypeId} {x y:Operand} (ho:o.op = .call { callee:=.builtin .min,args:=#[x,y],argTypes:=Ts }) (hr:Ua false (ρ x) (ρ y) h K=some r):Out P o ρ h K r:=by
 unfold Ua at hr
 split at hr
 ·rename_i k m k' n hx hy
  split at hr
  ·rename_i hk;subst hk
   exact .pure hr (fun S2=>MM ho hx hy) (by rw [ho];intro c e;cases e)
  ·cases hr
 ·cases hr
def Y4 (f:FuncId) (fi ca:List A) (h:H) (K:A→H→Fp→Option β):Option β:=K (.fn f fi ca) h .no
theorem M9 {f:FuncId} {fi ca:Array Operand} (ho:o.op = .makeFunc (.func f) fi ca) (hr:Y4 f (fi.toList.map ρ) (ca.toList.map ρ) h K=some r):Out P o ρ h K r:=
 .pure hr (fun S2=>y8 ho) (by rw [ho];intro c e;cases e)
end
end
section
open Go.RowKit
section
variable {P:Program} {E:Env} {o:Oper} {ρ:Operand→A} {S:Hp}
def G4 (es:List (A×A)) (n:Nat) (v:A):List (A×A):=es.modify n fun e=>(e.1,v)
theorem Ji (hE:dq P E) {T K T2:Nat} {X:Ref} {x y z:Operand} {e:dP} {es:List (A×A)} {vz:A} {n:Nat} {old:A} (ho:o.op = .mapUpdate T x y z) (hT:P.underlying T=some (.map K T2)) (he:dA E.fO K=some e) (ht:oN E e.d=true) {b:Bool} (hs:lL E K e.d (ρ y) (ρ y)=some b)
  (hx:ρ x = .mp X) (hm:S.ob X.id=some (.eL (.map es))) (Uf:∀g v,V g (ρ z) v→V g vz v) (hr:nB (lL E K e.d (ρ y)) es 0=some (some (n,old)))
  (aeT:∀g v q v',es[n]?=some q→V g (ρ y) v→V g q.1 v'→v'=v∧Instr.sameBits 10000 v v=true):gY P o ρ S (S.set X.id (.eL (.map (G4 es n vz)))) .dN:=by
 intro g w a next Q hI hv K'
 have e1:=hx▸hv x (by simp [ho,Op.operands])
 have e2:=hv y (by simp [ho,Op.operands])
 have e3:=hv z (by simp [ho,Op.operands])
 obtain ⟨H6,s,lT,clock,h1,h2,h3,h4⟩:=e1.zi hI hm
 have hc:=qu hE w false he ht hs e2
 rcases h4.find (w:=w) hE he e2 hr with ⟨hh,_⟩ | ⟨n',p,x',hh,sE,_,hn,hf⟩
 ·cases hh
 cases hh
 obtain ⟨q,hq⟩:∃q,es[n]?=some q:=⟨_,zD hn⟩
 obtain ⟨k1,k2⟩:=aeT g _ q _ hq e2 (h4.2 n x' q sE hq).1
 have Km:wV g (lT.modify n fun e=>{ e with key:=a.eval y,val:=a.eval z }) (G4 es n vz):=by
  refine ⟨by simp [G4,h4.1],fun m c r hy hz=>?_⟩
  unfold G4 at hz
  rw [List.getElem?_modify] at hz
  rw [Array.getElem?_modify] at hy
  by_cases hmn:n=m
  ·subst hmn
   simp only [if_true,sE,hq,Option.map_some,Option.map_eq_map,zI] at hy hz
   subst hy hz
   exact ⟨by rw [←k1];exact (h4.2 n x' q sE hq).1,Uf _ _ e3⟩
  ·simp only [if_neg hmn,Option.map_eq_map,Option.map_id'] at hy hz
   exact h4.2 m c r hy hz
 obtain ⟨q1,q2⟩:=hI.yJ (pQ:=clock) hm h2 h3 Km
 have Fz:(Instr.keyThatStays (((lT[n]?).map (·.key)).getD (a.eval y)) (a.eval y)).run P w = .ok (a.eval y) w:=by
  rw [sE]
  simp only [Option.map_some,Option.getD_some,k1]
  simp [Instr.keyThatStays,k2]
 have jb:(Instr.mapUpdate T (.map (some H6)) (a.eval y) (a.eval z)).run P w = .ok () { w with heap:=w.heap.setIfInBounds H6 (.map (lT.modify n fun e=>{ e with key:=a.eval y,val:=a.eval z }) clock) }:=by
  simp only [Instr.mapUpdate,Sem.run_bind,run_underlying hT,Result.andThen_ok,MapKept.run_getObj_map h3,hc,hf,Fz,MapKept.run_setObj_map _ h3]
 unfold Oper.wp
 simp only [execOp,ho,h1,Sem.run_bind,jb,Result.andThen_ok,Sem.run_pure]
 exact K' _ g _ (.dN _) q1 q2
end
def yo {β:Type} (f:A→Option Bool):List (A×A)→Nat→(Option (Nat×A)→Option β)→Option β
 | [],_,K=>K none
 | (k,v)::r,i,K=>match f k with
  | some b=>br b (K (some (i,v))) (yo f r (i+1) K)
  | none=>none
theorem sQ {β:Type} {f:A→Option Bool} {r:β}:∀(es:List (A×A)) (i:Nat) (K:Option (Nat×A)→Option β),yo f es i K=some r→∃x,K x=some r∧nB f es i=some x
 | [],i,K,h=>⟨none,h,rfl⟩
 | (k,v)::es,i,K,h=>by
  unfold yo at h
  split at h
  ·rename_i b hb
   rcases t_ h with ⟨rfl,h1⟩ | ⟨rfl,h1⟩
   ·exact ⟨_,h1,by unfold nB;rw [hb]⟩
   ·obtain ⟨x,k1,k2⟩:=sQ es (i+1) K h1
    exact ⟨x,k1,by unfold nB;rw [hb];exact k2⟩
  ·cases h
def nf:(t:Ty)→t.T→t.T→Bool
 | .int _,x,y=>aj x y
 | .pair a b,x,y=>nf a x.1 y.1 && nf b x.2 y.2
 | _,_,_=>false
def oV {κ α:Type} (p:κ→Bool):List (κ×α)→Nat→Option (Nat×α)
 | [],_=>none
 | (k,v)::r,i=>bif p k then some (i,v) else oV p r (i+1)
def Jx {κ α:Type} (l:List (κ×α)) (n:Nat) (v:α):List (κ×α):=l.modify n fun e=>(e.1,v)
def JD {κ α:Type} (l:List (κ×α)) (n:Nat):List (κ×α):=l.eraseIdx n
def pE (E:Env) (T:Nat) (k:IntKind):Bool:=match dA E.fO T with
 | some ⟨.int k',1,_,_,_,_,_⟩=>if k'=k then true else false
 | _=>false
def dt (E:Env):List Field→Nat→Ty→Bool
 | [fd],i,.int k=>Nat.beq fd.offset i && pE E fd.type k
 | fd::fs,i,.pair (.int k) t=>Nat.beq fd.offset i && pE E fd.type k && dt E fs (i+1) t
 | _,_,_=>false
def JL (E:Env) (K:Nat) (e:dP) (ka:Bool) (t:Ty):Bool:=match e.d with
 | .int k=>!ka && (match t with
  | .int k'=>if k'=k then true else false
  | _=>false)
 | .struct fs=>ka && E.eqs.any (Nat.beq K) && dt E fs.toList 0 t
 | _=>false
theorem tN {E:Env} {T:Nat} {k:IntKind} (h:pE E T k=true):∃e,dA E.fO T=some e∧e.d = .int k∧e.size=1:=by
 unfold pE at h
 split at h
 ·rename_i k' _ _ _ _ _ ht
  split at h
  ·rename_i hk;subst hk;exact ⟨_,ht,rfl,rfl⟩
  ·cases h
 ·cases h
theorem FN {E:Env} {T:Nat} {k:IntKind} {m n:Int} (h:pE E T k=true) (f:Nat):AO E (f+1) T [.v (.int k m)] [.v (.int k n)]=some (aj m n):=by
 obtain ⟨e,h1,h2,_⟩:=tN h
 unfold AO
 rw [h1]
 simp only [h2,if_true]
theorem Fk {E:Env} (f:Nat):∀(fs:List Field) (i:Nat) (t:Ty),dt E fs i t=true→∀(p q:List A) (x y:t.T),p.length=i→q.length=i→N1 E (AO E (f+1)) fs (p++aJ t x) (q++aJ t y)=some (nf t x y)
 | [],_,_,h=>by simp [dt] at h
 | [fd],i,.int k,h=>fun p q x y hp hq=>by
  simp only [dt,zC] at h
  have h1:=beq_eq h.1
  obtain ⟨e,e1,e2,e3⟩:=tN h.2
  unfold N1
  rw [e1]
  simp only [e3,h1]
  rw [←hp,List.drop_left,hp,←hq,List.drop_left]
  have:=FN (m:=x) (n:=y) h.2 f
  simp only [aJ,List.take_succ_cons,List.take_zero,this,N1]
  simp [nf,oH]
 | fd::fs,i,.pair (.int k) t,h=>fun p q x y hp hq=>by
  have h:(Nat.beq fd.offset i && pE E fd.type k && dt E fs (i+1) t)=true:=by
   cases fs<;>exact h
  simp only [zC] at h
  have h1:=beq_eq h.1.1
  obtain ⟨e,e1,e2,e3⟩:=tN h.1.2
  unfold N1
  rw [e1]
  simp only [e3,h1]
  have ih:=Fk f fs (i+1) t h.2 (p++[A.v (.int k x.1)]) (q++[A.v (.int k y.1)]) x.2 y.2 (by simp [hp]) (by simp [hq])
  have ex:∀(p:List A) (x:(Ty.pair (.int k) t).T),p++aJ (.pair (.int k) t) x=p++[A.v (.int k x.1)]++aJ t x.2:=fun p x=>by
   show p++([A.v (.int k x.1)]++aJ t x.2)=_
   rw [List.append_assoc]
  rw [ex,ex,ih]
  have hd1:((p++[A.v (.int k x.1)]++aJ t x.2).drop i).take 1=[A.v (.int k x.1)]:=by rw [←hp,List.append_assoc,List.drop_left];rfl
  have hd2:((q++[A.v (.int k y.1)]++aJ t y.2).drop i).take 1=[A.v (.int k y.1)]:=by rw [←hq,List.append_assoc,List.drop_left];rfl
  rw [hd1,hd2]
  exact congrArg (fun z:Option Bool=>match z,some (nf t x.2 y.2) with
   | some a,some b=>some (oH a b)
   | _,_=>none) (FN (m:=x.1) (n:=y.1) h.1.2 f)
 | [_],_,.bool,h=>by simp [dt] at h
 | _::_::_,_,.bool,h=>by simp [dt] at h
 | _::_::_,_,.int _,h=>by simp [dt] at h
 | _::_,_,.unit,h=>by simp [dt] at h
 | _::_,_,.pair .bool _,h=>by simp [dt] at h
 | _::_,_,.pair .unit _,h=>by simp [dt] at h
 | _::_,_,.pair (.pair _ _) _,h=>by simp [dt] at h
 | _::_,_,.pair (.arr _ _) _,h=>by simp [dt] at h
 | _::_,_,.pair (.cN _) _,h=>by simp [dt] at h
 | _::_,_,.pair (.ptr _) _,h=>by simp [dt] at h
 | _::_,_,.pair (.dR _) _,h=>by simp [dt] at h
 | _::_,_,.pair (.kA _ _) _,h=>by simp [dt] at h
 | _::_,_,.pair (.td _ _) _,h=>by simp [dt] at h
 | _::_,_,.pair (.mp _) _,h=>by simp [dt] at h
 | _::_,_,.arr _ _,h=>by simp [dt] at h
 | _::_,_,.cN _,h=>by simp [dt] at h
 | _::_,_,.ptr _,h=>by simp [dt] at h
 | _::_,_,.dR _,h=>by simp [dt] at h
 | _::_,_,.kA _ _,h=>by simp [dt] at h
 | _::_,_,.td _ _,h=>by simp [dt] at h
 | _::_,_,.mp _,h=>by simp [dt] at h
theorem zm {E:Env} {K:Nat} {e:dP} {ka:Bool} {t:Ty} (he:dA E.fO K=some e) (h:JL E K e ka t=true) (x y:t.T):lL E K e.d (df ka t x) (df ka t y)=some (nf t x y):=by
 unfold JL at h
 split at h
 ·rename_i k hd
  cases ka with
  | true=>simp at h
  | false=>
   simp only [Bool.not_false,Bool.true_and] at h
   split at h
   ·split at h
    ·rename_i k' hk
     subst hk
     unfold lL df
     simp only [hd,cond_false,aJ,if_true]
     rfl
    ·cases h
   ·cases h
 ·rename_i fs hd
  simp only [zC] at h
  obtain ⟨⟨rfl,hq⟩,hs⟩:=h
  have h1:=Fk 0 fs.toList 0 t hs [] [] x y rfl rfl
  simp only [List.nil_append] at h1
  unfold lL df
  simp only [hd,cond_true,kN,Bool.and_self,A.cells]
  show AO E 2 K (aJ t x) (aJ t y)=some (nf t x y)
  unfold AO
  rw [he]
  simp only [hd,hq,cond_true]
  exact h1
 ·cases h
theorem mT {E:Env} {K:Nat} {e:dP} {ka va:Bool} {t tv:Ty} (he:dA E.fO K=some e) (h:JL E K e ka t=true) (x:t.T):∀(es:List (t.T×tv.T)) (i:Nat),
  nB (lL E K e.d (df ka t x)) (es.map fun e=>(df ka t e.1,df va tv e.2)) i=some ((oV (nf t x) es i).map fun p=>(p.1,df va tv p.2))
 | [],i=>rfl
 | (k,v)::es,i=>by
  rw [List.map_cons]
  unfold nB oV
  simp only [zm he h x k]
  cases nf t x k with
  | true=>rfl
  | false=>exact mT he h x es (i+1)
theorem zr {a b:Int} (h:aj a b=true):a=b:=by unfold aj at h;exact of_decide_eq_true h
theorem x_ {E:Env}:∀(fs:List Field) (i:Nat) (t:Ty),dt E fs i t=true→∀x y:t.T,nf t x y=true→x=y
 | [],_,_,h=>by simp [dt] at h
 | [_],_,.int _,_=>fun _ _ e=>zr e
 | fd::fs,i,.pair (.int k) t,h=>fun x y e=>by
  have h:(Nat.beq fd.offset i && pE E fd.type k && dt E fs (i+1) t)=true:=by
   cases fs<;>exact h
  simp only [zC] at h
  have e:(aj x.1 y.1 && nf t x.2 y.2)=true:=e
  simp only [zC] at e
  exact Prod.ext (zr e.1) (x_ fs (i+1) t h.2 _ _ e.2)
 | [_],_,.bool,h=>by simp [dt] at h
 | _::_::_,_,.bool,h=>by simp [dt] at h
 | _::_::_,_,.int _,h=>by simp [dt] at h
 | _::_,_,.unit,h=>by simp [dt] at h
 | _::_,_,.pair .bool _,h=>by simp [dt] at h
 | _::_,_,.pair .unit _,h=>by simp [dt] at h
 | _::_,_,.pair (.pair _ _) _,h=>by simp [dt] at h
 | _::_,_,.pair (.arr _ _) _,h=>by simp [dt] at h
 | _::_,_,.pair (.cN _) _,h=>by simp [dt] at h
 | _::_,_,.pair (.ptr _) _,h=>by simp [dt] at h
 | _::_,_,.pair (.dR _) _,h=>by simp [dt] at h
 | _::_,_,.pair (.kA _ _) _,h=>by simp [dt] at h
 | _::_,_,.pair (.td _ _) _,h=>by simp [dt] at h
 | _::_,_,.pair (.mp _) _,h=>by simp [dt] at h
 | _::_,_,.arr _ _,h=>by simp [dt] at h
 | _::_,_,.cN _,h=>by simp [dt] at h
 | _::_,_,.ptr _,h=>by simp [dt] at h
 | _::_,_,.dR _,h=>by simp [dt] at h
 | _::_,_,.kA _ _,h=>by simp [dt] at h
 | _::_,_,.td _ _,h=>by simp [dt] at h
 | _::_,_,.mp _,h=>by simp [dt] at h
theorem Dl (n:Nat) (k:IntKind) (m:Int):Instr.sameBits n (.int k m) (.int k m)=true:=by cases n<;>simp [Instr.sameBits]
theorem ya {E:Env}:∀(fs:List Field) (i:Nat) (t:Ty),dt E fs i t=true→∀(x:t.T) (g:G) (vs:List Value),Vs g (aJ t x) vs→(∀g' Mc,Vs g' (aJ t x) Mc→Mc=vs)∧∀n,((vs.zip vs).all fun (a,b)=>Instr.sameBits n a b)=true
 | [],_,_,h=>by simp [dt] at h
 | [_],_,.int k,_=>fun x g vs hv=>by
  obtain ⟨v,rfl,h1,_⟩:=Vs.qA (show Vs g [.v (.int k x)] vs from hv)
  cases h1
  refine ⟨fun g' Mc C0=>?_,fun n=>?_⟩
  ·obtain ⟨v',rfl,NJ,_⟩:=Vs.qA (show Vs g' [.v (.int k x)] Mc from C0)
   cases NJ;rfl
  ·exact (Bool.and_true _).trans (Dl n k x)
 | fd::fs,i,.pair (.int k) t,h=>fun x g vs hv=>by
  have h:(Nat.beq fd.offset i && pE E fd.type k && dt E fs (i+1) t)=true:=by
   cases fs<;>exact h
  simp only [zC] at h
  obtain ⟨v1,v2⟩:=Vs.split (show Vs g (aJ (.int k) x.1++aJ t x.2) vs from hv)
  obtain ⟨r1,r2⟩:=ya fs (i+1) t h.2 x.2 g _ v2
  obtain ⟨v,e1,h1,_⟩:=Vs.qA (show Vs g [.v (.int k x.1)] _ from v1)
  cases h1
  have CZ:vs=Value.int k x.1::vs.drop (aJ (.int k) x.1).length:=by
   have:=zP (aJ (.int k) x.1).length vs
   rw [e1] at this
   exact this.symm
  refine ⟨fun g' Mc C0=>?_,fun n=>?_⟩
  ·obtain ⟨v1',v2'⟩:=Vs.split (show Vs g' (aJ (.int k) x.1++aJ t x.2) Mc from C0)
   obtain ⟨v',e1',NJ,_⟩:=Vs.qA (show Vs g' [.v (.int k x.1)] _ from v1')
   cases NJ
   have aes:Mc=Value.int k x.1::Mc.drop (aJ (.int k) x.1).length:=by
    have:=zP (aJ (.int k) x.1).length Mc
    rw [e1'] at this
    exact this.symm
   rw [aes,CZ,r1 _ _ v2']
  ·rw [CZ,List.zip_cons_cons,List.all_cons,r2 n]
   exact (Bool.and_true _).trans (Dl n k x.1)
 | [_],_,.bool,h=>by simp [dt] at h
 | _::_::_,_,.bool,h=>by simp [dt] at h
 | _::_::_,_,.int _,h=>by simp [dt] at h
 | _::_,_,.unit,h=>by simp [dt] at h
 | _::_,_,.pair .bool _,h=>by simp [dt] at h
 | _::_,_,.pair .unit _,h=>by simp [dt] at h
 | _::_,_,.pair (.pair _ _) _,h=>by simp [dt] at h
 | _::_,_,.pair (.arr _ _) _,h=>by simp [dt] at h
 | _::_,_,.pair (.cN _) _,h=>by simp [dt] at h
 | _::_,_,.pair (.ptr _) _,h=>by simp [dt] at h
 | _::_,_,.pair (.dR _) _,h=>by simp [dt] at h
 | _::_,_,.pair (.kA _ _) _,h=>by simp [dt] at h
 | _::_,_,.pair (.td _ _) _,h=>by simp [dt] at h
 | _::_,_,.pair (.mp _) _,h=>by simp [dt] at h
 | _::_,_,.arr _ _,h=>by simp [dt] at h
 | _::_,_,.cN _,h=>by simp [dt] at h
 | _::_,_,.ptr _,h=>by simp [dt] at h
 | _::_,_,.dR _,h=>by simp [dt] at h
 | _::_,_,.kA _ _,h=>by simp [dt] at h
 | _::_,_,.td _ _,h=>by simp [dt] at h
 | _::_,_,.mp _,h=>by simp [dt] at h
theorem JK {E:Env} {K:Nat} {e:dP} {ka:Bool} {t:Ty} (h:JL E K e ka t=true) {x y:t.T} (hxy:nf t x y=true) {g:G} {v v':Value} (h1:V g (df ka t x) v) (h2:V g (df ka t y) v'):v'=v∧Instr.sameBits 10000 v v=true:=by
 unfold JL at h
 split at h
 ·rename_i k hd
  cases ka with
  | true=>simp at h
  | false=>
   simp only [Bool.not_false,Bool.true_and] at h
   split at h
   ·split at h
    ·have:=zr hxy
     subst this
     cases h1;cases h2
     exact ⟨rfl,Dl _ _ _⟩
    ·cases h
   ·cases h
 ·rename_i fs hd
  simp only [zC] at h
  obtain ⟨⟨rfl,hq⟩,hs⟩:=h
  have:=x_ _ _ _ hs _ _ hxy
  subst this
  have c1:=h1.cells rfl
  have c2:=h2.cells rfl
  obtain ⟨us,rfl⟩:=h1.CK rfl
  obtain ⟨us',rfl⟩:=h2.CK rfl
  obtain ⟨r1,r2⟩:=ya _ _ _ hs x g _ c1
  have e:=r1 _ _ c2
  have e:us'=us:=Array.ext' e
  subst e
  refine ⟨rfl,?_⟩
  have:=r2 9999
  simp only [Value.cells] at this
  rw [show (10000:Nat)=9999+1 from rfl,Instr.sameBits]
  simp only [this,Bool.and_true,beq_self_eq_true]
 ·cases h
end
section
variable {α β σ ρ:Type}
theorem nK {x:Option α} {f:α→Option β} {a:α} {r:Option β} (h:x=some a) (k:f a=r):bd x f=r:=by rw [h];exact k
theorem CI {x:Option α} {f:α→Option β} {a:α} (h:x=some a):bd x f=f a:=by rw [h];rfl
theorem sh {x:Option α} {n:Option β} {s:α→Option β} {a:α} (h:x=some a):opt x n s=s a:=by rw [h];rfl
theorem uj {x:Option α} {n:Option β} {s:α→Option β} (h:x=none):opt x n s=n:=by rw [h];rfl
theorem BT {f:(σ→Option ρ)→Option ρ} {K:σ→Option ρ} {s:σ} (h:∀k,f k=k s):jn f K=K s:=by rw [cP];exact h K
theorem oG {b:Bool} {x y:Option α} (h:b=true):br b x y=x:=by rw [h];rfl
theorem uR {b:Bool} {x y:Option α} (h:b=false):br b x y=y:=by rw [h];rfl
theorem aZ {a b:Int} {x y:Option α} (h:a<b):br (bz a b) x y=x:=by unfold bz;rw [decide_eq_true h];rfl
theorem a7 {a b:Int} {x y:Option α} (h:¬a<b):br (bz a b) x y=y:=by unfold bz;rw [decide_eq_false h];rfl
theorem a4 {a b:Int} {x y:Option α} (h:a≤b):br (cZ a b) x y=x:=by unfold cZ;rw [decide_eq_true h];rfl
theorem ba {a b:Int} {x y:Option α} (h:¬a≤b):br (cZ a b) x y=y:=by unfold cZ;rw [decide_eq_false h];rfl
theorem ak {a b:Int} {x y:Option α} (h:a=b):br (aj a b) x y=x:=by unfold aj;rw [decide_eq_true h];rfl
theorem ao {a b:Int} {x y:Option α} (h:¬a=b):br (aj a b) x y=y:=by unfold aj;rw [decide_eq_false h];rfl
theorem bZ {a:Int} {x:Option α}:gd (bl a) x=br (cZ 0 a) x none:=by unfold cZ;by_cases h:0≤a<;>simp [gd,bl,h,br]
theorem bY {a b:Nat} {x:Option α}:gd (bn a b) x=br (bz a b) x none:=by unfold bz;by_cases h:a<b<;>simp [gd,bn,h,br]
theorem b7 {a b:Nat} {x:Option α}:gd (dD a b) x=br (cZ a b) x none:=by unfold cZ;by_cases h:a≤b<;>simp [gd,dD,h,br]
theorem b8 {a b:Nat} {x:Option α}:gd (neq a b) x=br (aj a b) x none:=by
 unfold aj
 by_cases h:a=b
 ·simp [gd,neq,h,br]
 ·have h2:¬(a:Int)=b:=by omega
  simp [gd,neq,h,h2,br]
theorem b_ {a b:Int} {x:Option α}:gd (Qy a b) x=br (aj a b) x none:=by unfold aj;by_cases h:a=b<;>simp [gd,Qy,h,br]
theorem b9 {a:Int} {x:Option α}:gd (LL a) x=br (aj a 0) none x:=by unfold aj;by_cases h:a=0<;>simp [gd,LL,h,br]
theorem bJ {b:Bool} {x y:Option α}:br (aH b) x y=br b y x:=by cases b<;>rfl
theorem Ao {a b:Bool} {x y:Option α}:br (oH a b) x y=br a (br b x y) y:=by cases a<;>cases b<;>rfl
theorem wrap_i64 (n:Int):IntKind.i64.wrap n=(n+9223372036854775808)%18446744073709551616-9223372036854775808:=by
 simp [IntKind.wrap,IntKind.bits,IntKind.signed]
 split<;>omega
theorem wrap_u64 (n:Int):IntKind.u64.wrap n=n%18446744073709551616:=by simp [IntKind.wrap,IntKind.bits,IntKind.signed]
theorem aG {a b:Int} (h : -9223372036854775808≤a+b∧a+b≤9223372036854775807):af .i64 a b=a+b:=by unfold af;rw [wrap_i64];omega
theorem aN {a b:Int} (h : -9223372036854775808≤a-b∧a-b≤9223372036854775807):aK .i64 a b=a-b:=by unfold aK;rw [wrap_i64];omega
theorem a5 {a b:Int} (h : -9223372036854775808≤a*b∧a*b≤9223372036854775807):fY .i64 a b=a*b:=by unfold fY;rw [wrap_i64];omega
theorem bP {a:Int} (h : -9223372036854775808≤a∧a≤9223372036854775807):kU .i64 a=a:=by unfold kU;rw [wrap_i64];omega
theorem bU {a:Int} (h:0≤a∧a≤18446744073709551615):kU .u64 a=a:=by unfold kU;rw [wrap_u64];omega
theorem aT {a b:Int} (h:0≤a):dU a b=a%b:=Int.tmod_eq_emod_of_nonneg h
theorem Ri {a b:Int} (h:0≤a):a.tdiv b=a / b:=Int.tdiv_eq_ediv_of_nonneg h
theorem a_ {a b:Int} (h:0≤a∧a≤9223372036854775807∧0<b):iS .i64 a b=a / b:=by
 unfold iS
 rw [Ri h.1,wrap_i64]
 have h1:0≤a / b:=Int.ediv_nonneg h.1 (by omega)
 have h2:a / b≤a:=Int.ediv_le_self b h.1
 omega
theorem cQ (n:Nat):nN (n:Int)=n:=zE n
theorem cF (n:Nat):zN n=(n:Int):=rfl
theorem cM (a:Int):nN a=a.toNat:=rfl
theorem gE {d:α} {l:List α} {i:Nat} (h:i<l.length):nth d l i=l[i]:=by unfold nth;rw [zA,zD h];rfl
theorem bj {d x:α} {l:List α} {i:Nat} (h:l[i]?=some x):nth d l i=x:=by unfold nth;rw [zA,h];rfl
theorem MW {d x:α} {l:List α} {i j:Nat}:nth d (aU l i x) j=if i=j∧j<l.length then x else nth d l j:=by
 unfold nth aU
 rw [zA,zA,List.getElem?_set]
 by_cases h:i=j
 ·subst h
  by_cases h1:i<l.length
  ·simp [h1]
  ·simp [h1]
 ·simp [h]
theorem Ql {l:List (Option (List α))} {j:Nat} {r:List α}:aD l j=some r↔l[j]?=some (some r):=by
 unfold aD
 rw [zA]
 cases h:l[j]? with
 | none=>simp
 | some x=>simp
theorem j5 {l:List (Option (List α))} {j:Nat} {r:List α} (h:aD l j=some r):j<l.length:=(zB.1 (Ql.1 h)).1
theorem uW {l:List (Option (List α))} {i j:Nat} {x:Option (List α)} (h:i<l.length):aD (aU l i x) j=if i=j then x else aD l j:=by
 unfold aD aU
 rw [zA,zA,List.getElem?_set]
 by_cases e:i=j
 ·subst e;simp [h]
 ·simp [e]
theorem aC {l:List (Option (List α))} {j:Nat} {r:List α} {x:Option (List α)} (h:aD l j=some r):aD (aU l j x) j=x:=by rw [uW (j5 h),if_pos rfl]
theorem sn {d x:α} {l:List α} {i:Nat} (h:i<l.length):nth d (aU l i x) i=x:=by rw [MW,if_pos ⟨rfl,h⟩]
theorem mO {l:List (Option (List α))} {j:Nat} {x:Option (List α)}:aD (cat l [x]) j=if j=l.length then x else aD l j:=by
 unfold aD cat
 rw [zA,zA]
 by_cases e:j=l.length
 ·subst e;simp
 ·rw [if_neg e]
  by_cases h1:j<l.length
  ·rw [zK h1]
  ·rw [zb (by simp;omega),zb (by omega)]
theorem MX {d x:α} {l:List α} {j:Nat}:nth d (cat l [x]) j=if j=l.length then x else nth d l j:=by
 unfold nth cat
 rw [zA,zA]
 by_cases e:j=l.length
 ·subst e;simp
 ·rw [if_neg e]
  by_cases h1:j<l.length
  ·rw [zK h1]
  ·rw [zb (by simp;omega),zb (by omega)]
theorem dw {l:List (Option (List α))} {x:Option (List α)}:aD (cat l [x]) l.length=x:=by rw [mO,if_pos rfl]
theorem sq {d x:α} {l:List α}:nth d (cat l [x]) l.length=x:=by rw [MX,if_pos rfl]
theorem fU {n:Nat} {l:List α}:(tk n l).length=min n l.length:=List.length_take
theorem f_ {n:Nat} {l:List α}:(dr n l).length=l.length-n:=List.length_drop
theorem dQ {n:Nat} {x:α}:(rep n x).length=n:=List.length_replicate
theorem dg {d:α} {l:List α} {n:Nat} {x:α}:(aU l n x).length=l.length:=zM
theorem lK {l k:List α}:(cat l k).length=l.length+k.length:=zY
theorem bB (l:List α):len l=l.length:=rfl
theorem KZ {S R B:List α} {i m m' k:Nat} (hi:i<S.length) (hk:k=S.length-(i+1)) (hm:m=i+k) (B1:m'=i+k):tk m (cat (tk m' (cat (tk i S) (cat (tk k (dr (i+1) S)) R))) B)=S.eraseIdx i:=by
 have e1:tk k (dr (i+1) S)=S.drop (i+1):=za (by simp [dr];omega)
 rw [e1]
 unfold tk cat
 have hl:(S.take i++S.drop (i+1)).length=i+k:=by simp;omega
 have h2:List.take m' (List.take i S++(List.drop (i+1) S++R))=List.take i S++List.drop (i+1) S:=by
  rw [←List.append_assoc];exact List.take_left' (hl.trans B1.symm)
 rw [h2]
 exact (List.take_left' (hl.trans hm.symm)).trans (List.eraseIdx_eq_take_drop_succ _ _).symm
def xF (f:(σ→Option α)→σ→Option α) (s:σ) (x:Option α) (k:Nat):Prop:=∀n,k<n→iter f n s=x
theorem xF.stop {f:(σ→Option α)→σ→Option α} {s:σ} {x:Option α} (k:Nat) (h:∀g,f g s=x):xF f s x k:=fun n hn=>by
 cases n with
 | zero=>omega
 | succ n=>exact h _
theorem xF.step {f:(σ→Option α)→σ→Option α} {s s':σ} {x:Option α} {k:Nat} (h:xF f s' x k) (e:∀g:σ→Option α,f g s=g s'):xF f s x (k+1):=fun n hn=>by
 cases n with
 | zero=>omega
 | succ n=>exact (e _).trans (h n (by omega))
theorem xF.loop {f:(σ→Option α)→σ→Option α} {s:σ} {x:Option α} {k:Nat} (h:xF f s x k) (hk:k<lG):Go.Bm.loop f s=x:=by rw [qj];exact h lG hk
theorem x9 {f:(σ→Option α)→σ→Option α} {s:σ}:Go.Bm.loop f s=f (fun s=>f (fun s=>f (iter f 9223372036854775805) s) s) s:=by rw [qj];rfl
theorem dJ {f:(σ→Option α)→σ→Option α} (mk:Nat→σ) (res:Nat→Option α) (N:Nat) (hN:N<lG) (he:∀g,f g (mk N)=res N) (h:∀k,k<N→(∀g,f g (mk k)=res k)∨(res k=res (k+1)∧∀g,f g (mk k)=g (mk (k+1)))):Go.Bm.loop f (mk 0)=res 0:=by
  have key:∀m k:Nat,k+m=N→xF f (mk k) (res k) m:=by
    intro m
    induction m with
    | zero=>
              intro k hk;obtain rfl:k=N:=by omega
              exact .stop 0 he
    | succ m ih=>
      intro k hk
      rcases h k (by omega) with h1 | ⟨h1,h2⟩
      · exact .stop _ h1
      · rw [h1];exact .step (ih (k+1) (by omega)) (fun g=>h2 g)
  exact (key N 0 (by omega)).loop hN
theorem JE {f:(σ→Option α)→σ→Option α} (I:Nat→σ→Prop) (Q:Option α→Prop) (h:∀m s,I m s→(∃x,Q x∧∀g,f g s=x)∨∃m' s',m' < m∧I m' s'∧∀g,f g s=g s') {m:Nat} {s:σ} (hs:I m s) (hm:m<lG):Q (Go.Bm.loop f s):=by
 have key:∀m s,I m s→∃x,Q x∧xF f s x m:=by
  intro m
  induction m using Nat.strongRecOn with
  | _ m ih=>
   intro s hs
   rcases h m s hs with ⟨x,hr,e⟩ | ⟨m',s',hm,hs',e⟩
   ·exact ⟨x,hr,.stop m e⟩
   ·obtain ⟨x,hr,k⟩:=ih m' hm s' hs'
    refine ⟨x,hr,fun n hn=>?_⟩
    cases n with
    | zero=>omega
    | succ n=>exact (e _).trans (k n (by omega))
 obtain ⟨x,hx,k⟩:=key m s hs
 rw [k.loop hm];exact hx
end
theorem bits_mask (a:Int) (j:Nat) (hj:j<63):bits .and .i64 a (2^j-1)=a%2^j:=by
 have h1:(BitVec.ofInt 64 (2^j-1)).toNat=2^j-1:=by
  rw [BitVec.toNat_ofInt]
  have h2:(2:Int)^j<2^64:=by
   have:(2:Nat)^j<2^64:=Nat.pow_lt_pow_right (by omega) (by omega)
   exact_mod_cast this
  have h3:(0:Int)<2^j:=by
   have:0<(2:Nat)^j:=Nat.pow_pos (by omega)
   exact_mod_cast this
  rw [Int.emod_eq_of_lt (by omega) (by simpa using (by omega:(2:Int)^j-1<2^64))]
  have:((2:Int)^j-1)=(((2:Nat)^j-1:Nat):Int):=by
   have:0<(2:Nat)^j:=Nat.pow_pos (by omega)
   rw [Int.natCast_sub (by omega)];simp
  rw [this];simp
 have h4:((BitVec.ofInt 64 a).toNat &&& (2^j-1))=(BitVec.ofInt 64 a).toNat%2^j:=Nat.and_two_pow_sub_one_eq_mod _ _
 have h5:(((BitVec.ofInt 64 a).toNat%2^j:Nat):Int)=a%2^j:=by
  rw [BitVec.toNat_ofInt]
  have hd:(2:Int)^j ∣ 2^64:=⟨2^(64-j),by rw [←Int.pow_add];congr 1;omega⟩
  rw [Int.natCast_emod,Int.toNat_of_nonneg (Int.emod_nonneg _ (by decide))]
  have:=Int.emod_emod_of_dvd a hd
  simpa using this
 have h6:0≤a%2^j:=Int.emod_nonneg _ (by
  have:0<(2:Nat)^j:=Nat.pow_pos (by omega)
  have:(0:Int)<2^j:=by exact_mod_cast this
  omega)
 have h7:a%2^j<9223372036854775808:=by
  have hp:(0:Int)<2^j:=by
   have:0<(2:Nat)^j:=Nat.pow_pos (by omega)
   exact_mod_cast this
  have h8:=Int.emod_lt_of_pos a hp
  have h9:(2:Int)^j≤2^63:=by
   have:(2:Nat)^j≤2^63:=Nat.pow_le_pow_right (by omega) (by omega)
   exact_mod_cast this
  omega
 have C5:(BitVec.ofInt 64 a &&& BitVec.ofInt 64 (2^j-1)).toNat=(BitVec.ofInt 64 a).toNat%2^j:=by rw [BitVec.toNat_and,h1,h4]
 show IntKind.i64.wrap ((BitVec.ofInt 64 a &&& BitVec.ofInt 64 (2^j-1)).toNat:Int)=_
 rw [C5,h5]
 exact (by rw [wrap_i64];omega)
theorem mc {n:Nat} {a:Int} (h0:0≤a) (h1:a<2^n):(BitVec.ofInt n a).toNat=a.toNat:=by
 rw [BitVec.toNat_ofInt,Int.emod_eq_of_lt h0 (by exact_mod_cast h1)]
theorem CG {a b:Int} (ha:0≤a∧a<9223372036854775808) (hb:0≤b∧b<9223372036854775808):bits .or .i64 a b=((a.toNat ||| b.toNat:Nat):Int):=by
 show IntKind.i64.wrap ((BitVec.ofInt 64 a ||| BitVec.ofInt 64 b).toNat:Int)=_
 rw [BitVec.toNat_or,mc ha.1 (by omega),mc hb.1 (by omega)]
 have:a.toNat ||| b.toNat<2^63:=Nat.or_lt_two_pow (by omega) (by omega)
 exact (by rw [wrap_i64];omega)
theorem Jw {a m:Int} (j:Nat) (h0:0≤a) (hm:m=2^j-1):((a.toNat &&& m.toNat:Nat):Int)=a%2^j:=by
 have hp:0<(2:Nat)^j:=Nat.pow_pos (by omega)
 have e:m.toNat=2^j-1:=by
  rw [hm]
  have:((2:Int)^j-1)=((2^j-1:Nat):Int):=by rw [Int.natCast_sub (by omega)];simp
  rw [this];simp
 rw [e,Nat.and_two_pow_sub_one_eq_mod,Int.natCast_emod,Int.toNat_of_nonneg h0];simp
theorem DG {a b:Int} (j:Nat) (c:Int) (h0:0≤a) (h1:a<2^j) (hc:0≤c) (hb:b=2^j*c):((a.toNat ||| b.toNat:Nat):Int)=a+b:=by
 have NJ:a.toNat<2^j:=by
  have:(a.toNat:Int)<((2^j:Nat):Int):=by rw [Int.toNat_of_nonneg h0];simpa using h1
  exact_mod_cast this
 have e:b.toNat=2^j*c.toNat:=by
  have:b=((2^j*c.toNat:Nat):Int):=by rw [hb];simp [Int.toNat_of_nonneg hc]
  rw [this,zE]
 have hb0:0≤b:=by rw [hb];exact Int.mul_nonneg (by have:0<(2:Nat)^j:=Nat.pow_pos (by omega);exact_mod_cast Nat.le_of_lt this) hc
 rw [Nat.or_comm,e,←Nat.two_pow_add_eq_or_of_lt NJ,←e,Int.natCast_add,Int.toNat_of_nonneg h0,Int.toNat_of_nonneg hb0];omega
theorem vF (j:Nat):(0:Int)<2^j:=by
 have:0<(2:Nat)^j:=Nat.pow_pos (by omega)
 exact_mod_cast this
theorem Ap {a b:Int} (ha:0≤a∧a<18446744073709551616) (hb:0≤b∧b<18446744073709551616):bits .and .u64 a b=((a.toNat &&& b.toNat:Nat):Int):=by
 show IntKind.u64.wrap ((BitVec.ofInt 64 a &&& BitVec.ofInt 64 b).toNat:Int)=_
 rw [BitVec.toNat_and,mc ha.1 (by omega),mc hb.1 (by omega)]
 have:a.toNat &&& b.toNat≤a.toNat:=Nat.and_le_left
 rw [wrap_u64];omega
theorem CF {a b:Int} (ha:0≤a∧a<18446744073709551616) (hb:0≤b∧b<18446744073709551616):bits .or .u64 a b=((a.toNat ||| b.toNat:Nat):Int):=by
 show IntKind.u64.wrap ((BitVec.ofInt 64 a ||| BitVec.ofInt 64 b).toNat:Int)=_
 rw [BitVec.toNat_or,mc ha.1 (by omega),mc hb.1 (by omega)]
 have:a.toNat ||| b.toNat<2^64:=Nat.or_lt_two_pow (by omega) (by omega)
 rw [wrap_u64];omega
theorem F_ {a m:Int} (j:Nat) (ha:0≤a∧a<18446744073709551616) (hm:m=2^j-1) (hb:m<18446744073709551616):bits .and .u64 a m=a%2^j:=by
 have hp:=vF j
 rw [Ap ha ⟨by omega,hb⟩,Jw j ha.1 hm]
theorem lH {a m:Int} (j:Nat) (hj:j<63) (hm:m=2^j-1):bits .and .i64 a m=a%2^j:=by rw [hm,bits_mask a j hj]
theorem Jh {a b:Int} (j:Nat) (c:Int) (h0:0≤a) (h1:a<2^j) (hc:0≤c) (hb:b=2^j*c) (hs:a+b<18446744073709551616):bits .or .u64 a b=a+b:=by
 have hb0:0≤b:=by rw [hb];exact Int.mul_nonneg (Int.le_of_lt (vF j)) hc
 rw [CF ⟨h0,by omega⟩ ⟨hb0,by omega⟩,DG j c h0 h1 hc hb]
theorem E4 {a b:Int} (ha:0≤a∧a<9223372036854775808) (hb:0≤b∧b<9223372036854775808):dU (bits .or .i64 a b) 8=0↔a%8=0∧b%8=0:=by
 rw [CG ha hb,aT (by omega)]
 obtain ⟨x,rfl⟩:=Int.eq_ofNat_of_zero_le ha.1
 obtain ⟨y,rfl⟩:=Int.eq_ofNat_of_zero_le hb.1
 have h:(x ||| y)%8=(x%8) ||| (y%8):=by
  have:=Nat.or_mod_two_pow (a:=x) (b:=y) (n:=3)
  simpa using this
 have h2:(x ||| y)%8=0↔x%8=0∧y%8=0:=by rw [h];exact Nat.or_eq_zero_iff
 simp only [zE]
 omega
theorem Iu : ∀ k : Fin 64, 3 ≤ k.val → (7#64)[k.val]'k.isLt = false := by decide
theorem Oi {a:Int} (ha:0≤a∧a<9223372036854775808):bits .andNot .i64 a 7=a-a%8:=by
 obtain ⟨x,rfl⟩:=Int.eq_ofNat_of_zero_le ha.1
 have h1:(BitVec.ofInt 64 (x:Int) &&& ~~~ BitVec.ofInt 64 7).toNat=x-x%8:=by
  have hx:x<2^64:=by omega
  have e:BitVec.ofInt 64 (x:Int) &&& ~~~ BitVec.ofInt 64 7=(BitVec.ofNat 64 x >>> 3) <<< 3:=by
   rw [BitVec.ofInt_natCast]
   ext i hi
   simp only [BitVec.getElem_and,BitVec.getElem_not,BitVec.getElem_shiftLeft]
   by_cases h3:i<3
   ·have:i=0∨i=1∨i=2:=by omega
    rcases this with rfl | rfl | rfl<;>simp<;>decide
   ·have h7:(BitVec.ofInt 64 7)[i]=false:=by
     have:BitVec.ofInt 64 7=7#64:=rfl
     rw [this]
     exact Iu ⟨i,hi⟩ (by simpa using h3)
    rw [h7]
    simp [h3]
    congr 1
    omega
  rw [e]
  simp only [BitVec.toNat_shiftLeft,BitVec.toNat_ushiftRight,BitVec.toNat_ofNat,Nat.mod_eq_of_lt hx,Nat.shiftRight_eq_div_pow,Nat.shiftLeft_eq]
  omega
 show IntKind.i64.wrap ((BitVec.ofInt 64 (x:Int) &&& ~~~ BitVec.ofInt 64 7).toNat:Int)=_
 rw [h1,wrap_i64];omega
theorem JX {a b:Int} (n:Nat) (hb:b=n) (hn:n≤64) (h:0≤a*2^n∧a*2^n<18446744073709551616):Hc .u64 a b=a*2^n:=by
 subst hb
 unfold Hc
 rw [zE,Nat.min_eq_left (by simpa [IntKind.bits] using hn),wrap_u64]
 exact Int.emod_eq_of_lt h.1 h.2
theorem JW {a b:Int} (n:Nat) (hb:b=n) (hn:n≤64):uM .u64 a b=a / 2^n:=by
 subst hb
 unfold uM
 rw [zE,Nat.min_eq_left (by simpa [IntKind.bits] using hn),Int.fdiv_eq_ediv_of_nonneg _ (Int.le_of_lt (vF n))]
end Go.Bm
namespace Go.jJ
open Go.Bm
abbrev nO:=Int×Int×Int×Int
abbrev Xt:=Int×Int
abbrev cR:=Int×Bool
abbrev h_:=Int×Int×Int
abbrev iV:=Int×Int×Int
abbrev rM:=Int×Int×Int×Int
abbrev oZ:=Int×Int×Int×Int×Int×Int×Int
abbrev L9:=Int×Int×List Int
def within (a lo hi:Int):Bool:=decide (lo≤a) && decide (a≤hi)
theorem bF {a lo hi:Int}:within a lo hi=true↔lo≤a∧a≤hi:=by simp [within]
theorem kz {a lo hi:Int}:within a lo hi=false↔¬(lo≤a∧a≤hi):=by rw [←bF];simp
def dL (p:rM):Bool:=within p.1 1 8 && (within p.2.1 1 4 && (within p.2.2.1 0 2048 && (within p.2.2.2 0 8192 && (decide (p.2.2.1%8=0) && decide (p.2.2.2%8=0)))))
theorem da {p:rM}:dL p=true↔(1≤p.1∧p.1≤8)∧(1≤p.2.1∧p.2.1≤4)∧(0≤p.2.2.1∧p.2.2.1≤2048)∧(0≤p.2.2.2∧p.2.2.2≤8192)∧p.2.2.1%8=0∧p.2.2.2%8=0:=by
 simp [dL,bF]
def rK (n:Int):Int:=n+7-(n+7)%8
def bf (c:nO):Bool:=within c.2.2.2 0 16777215 && (if c.1=0∨c.1=1 then decide (c.2.1=0) && decide (c.2.2.1 = -1) else if c.1=2 then within c.2.1 1 7 && within c.2.2.1 (-1) 7 else if c.1=3 then decide (c.2.1=0) && within c.2.2.1 (-1) 7 else false)
def Cr:nO:=(0,0,0,0)
def bS (c:nO) (fr:Int):nO×Int:=
 if bf c=false∨within fr 0 7=false then (Cr,1)
 else if c.1=0 then (Cr,11)
 else if c.1=3 then (Cr,10)
 else if c.1=1 then ((2,c.2.1+1,fr,c.2.2.2),0)
 else if c.2.2.1≠fr then (Cr,15)
 else if c.2.1=7 then (Cr,16)
 else ((c.1,c.2.1+1,c.2.2.1,c.2.2.2),0)
def jd (c:nO) (s:Int):Int:=if bf c=false then 1 else if c.1≠s then 11 else 0
def bG (c:nO):nO×Int:=if jd c 2≠0 then (Cr,jd c 2) else if c.2.1=1 then ((3,0,c.2.2.1,c.2.2.2),0) else ((c.1,c.2.1-1,c.2.2.1,c.2.2.2),0)
def b6 (e:Int):Int:=(e+1)%16777216
def eJ (c:nO):nO×Int:=if jd c 3≠0 then (Cr,jd c 3) else ((1,0,-1,b6 c.2.2.2),0)
def db (l:List cR):Int:=match l.getLast? with
 | some e=>e.1
 | none=>0
def iF:List cR→Int→Option Nat
 | [],_=>none
 | e::l,s=>if e=(s,true) then some 0 else (iF l s).map (· + 1)
def reach (l:List cR) (s:Int):Bool:=decide (s=0) || (iF l s).isSome
def parent (l:List cR) (s:Int):Int:=match iF l s with
 | some i=>db (l.take i)
 | none=>-1
def kR (l:List cR) (s:Int):Nat→Int→Bool
 | 0,_=>false
 | n+1,b=>if b=s then true else kR l s n (parent l b)
def nL (l:List cR) (s b:Int):Bool:=decide (s=0) || kR l s 9 b
def bo (aS bytes:Int):Int×Int:=if within aS 0 6=false∨within bytes 0 512=false then (0,1) else (2+aS+(bytes+7) / 8,0)
def eg (r:iV):Bool:=within r.1 0 7 && (within r.2.1 0 16777215 && (within r.2.2 8 65528 && decide (r.2.2%8=0)))
def j9 (r:iV):Int:=r.2.2 / 8+r.1*16777216+r.2.1*4294967296
def iT (r:iV):Int×Int:=if eg r=true then (j9 r,0) else (0,1)
def gi (h:Int):iV:=(h / 16777216%256,h / 4294967296,h%16777216*8)
def au (h:Int):iV×Int:=if eg (gi h)=true then (gi h,0) else ((0,0,0),18)
theorem cp {r:iV}:eg r=true↔(0≤r.1∧r.1≤7)∧(0≤r.2.1∧r.2.1≤16777215)∧(8≤r.2.2∧r.2.2≤65528)∧r.2.2%8=0:=by
 simp [eg,bF]
theorem yi {h:Int} (h0:0≤h):(gi h).1≤7→j9 (gi h)=h:=by
 unfold j9 gi
 simp only
 omega
theorem Hi {r:iV} (hr:eg r=true):gi (j9 r)=r:=by
 obtain ⟨a,b,c⟩:=r
 rw [cp] at hr
 unfold gi j9
 simp only at hr ⊢
 refine Prod.ext ?_ (Prod.ext ?_ ?_)<;>simp only<;>omega
theorem wc {r:iV} (hr:eg r=true):0<j9 r∧j9 r<72057594037927936:=by
 rw [cp] at hr
 unfold j9
 omega
theorem xu {r:iV} (hr:eg r=true):au (j9 r)=(r,0):=by
 unfold au
 rw [Hi hr,if_pos hr]
end Go.jJ
namespace Go.Bm
section
open Go.RowKit
section
variable {P:Program} {E:Env} {o:Oper} {ρ:Operand→A} {h:H} {β:Type} {K:A→H→Fp→Option β} {r:β}
def DR:A→Bool
 | .agg _=>true
 | _=>false
theorem V.nY {g:G} {p:A} {v:Value} {cs:List A} (hv:V g p v) (ha:DR p=false) (hc:p.cells=some cs):v.oneCell'=true:=by
 cases hv with
 | v x=>
  unfold A.cells at hc
  cases hx:v.oneCell' with
  | true=>rfl
  | false=>simp only [hx,cond_false] at hc;cases hc
 | agg=>cases ha
 | mH=>cases hc
 | un=>cases hc
 | dN=>cases hc
 | op r o v h0 h1=>exact V.GV (.op r o v h0 h1)
 | os r z o v h0 h1=>exact V.GV (.os r z o v h0 h1)
 | om r o v h0 h1=>exact V.GV (.om r o v h0 h1)
 | tl t f l v hd=>exact hd.one
 | _=>rfl
def nv (a:Bool) (t:Ty) (p:A):Option t.T:=bif a then (match p with
 | .agg cs=>te t cs
 | _=>none) else bif DR p then none else (match p.cells with
 | some cs=>bif Nat.beq t.size 1 then te t cs else none
 | none=>none)
theorem mo {a:Bool} {t:Ty} {p:A} {x:t.T} (hx:nv a t p=some x) {g:G} {v:Value} (hv:V g p v):V g (df a t x) v:=by
 unfold nv at hx
 unfold df
 cases a with
 | true=>
  simp only [cond_true] at hx ⊢
  split at hx
  ·rename_i cs
   obtain ⟨us,rfl⟩:=hv.CK rfl
   exact Vs.agg ((lO (g:=g) t cs x hx).2 _ (hv.cells rfl))
  ·cases hx
 | false=>
  simp only [cond_false] at hx ⊢
  cases ha:DR p with
  | true=>rw [ha] at hx;cases hx
  | false=>
   rw [ha] at hx;simp only [cond_false] at hx
   split at hx
   ·rename_i cs hc
    obtain ⟨h1,hx⟩:=ae hx
    have h1:=beq_eq h1
    have Nj:=(lO (g:=g) t cs x hx).2 _ (hv.cells hc)
    rw [xZ (hv.nY ha hc)] at Nj
    have hl:(aJ t x).length=1:=by rw [cU];exact h1
    match he:aJ t x,hl with
    | [c],_=>
     rw [he] at Nj
     exact (Nj.2 0 c v rfl rfl).1
   ·cases hx
theorem gY.conv {S S':Hp} {ρ':Operand→A} {pv:A} (hc:∀x∈o.op.operands,∀g v,V g (ρ x) v→V g (ρ' x) v) (k:gY P o ρ' S S' pv):gY P o ρ S S' pv:=
 fun g w a next Q hI hv K=>k g w a next Q hI (fun x hx=>hc x hx g _ (hv x hx)) K
def told (ρ:Operand→A) (y:Operand) (p:A):Operand→A:=fun z=>open Classical in if z=y then p else ρ z
theorem je {ρ:Operand→A} {y:Operand} {p:A}:told ρ y p y=p:=if_pos rfl
theorem rQ {ρ:Operand→A} {y z:Operand} {p:A} (h:z≠y):told ρ y p z=ρ z:=if_neg h
theorem tC {ρ:Operand→A} {y:Operand} {p:A} (h:∀g v,V g (ρ y) v→V g p v):∀(x:Operand) (g:G) (v:Value),V g (ρ x) v→V g (told ρ y p x) v:=fun x g v hv=>by
 by_cases hx:x=y
 ·subst hx;rw [je];exact h g v hv
 ·rw [rQ hx];exact hv
def Y2 (h:H) (r j:Nat) (k:(ka:Bool)→(tk:Ty)→(va:Bool)→(tv:Ty)→List (tk.T×tv.T)→Option β):Option β:=match cl h.rg r with
 | some ⟨_,.map ka tk va tv,c⟩=>bif Nat.blt r 64 then k ka tk va tv (nth (α:=List (tk.T×tv.T)) [] c j) else none
 | _=>none
def aA (ka:Bool) (tk:Ty) (va:Bool) (tv:Ty) (es:List (tk.T×tv.T)):List (A×A):=es.map fun e=>(df ka tk e.1,df va tv e.2)
theorem Gv {ka va:Bool} {tk tv:Ty} {c:List (List (tk.T×tv.T))} {j:Nat} (h:j<c.length):fQ (.map ka tk va tv) c j=some (.eL (.map (aA ka tk va tv (nth [] c j)))):=by
 show (match ny (α:=List (tk.T×tv.T)) c j with | some es=>some (Ob.eL (.map (aA ka tk va tv es))) | none=>none)=_
 have e:ny c j=some (nth [] c j):=by simp [ny,nth,zA,zD h]
 rw [e]
theorem DH {q j:Nat} {k:(ka:Bool)→(tk:Ty)→(va:Bool)→(tv:Ty)→List (tk.T×tv.T)→Option β} (hr:Y2 h q j k=some r):∃(ka:Bool) (tk:Ty) (va:Bool) (tv:Ty) (es:List (tk.T×tv.T)),k ka tk va tv es=some r∧q<64∧(∃x:Rg,cl h.rg q=some x∧∃c:List (List (tk.T×tv.T)),x=⟨x.r,.map ka tk va tv,c⟩∧es=nth [] c j) ∧
  ∀g S (w:World) b s,Inv g S w→S.ob (ig q j)=(hp h).ob (ig q j)→(S.fr (ig q j)↔(hp h).fr (ig q j))→g.ck (ig q j)=some (some b,s)→S.ob (ig q j)=some (.eL (.map (aA ka tk va tv es))):=by
 unfold Y2 at hr
 split at hr
 ·rename_i rr ka tk va tv c hf
  obtain ⟨h1,h2⟩:=ae hr
  have h3:q<64:=bW h1
  refine ⟨ka,tk,va,tv,_,h2,h3,⟨_,hf,c,rfl,rfl⟩,fun g S w b s hI e e2 hg=>?_⟩
  have eh:j<List.length (α:=List (tk.T×tv.T)) c:=by
   rcases Nat.lt_or_ge j (List.length (α:=List (tk.T×tv.T)) c) with eh | AH
   ·exact eh
   ·have:S.fr (ig q j):=e2.2 (by rw [jh.2,iY h3 hf];exact AH)
    have:=hI.fresh _ this
    rw [this] at hg;cases hg
  rw [e,jh.1,nq h3 hf]
  exact Gv eh
 ·cases hr
def G7 (ok:Bool) (z:A) (res:Option (Nat×A)) (h:H) (T:Fp) (K:A→H→Fp→Option β):Option β:=bif ok then K (.mH [Gg z res,.v (.bool res.isSome)]) h T else Ir (Gg z res) (fun v=>K v h T)
theorem Fi {ok:Bool} {z:A} {res:Option (Nat×A)} {T:List Nat} (hd:∀c,o.op≠.defer c) (hr:G7 ok z res h (.rd T) K=some r) (k:∀S2,bO (.rd T) (hp h) S2→gY P o ρ S2 S2 (bif ok then .mH [Gg z res,.v (.bool res.isSome)] else Gg z res)):Out P o ρ h K r:=by
 unfold G7 at hr
 cases ok with
 | true=>exact .read T hr k hd
 | false=>exact .sp hr (.read _ k hd)
def RV (E:Env) (T:Nat) (ok:Bool) (px py:A) (h:H) (K:A→H→Fp→Option β):Option β:=match dA E.fO T with
 | some ⟨.map KT VT,_,_,_,_,_,_⟩=>match dA E.fO KT,dA E.fO VT with
  | some e,some e2=>match Ib e2.zero with
   | some z=>match px with
    | .mp (.loc q)=>match h.t.get q with
     | some (.eL (.map es))=>match lL E KT e.d py py with
      | some _=>bif oN E e.d && Nat.blt q 16777216 then yo (lL E KT e.d py) es 0 (fun res=>G7 ok z res h (.rd [gq q]) K) else none
      | none=>none
     | _=>none
    | .mp (.c_ q j)=>Y2 h q j (fun ka tk va tv es=>bif JL E KT e ka tk && oN E e.d then (match nv ka tk py with
     | some x=>opt (oV (nf tk x) es 0) (G7 ok z none h (.rd [kB q]) K) (fun p=>G7 ok z (some (p.1,df va tv p.2)) h (.rd [kB q]) K)
     | none=>none) else none)
    | _=>none
   | none=>none
  | _,_=>none
 | _=>none
theorem M_ (hE:dq P E) {T:Nat} {x y:Operand} {ok:Bool} (ho:o.op = .lookup T x y ok) (hr:RV E T ok (ρ x) (ρ y) h K=some r):Out P o ρ h K r:=by
 have hd:∀c,o.op≠.defer c:=by rw [ho];intro c e;cases e
 unfold RV at hr
 split at hr
 ·rename_i KT VT _ _ _ _ _ _ ht
  have hT:=(hE.fO _ _ ht).u
  split at hr
  ·rename_i e e2 he Us
   obtain ⟨i,t1,t2,t3,t4,t5,t6⟩:=(hE.fO _ _ Us).ti
   split at hr
   ·rename_i z hz
    have hzz:=Ia hz t6
    split at hr
    ·rename_i q hx
     split at hr
     ·rename_i es hg
      split at hr
      ·rename_i b hs
       obtain ⟨h1,hr⟩:=ae hr
       simp only [zC] at h1
       have hq:=bW h1.2
       obtain ⟨res,k1,k2⟩:=sQ _ _ _ hr
       have fN:(hp h).ob q=some (.eL (.map es)):=by rw [mv hq];unfold iG;rw [hg];rfl
       exact Fi hd k1 (fun S2 hA=>vJ hE ho hT he Us h1.1 hs hx ((hA q (aL hq (.head _))).1.trans fN) k2 hzz)
      ·cases hr
     ·cases hr
    ·rename_i q j hx
     obtain ⟨ka,tk,va,tv,es,hr,hq,_,fN⟩:=DH hr
     obtain ⟨h1,hr⟩:=ae hr
     simp only [zC] at h1
     split at hr
     ·rename_i kx wi
      have jB:x≠y:=fun e=>by
       rw [←e,hx] at wi
       unfold nv at wi
       cases ka with
       | true=>cases wi
       | false=>
        simp only [cond_false,DR,A.cells] at wi
        obtain ⟨_,wi⟩:=ae wi
        have hs:=h1.1
        unfold JL at hs
        split at hs
        ·simp only [Bool.not_false,Bool.true_and] at hs
         split at hs
         ·simp [te] at wi
         ·cases hs
        ·simp at hs
        ·cases hs
      have main:∀res,oV (nf tk kx) es 0=res→G7 ok z (res.map fun p=>(p.1,df va tv p.2)) h (.rd [kB q]) K=some r→Out P o ρ h K r:=fun res hm hr=>by
       refine Fi hd hr (fun S2 hA=>gY.ck fun g w a hI hv=>?_)
       have AE:=hv x (by simp [ho,Op.operands])
       rw [hx] at AE
       have ha:=hA (ig q j) (dk (r:=q) (j:=j) hq (.head _))
       have C3:∃b s,g.ck (ig q j)=some (some b,s):=by
        generalize a.eval x=vx at AE
        cases AE with
        | mp _ b s cV=>exact ⟨b,s,cV⟩
       obtain ⟨b,s,cV⟩:=C3
       have gh:=fN g S2 w b s hI ha.1 ha.2 cV
       refine gY.conv (ρ':=told ρ y (df ka tk kx)) (fun x _ g v hv=>tC (fun g v hv=>mo wi hv) x g v hv) ?_
       have hf:=mT (va:=va) (tv:=tv) he h1.1 kx es 0
       rw [hm] at hf
       exact vJ (X:=.c_ q j) (es:=aA ka tk va tv es) hE ho hT he Us h1.2 (b:=nf tk kx kx) (by rw [je];exact zm he h1.1 kx kx) (by rw [rQ jB,hx]) gh (by rw [je];exact hf) hzz
      rcases kJ hr with ⟨e,hr⟩ | ⟨p,e,hr⟩
      ·exact main none e hr
      ·exact main (some p) e hr
     ·cases hr
    ·cases hr
   ·cases hr
  ·cases hr
 ·cases hr
def Y3 (h:H) (K:A→H→Fp→Option β):Option β:=su (.eL (.map [])) h (fun q h'=>K (.mp (.loc q)) h' (.wr [gq q]))
theorem M8 {T:Nat} (ho:o.op = .makeMap T none) (hr:Y3 h K=some r):Out P o ρ h K r:=by
 have hd:∀c,o.op≠.defer c:=by rw [ho];intro c e;cases e
 obtain ⟨h',k1,hq,hf,hh⟩:=jW hr
 exact ⟨_,_,_,k1,.of _ hh rfl (fun u hu=>by rcases zF.1 hu with rfl;exact aL (o:=h.bI) hq (.head _)) (fun S2 hA=>BC ho ((hA _ (aL hq (.head _))).2.2 hf)) hd⟩
def GG (h:H) (q j:Nat) (ka:Bool) (tk:Ty) (va:Bool) (tv:Ty) (es:List (tk.T×tv.T)) (k:H→Option β):Option β:=bif BR h (kB q) then none else match cl h.rg q with
 | some ⟨_,.map ka' tk' va' tv',c⟩=>if ka=ka'∧va=va' then (match iJ (.cN (.pair tk tv)) (.cN (.pair tk' tv')) es with
  | some tm=>k { h with rg:=lQ h.rg q (.map ka' tk' va' tv') (aU (α:=List (tk'.T×tv'.T)) c j tm) }
  | none=>none) else none
 | _=>none
theorem vv {ka va:Bool} {tk tv:Ty} {c:List (List (tk.T×tv.T))} {j:Nat} {es:List (tk.T×tv.T)} (hj:j<c.length) (i:Nat):fQ (.map ka tk va tv) (aU c j es) i=if i=j then some (.eL (.map (aA ka tk va tv es))) else fQ (.map ka tk va tv) c i:=by
 show (match ny (α:=List (tk.T×tv.T)) (aU c j es) i with | some es=>some (Ob.eL (.map (aA ka tk va tv es))) | none=>none)=if i=j then some (.eL (.map (aA ka tk va tv es))) else (match ny (α:=List (tk.T×tv.T)) c i with | some es=>some (Ob.eL (.map (aA ka tk va tv es))) | none=>none)
 rw [sK]
 by_cases h:i=j
 ·rw [if_pos ⟨h,hj⟩,if_pos h]
 ·rw [if_neg (fun k=>h k.1),if_neg h]
theorem y3 {q j:Nat} {ka:Bool} {tk:Ty} {va:Bool} {tv:Ty} {es:List (tk.T×tv.T)} {k:H→Option β} (h3:q<64) (hr:GG h q j ka tk va tv es k=some r):∃h',k h'=some r∧CQ h h' (.c_ q j) (.eL (.map (aA ka tk va tv es))):=by
 obtain ⟨_,hr⟩:=lN hr
 split at hr
 ·rename_i rr ka' tk' va' tv' c hf
  split at hr
  ·rename_i e
   obtain ⟨rfl,rfl⟩:=e
   split at hr
   rotate_left
   ·cases hr
   rename_i tm oO
   obtain ⟨e,oO⟩:=dz oO
   cases e
   obtain rfl:es=tm:=oO
   refine ⟨_,hr,fun i hi=>?_,fun mz=>?_⟩
   ·have hn:=vk h3 hi
    have:=oq (h:=h) (k:=.map ka tk va tv) (c:=aU (α:=List (tk.T×tv.T)) c j es) hf i
    rw [if_neg hn,if_neg hn] at this
    exact this
   ·have eh:j<List.length (α:=List (tk.T×tv.T)) c:=by
     rcases Nat.lt_or_ge j (List.length (α:=List (tk.T×tv.T)) c) with eh | AH
     ·exact eh
     ·exact absurd (by rw [show (Ref.c_ q j).id=ig q j from rfl,jh.2,iY h3 hf];exact AH) mz
    exact wa (j:=j) (u:=.set (ig q j) _) h3 hf (uU (α:=List (tk.T×tv.T)) c j _) (fun i hi=>by rw [vv (c:=c) eh,if_neg hi]) rfl (by rw [vv (c:=c) eh,if_pos rfl];exact Dh) rfl
  ·cases hr
 ·cases hr
def Ff (E:Env) (T:Nat) (ins ne:Bool) (px py pz:A) (h:H) (K:A→H→Fp→Option β):Option β:=match dA E.fO T with
 | some ⟨.map KT _,_,_,_,_,_,_⟩=>match dA E.fO KT with
  | some e=>match px with
   | .mp (.loc q)=>match h.t.get q with
    | some (.eL (.map es))=>match lL E KT e.d py py with
     | some _=>bif oN E e.d && Nat.blt q 16777216 && !(BR h (gq q)) then yo (lL E KT e.d py) es 0 (fun res=>match res with
      | none=>ir h.t q (some (.eL (.map (es++[(py,pz)])))) (fun t1=>K .dN { h with t:=t1 } (.wr [gq q]))
      | some _=>none) else none
     | none=>none
    | _=>none
   | .mp (.c_ q j)=>Y2 h q j (fun ka tk va tv es=>bif JL E KT e ka tk && oN E e.d && ne then (match nv ka tk py,nv va tv pz with
    | some x,some y=>opt (oV (nf tk x) es 0) (GG h q j ka tk va tv (cat es [(x,y)]) (fun h'=>K .dN h' (.wr [kB q])))
     (fun p=>bif ins then none else GG h q j ka tk va tv (Jx es p.1 y) (fun h'=>K .dN h' (.wr [kB q])))
    | _,_=>none) else none)
   | _=>none
  | none=>none
 | _=>none
theorem BM {κ α:Type} {p:κ→Bool}:∀(l:List (κ×α)) (i n:Nat) (v:α),oV p l i=some (n,v)→∃m k,n=i+m∧l[m]?=some (k,v)∧p k=true
 | [],_,_,_,h=>by cases h
 | (k,v)::l,i,n,v',h=>by
  unfold oV at h
  cases hk:p k with
  | true=>rw [hk] at h;cases h;exact ⟨0,k,rfl,rfl,hk⟩
  | false=>
   rw [hk] at h
   obtain ⟨m,k',h1,h2,h3⟩:=BM l (i+1) n v' h
   exact ⟨m+1,k',by omega,h2,h3⟩
theorem V.M5 {g:G} {X:Ref} {v:Value} (hv:V g (.mp X) v):∃b s,g.ck X.id=some (some b,s):=by
 cases hv with
 | mp _ b s cV=>exact ⟨b,s,cV⟩
theorem By {E:Env} {K:Nat} {e:dP} {ka:Bool} {tk:Ty} {X:Ref} {kx:tk.T} (hs:JL E K e ka tk=true) (wi:nv ka tk (.mp X)=some kx):False:=by
 unfold nv at wi
 cases ka with
 | true=>cases wi
 | false=>
  simp only [cond_false,DR,A.cells] at wi
  obtain ⟨_,wi⟩:=ae wi
  unfold JL at hs
  split at hs
  ·simp only [Bool.not_false,Bool.true_and] at hs
   split at hs
   ·simp [te] at wi
   ·cases hs
  ·simp at hs
  ·cases hs
theorem BJ (hE:dq P E) {T:Nat} {x y z:Operand} {ins ne:Bool} (hzy:ne=true→z≠y) (ho:(ins=false∧o.op = .mapUpdate T x y z)∨(ins=true∧o.op = .insert T x y z)) (hr:Ff E T ins ne (ρ x) (ρ y) (ρ z) h K=some r):Out P o ρ h K r:=by
 have hd:∀c,o.op≠.defer c:=by rcases ho with ⟨_,ho⟩ | ⟨_,ho⟩<;>(rw [ho];intro c e;cases e)
 have Kb:o.op = .mapUpdate T x y z∨o.op = .insert T x y z:=by rcases ho with ⟨_,ho⟩ | ⟨_,ho⟩<;>simp [ho]
 have kV:x∈o.op.operands:=by rcases Kb with ho | ho<;>simp [ho,Op.operands]
 unfold Ff at hr
 split at hr
 ·rename_i KT VT _ _ _ _ _ _ ht
  have hT:=(hE.fO _ _ ht).u
  split at hr
  ·rename_i e he
   split at hr
   ·rename_i q hx
    split at hr
    ·rename_i es hg
     split at hr
     ·rename_i b hs
      obtain ⟨h1,hr⟩:=ae hr
      simp only [zC] at h1
      have hq:=bW h1.1.2
      obtain ⟨res,k1,k2⟩:=sQ _ _ _ hr
      have fN:(hp h).ob q=some (.eL (.map es)):=by rw [mv hq];unfold iG;rw [hg];rfl
      split at k1
      ·obtain ⟨_,t1,k3,k4⟩:=cz k1
       exact ⟨_,_,_,k3,.of [.set q (.eL (.map (es++[(ρ y,ρ z)])))] (tR (x:=.eL (.map (es++[(ρ y,ρ z)]))) hq k4) rfl (fun u hu=>by rcases zF.1 hu with rfl;exact aL (o:=q) hq (.head _))
        (fun S2 hA=>E7 hE Kb hT he h1.1.1 hs hx ((hA q (aL hq (.head _))).1.trans fN) (fun g v hv=>hv) (fun g v hv=>hv) k2) hd⟩
      ·cases k1
     ·cases hr
    ·cases hr
   ·rename_i q j hx
    obtain ⟨ka,tk,va,tv,es,hr,hq,_,fN⟩:=DH hr
    obtain ⟨h1,hr⟩:=ae hr
    simp only [zC] at h1
    split at hr
    ·rename_i kx vy wi hvy
     have jB:x≠y:=fun e=>by rw [←e,hx] at wi;exact By h1.1.1 wi
     have hX:GW (.c_ q j)=true:=by show Nat.blt q 64=true;simpa using hq
     have GI:∀(g:G) (S:Hp) (w:World) (a:Act),Inv g S w→(∀x∈o.op.operands,V g (ρ x) (a.eval x))→g.ck (Ref.c_ q j).id≠none:=fun g S w a hI hv=>by
      have AE:=hv x kV
      rw [hx] at AE
      obtain ⟨b,s,cV⟩:=AE.M5
      rw [cV];intro h;cases h
     have here:∀S2,bO (.wr (lf (.c_ q j)::[])) (hp h) S2→∀{S':Hp} {pv:A},(S2.ob (ig q j)=some (.eL (.map (aA ka tk va tv es)))→gY P o ρ S2 S' pv)→gY P o ρ S2 S' pv:=fun S2 hA _ _ k=>gY.ck fun g w a hI hv=>by
      have AE:=hv x kV
      rw [hx] at AE
      obtain ⟨b,s,cV⟩:=AE.M5
      have ha:=hA (ig q j) (dk (r:=q) (j:=j) hq (.head _))
      exact k (fN g S2 w b s hI ha.1 ha.2 cV)
     have hxt:told ρ y (df ka tk kx) x = .mp (.c_ q j):=by rw [rQ jB,hx]
     have Uf:∀g v,V g (told ρ y (df ka tk kx) z) v→V g (df va tv vy) v:=fun g v hv=>by
      rw [rQ (hzy h1.2)] at hv;exact mo hvy hv
     have conv:=fun {S S':Hp} {pv:A}=>gY.conv (P:=P) (o:=o) (ρ:=ρ) (ρ':=told ρ y (df ka tk kx)) (S:=S) (S':=S') (pv:=pv) (fun x _ g v hv=>tC (fun g v hv=>mo wi hv) x g v hv)
     have hs:lL E KT e.d (told ρ y (df ka tk kx) y) (told ρ y (df ka tk kx) y)=some (nf tk kx kx):=by rw [je];exact zm he h1.1.1 kx kx
     have hf:=mT (va:=va) (tv:=tv) he h1.1.1 kx es 0
     rcases kJ hr with ⟨e1,hr⟩ | ⟨p,e1,hr⟩
     ·obtain ⟨h',k1,k2⟩:=y3 hq hr
      refine ⟨_,_,_,k1,.put hd hX k2 GI (fun S2 hA=>here S2 hA fun gh=>?_)⟩
      have e2:aA ka tk va tv (cat es [(kx,vy)])=aA ka tk va tv es++[(df ka tk kx,df va tv vy)]:=by simp [aA,cat]
      rw [e2]
      rw [e1] at hf
      exact conv (E7 (X:=.c_ q j) hE Kb hT he h1.1.2 hs hxt gh (fun g v hv=>by rw [je] at hv;exact hv) Uf (by rw [je];exact hf))
     ·cases hi:ins with
      | true=>rw [hi] at hr;cases hr
      | false=>
       rw [hi] at hr;simp only [cond_false] at hr
       obtain ⟨h',k1,k2⟩:=y3 hq hr
       refine ⟨_,_,_,k1,.put hd hX k2 GI (fun S2 hA=>here S2 hA fun gh=>?_)⟩
       have e2:aA ka tk va tv (Jx es p.1 vy)=G4 (aA ka tk va tv es) p.1 (df va tv vy):=by
        unfold aA Jx G4
        apply List.ext_getElem?
        intro m
        simp only [zL,List.getElem?_modify]
        cases es[m]? with
        | none=>rfl
        | some u=>
         by_cases hm:p.1=m
         ·simp [hm]
         ·simp [hm]
       rw [e2]
       rw [e1] at hf
       obtain ⟨m,kk,m1,m2,m3⟩:=BM es 0 p.1 p.2 e1
       have hmu:o.op = .mapUpdate T x y z:=by
        rcases ho with ⟨_,ho⟩ | ⟨hh,_⟩
        ·exact ho
        ·rw [hi] at hh;cases hh
       refine conv (Ji (X:=.c_ q j) (n:=p.1) hE hmu hT he h1.1.2 hs hxt gh Uf (by rw [je];exact hf) (fun g v u v' hu hv C0=>?_))
       rw [je] at hv
       have ye:(aA ka tk va tv es)[p.1]?=some (df ka tk kk,df va tv p.2):=by
        rw [m1,Nat.zero_add]
        unfold aA
        rw [zL,m2];rfl
       rw [ye] at hu
       cases hu
       exact JK h1.1.1 m3 hv C0
    ·cases hr
   ·cases hr
  ·cases hr
 ·cases hr
end
end
section
open Go.RowKit
section
variable {P:Program} {E:Env} {o:Oper} {ρ:Operand→A} {h:H} {β:Type} {K:A→H→Fp→Option β} {r:β}
def JC (E:Env) (T:Nat) (px py:A) (h:H) (K:A→H→Fp→Option β):Option β:=match dA E.fO T with
 | some ⟨.map KT _,_,_,_,_,_,_⟩=>match dA E.fO KT with
  | some e=>match px with
   | .mp (.loc q)=>match h.t.get q with
    | some (.eL (.map es))=>match lL E KT e.d py py with
     | some _=>bif oN E e.d && Nat.blt q 16777216 && !(BR h (gq q)) then yo (lL E KT e.d py) es 0 (fun res=>ir h.t q (some (.eL (.map (KO es res)))) (fun t1=>K .dN { h with t:=t1 } (.wr [gq q]))) else none
     | none=>none
    | _=>none
   | .mp (.c_ q j)=>Y2 h q j (fun ka tk va tv es=>bif JL E KT e ka tk && oN E e.d then (match nv ka tk py with
    | some x=>opt (oV (nf tk x) es 0) (GG h q j ka tk va tv es (fun h'=>K .dN h' (.wr [kB q])))
     (fun p=>GG h q j ka tk va tv (JD es p.1) (fun h'=>K .dN h' (.wr [kB q])))
    | none=>none) else none)
   | _=>none
  | none=>none
 | _=>none
theorem KR {ka:Bool} {tk:Ty} {va:Bool} {tv:Ty} (es:List (tk.T×tv.T)) (p:Option (Nat×tv.T)) :
  aA ka tk va tv (match p with | some p=>JD es p.1 | none=>es)=KO (aA ka tk va tv es) (p.map fun p=>(p.1,df va tv p.2)):=by
 cases p with
 | none=>rfl
 | some p=>
  show (es.eraseIdx p.1).map _=(es.map _).eraseIdx p.1
  generalize p.1=n
  induction es generalizing n with
  | nil=>rfl
  | cons a es ih=>cases n with
   | zero=>rfl
   | succ n=>simp only [List.map_cons,List.eraseIdx_cons_succ,List.map_cons,ih n]
theorem JB (hE:dq P E) {T:Nat} {x y:Operand} {Ts:Array TypeId} (ho:o.op = .call { callee:=.builtin .delete,args:=#[x,y],argTypes:=Ts }) (h0:Ts[0]?=some T) (hr:JC E T (ρ x) (ρ y) h K=some r):Out P o ρ h K r:=by
 have hd:∀c,o.op≠.defer c:=by rw [ho];intro c e;cases e
 have kV:x∈o.op.operands:=by simp [ho,Op.operands,Call.operands]
 unfold JC at hr
 split at hr
 ·rename_i KT VT _ _ _ _ _ _ ht
  have hT:=(hE.fO _ _ ht).u
  split at hr
  ·rename_i e he
   split at hr
   ·rename_i q hx
    split at hr
    ·rename_i es hg
     split at hr
     ·rename_i b hs
      obtain ⟨h1,hr⟩:=ae hr
      simp only [zC] at h1
      have hq:=bW h1.1.2
      obtain ⟨res,k1,k2⟩:=sQ _ _ _ hr
      have fN:(hp h).ob q=some (.eL (.map es)):=by rw [mv hq];unfold iG;rw [hg];rfl
      obtain ⟨_,t1,k3,k4⟩:=cz k1
      exact ⟨_,_,_,k3,.of [.set q (.eL (.map (KO es res)))] (tR (x:=.eL (.map (KO es res))) hq k4) rfl (fun u hu=>by rcases zF.1 hu with rfl;exact aL (o:=q) hq (.head _))
       (fun S2 hA=>vK hE ho h0 hT he h1.1.1 hs hx ((hA q (aL hq (.head _))).1.trans fN) k2) hd⟩
     ·cases hr
    ·cases hr
   ·rename_i q j hx
    obtain ⟨ka,tk,va,tv,es,hr,hq,_,fN⟩:=DH hr
    obtain ⟨h1,hr⟩:=ae hr
    simp only [zC] at h1
    split at hr
    ·rename_i kx wi
     have jB:x≠y:=fun e=>by rw [←e,hx] at wi;exact By h1.1 wi
     have hX:GW (.c_ q j)=true:=by show Nat.blt q 64=true;simpa using hq
     have GI:∀(g:G) (S:Hp) (w:World) (a:Act),Inv g S w→(∀x∈o.op.operands,V g (ρ x) (a.eval x))→g.ck (Ref.c_ q j).id≠none:=fun g S w a hI hv=>by
      have AE:=hv x kV
      rw [hx] at AE
      obtain ⟨b,s,cV⟩:=AE.M5
      rw [cV];intro h;cases h
     have here:∀S2,bO (.wr (lf (.c_ q j)::[])) (hp h) S2→∀{S':Hp} {pv:A},(S2.ob (ig q j)=some (.eL (.map (aA ka tk va tv es)))→gY P o ρ S2 S' pv)→gY P o ρ S2 S' pv:=fun S2 hA _ _ k=>gY.ck fun g w a hI hv=>by
      have AE:=hv x kV
      rw [hx] at AE
      obtain ⟨b,s,cV⟩:=AE.M5
      have ha:=hA (ig q j) (dk (r:=q) (j:=j) hq (.head _))
      exact k (fN g S2 w b s hI ha.1 ha.2 cV)
     have hxt:told ρ y (df ka tk kx) x = .mp (.c_ q j):=by rw [rQ jB,hx]
     have conv:=fun {S S':Hp} {pv:A}=>gY.conv (P:=P) (o:=o) (ρ:=ρ) (ρ':=told ρ y (df ka tk kx)) (S:=S) (S':=S') (pv:=pv) (fun x _ g v hv=>tC (fun g v hv=>mo wi hv) x g v hv)
     have hs:lL E KT e.d (told ρ y (df ka tk kx) y) (told ρ y (df ka tk kx) y)=some (nf tk kx kx):=by rw [je];exact zm he h1.1 kx kx
     have hf:=mT (va:=va) (tv:=tv) he h1.1 kx es 0
     have main:∀p,oV (nf tk kx) es 0=p→GG h q j ka tk va tv (match p with | some p=>JD es p.1 | none=>es) (fun h'=>K .dN h' (.wr [kB q]))=some r→Out P o ρ h K r:=fun p yg hr=>by
      obtain ⟨h',k1,k2⟩:=y3 hq hr
      refine ⟨_,_,_,k1,.put hd hX k2 GI (fun S2 hA=>here S2 hA fun gh=>?_)⟩
      rw [yg] at hf
      rw [KR]
      exact conv (vK (X:=.c_ q j) hE ho h0 hT he h1.2 hs hxt gh (by rw [je];exact hf))
     rcases kJ hr with ⟨e1,hr⟩ | ⟨p,e1,hr⟩
     ·exact main none e1 hr
     ·exact main (some p) e1 hr
    ·cases hr
   ·cases hr
  ·cases hr
 ·cases hr
def DX:List (Nat×Nat)→Nat→Option Nat
 | [],_=>none
 | (t,r)::l,T=>bif Nat.beq t T then some r else DX l T
def I4 (h:H) (q:Nat) (t:Ty) (x:t.T) (k:Nat→H→Option β):Option β:=bif BR h (kB q) then none else match cl h.rg q with
 | some ⟨_,.box t',c⟩=>match iJ t t' x with
  | some x'=>bif Nat.blt q 64 then k (len (α:=t'.T) c) { h with rg:=lQ h.rg q (.box t') (cat (α:=t'.T) c [x']) } else none
  | none=>none
 | _=>none
theorem Bv {q:Nat} {t:Ty} {x:t.T} {k:Nat→H→Option β} (hr:I4 h q t x k=some r):∃h' j,k j h'=some r∧q<64∧(hp h).fr (ig q j)∧hp h'=app [.new (ig q j) (.cells (aJ t x))] (hp h):=by
 obtain ⟨_,hr⟩:=lN hr
 split at hr
 ·rename_i rr t' c hf
  split at hr
  ·rename_i x' hx
   obtain ⟨e,hx⟩:=dz hx
   subst e
   obtain rfl:x=x':=hx
   obtain ⟨h1,hr⟩:=ae hr
   have h3:q<64:=bW h1
   refine ⟨_,_,hr,h3,?_,?_⟩
   ·rw [jh.2,iY h3 hf];exact Nat.le_refl _
   ·exact sF (k:=.box t) (c:=cat (α:=t.T) c [x]) (n:=List.length (α:=t.T) c) h3 hf rfl (sC (α:=t.T) c _) (fun j=>vA (c:=c) (x:=x) j)
  ·cases hr
 ·cases hr
theorem V.ME {g:G} {q j:Nat} {v:Value} (hv:V g (.ptr (ig q j) 0) v):V g (.tp (.c_ q j) []) v:=by
 cases hv with
 | ptr _ _ b s hb=>exact .tp (.c_ q j) [] b s hb trivial
def To (E:Env) (hm:List (Nat×Nat)) (T:Nat) (h:H) (K:A→H→Fp→Option β):Option β:=match DX hm T with
 | some q=>match dA E.fO T with
  | some e=>match e.t with
   | some t=>I4 h q t t.dS (fun j h'=>K (.tp (.c_ q j) []) h' (.wr [kB q]))
   | none=>none
  | none=>none
 | none=>Tp E T h K
theorem Oj (hE:dq P E) {hm:List (Nat×Nat)} {T:Nat} (ho:o.op = .alloc T) (hr:To E hm T h K=some r):Out P o ρ h K r:=by
 have hd:∀c,o.op≠.defer c:=by rw [ho];intro c e;cases e
 unfold To at hr
 split at hr
 ·rename_i q _
  split at hr
  ·rename_i e ht
   have hk:=hE.fO _ _ ht
   obtain ⟨i,t1,t2,t3,t4,t5,t6⟩:=hk.ti
   split at hr
   ·rename_i t C1
    obtain ⟨h',j,k1,hq,hf,hh⟩:=Bv hr
    exact ⟨_,_,_,k1,Step.tx (.of _ hh rfl (fun u hu=>by rcases zF.1 hu with rfl;exact dk (r:=q) (j:=j) hq (.head _)) (fun S2 hA=>q9 ho t1 t2 (hk.tz t C1) ((hA _ (dk (r:=q) (j:=j) hq (.head _))).2.2 hf)) hd) (fun g v hv=>hv.ME)⟩
   ·cases hr
  ·cases hr
 ·exact Ok hE ho hr
def Ti (E:Env) (hm:List (Nat×Nat)) (T:Nat) (px:A) (h:H) (K:A→H→Fp→Option β):Option β:=match DX hm T with
 | some q=>match dA E.fO T,px.cells with
  | some e,some ps=>match e.t with
   | some t=>match fixC 64 t ps h with
    | some (y5,h1,T1)=>match te t y5 with
     | some x=>I4 h1 q t x (fun j h'=>K (.tp (.c_ q j) []) h' (.wr (kB q::T1)))
     | none=>none
    | none=>none
   | none=>none
  | _,_=>none
 | none=>Lf E T px h K
theorem Step.ad7 {T1:List Nat} {h1 h2:H} {us:List Up} {x:Ob} {pv:A} {q j:Nat} (c1:hp h1=app us (hp h)) (c2:∀u∈us,aR (.wr T1) u.id=true) (hq:q<64) (hf:(hp h1).fr (ig q j)) (hh:hp h2=app [.new (ig q j) x] (hp h1)) (hd:∀c,o.op≠.defer c)
  (k:∀S2 g w a,bO (.wr T1) (hp h) S2→(app us S2).fr (ig q j)→Inv g S2 w→(∀x∈o.op.operands,V g (ρ x) (a.eval x))→xG P o S2 ((app us S2).new (ig q j) x) pv g w a):Step P o ρ h h2 (.wr (kB q::T1)) pv:=
 .of (us++[.new (ig q j) x]) (by rw [kQ,←c1,hh]) rfl (fun u hu=>by
  rcases zX.1 hu with hu | hu
  ·exact g9 (fun i hi=>.tail _ hi) (c2 u hu)
  ·rcases zF.1 hu with rfl;exact dk (r:=q) (j:=j) hq (.head _)) (fun S2 hA g w a next Q hI hv K'=>by
  have mz:(app us S2).fr (ig q j):=by
   have:=bO.app us hA
   rw [←c1] at this
   exact (this (ig q j) (dk hq (.head _))).2.2 hf
  have e:=kQ us [.new (ig q j) x] S2
  rw [e] at K'
  exact k S2 g w a (hA.mono fun i hi=>.tail _ hi) mz hI hv next Q K') hd
theorem Oa {S:Hp} {T:TypeId} {x:Operand} {qs:List A} {q:Nat} {g:G} {w:World} {a:Act} (ho:o.op = .box T x) (hI:Inv g S w) (e2:Vs g qs (a.eval x).cells.toList) (hf:S.fr q):xG P o S (S.new q (.cells qs)) (.ptr q 0) g w a:=by
 intro next Q K
 obtain ⟨h1,h2⟩:=hI.pY hf (cs:=qs) (vs:=(a.eval x).cells) T (by have:=e2.1;simp at this ⊢;omega) e2.all
 unfold Oper.wp
 simp only [execOp,ho,Instr.box,Sem.run_bind,Result.andThen_ok,Sem.run_pure,newVar,newRow,run_newObj]
 exact K _ _ _ (.ptr _ _ w.heap.size _ dK) h1 h2
theorem N9 {hm:List (Nat×Nat)} {T:Nat} {x:Operand} (ho:o.op = .box T x) (hr:Ti E hm T (ρ x) h K=some r):Out P o ρ h K r:=by
 have hd:∀c,o.op≠.defer c:=by rw [ho];intro c e;cases e
 unfold Ti at hr
 split at hr
 ·rename_i q _
  split at hr
  ·rename_i e ps ht xt
   split at hr
   ·rename_i t C1
    split at hr
    ·rename_i y5 h1 T1 hf
     split at hr
     ·rename_i y hy
      obtain ⟨us,c1,c2,c3⟩:=sO _ _ _ _ _ _ _ hf
      obtain ⟨h',j,k1,hq,mz,hh⟩:=Bv hr
      refine ⟨_,_,_,k1,Step.tx (pv:=.ptr (ig q j) 0) (.ad7 c1 c2 hq mz hh hd (fun S2 g w a hA hf hI hv=>?_)) (fun g v hv=>?_)⟩
      ·obtain ⟨g1,q1,q2,q3⟩:=c3 g S2 w _ hI hA ((hv x (by simp [ho,Op.operands])).cells xt)
       refine xG.pre ?_ q2
       exact Oa ho q1 ((lO t y5 y hy).2 _ q3) hf
      ·cases hv with
       | ptr _ _ b s h0=>exact .tp (.c_ q j) [] b s h0 trivial
     ·cases hr
    ·cases hr
   ·cases hr
  ·cases hr
 ·exact Ld ho hr
end
end
section
variable {P:Program} {E:Env} {o:Oper} {ρ:Operand→A} {h:H} {β:Type} {K:A→H→Fp→Option β} {r:β}
def fvK (E:Env) (T f:Nat) (px:A) (h:H) (K:A→H→Fp→Option β):Option β:=match px with
 | .agg cs=>match dA E.fO T with
  | some ⟨.struct fs,_,_,_,_,_,_⟩=>match fs[f]? with
   | some fd=>match dA E.fO fd.type with
    | some e=>bif l8 e.d then K (.agg ((cs.drop fd.offset).take e.size)) h .no else (match (cs.drop fd.offset).take e.size with
     | [p]=>Ir p (fun v=>K v h .no)
     | _=>none)
    | none=>none
   | none=>none
  | _=>none
 | _=>none
theorem V.abN {g:G} {cs:List A} {u:Value} (h:V g (.agg cs) u):∃vs,u = .agg vs∧Vs g cs vs.toList:=by
 cases h with
 | agg _ vs hl h1 hh=>
  refine ⟨vs,rfl,by simpa using hl,fun j c x a b=>?_⟩
  have b':vs[j]?=some x:=by simpa using b
  exact ⟨hh j c x a b',h1 x (zG b)⟩
theorem SE (hE:dq P E) {T f:Nat} {x:Operand} (ho:o.op = .field T x f) (hr:fvK E T f (ρ x) h K=some r):Out P o ρ h K r:=by
 have hd:∀c,o.op≠.defer c:=by rw [ho];intro c e;cases e
 unfold fvK at hr
 split at hr
 ·rename_i cs hx
  split at hr
  ·rename_i fs _ _ _ _ t _ ht
   split at hr
   ·rename_i fd hf
    split at hr
    ·rename_i e he
     have key:∀{S2:Hp} {v:A},(∀g xs,Vs g ((cs.drop fd.offset).take e.size) xs→∃u,valOf e.d xs u∧V g v u)→gY P o ρ S2 S2 v:=fun {S2 v} hk=>.value fun g w a _ hv=>by
      have e1:=hv x (by simp [ho,Op.operands])
      rw [hx] at e1
      obtain ⟨vs,e2,e3⟩:=e1.abN
      obtain ⟨u,h1,h2⟩:=hk g _ (e3.part fd.offset e.size)
      refine ⟨u,?_,h2⟩
      simp only [execOp,ho,e2,Sem.run_bind,Instr.field,run_underlying (hE.fO _ _ ht).u,Result.andThen_ok,hf,asAgg,Sem.run_pure,rX (hE.fO _ _ he) h1 w]
     cases ha:l8 e.d with
     | true=>
      rw [ha] at hr
      refine .pure hr (fun S2=>key fun g xs DU=>⟨.agg xs.toArray,by simp [valOf,ha],?_⟩) hd
      exact .agg _ _ (by simpa using DU.1) (fun v hm=>by
       obtain ⟨j,hj⟩:=List.getElem?_of_mem hm
       simp only [List.toList_toArray] at hj
       have eh:j<((cs.drop fd.offset).take e.size).length:=by
        have:=(zB.1 hj).1;have:=DU.1;omega
       exact (DU.2 j _ v (zD eh) hj).2) (fun i c y h1 h2=>(DU.2 i c y h1 (by simpa using h2)).1)
     | false=>
      rw [ha] at hr
      simp only [cond_false] at hr
      split at hr
      ·rename_i p hp
       refine .sp hr (.pure (fun S2=>key fun g xs DU=>?_) hd)
       rw [hp] at DU
       obtain ⟨z,e1,e2⟩:=DU.single
       exact ⟨z,by simp [valOf,ha,e1],e2⟩
      ·cases hr
    ·cases hr
   ·cases hr
  ·cases hr
 ·cases hr
def isNil (py:A):Bool:=match py with
 | .v (.slice none 0 0)=>true
 | _=>false
theorem JZ {py:A} (h:isNil py=true):py = .v (.slice none 0 0):=by
 unfold isNil at h
 split at h
 ·rfl
 ·cases h
def KP (E:Env) (op:BinOp) (T:Nat) (X:Ref) (z:Nat) (h:H) (K:A→H→Fp→Option β):Option β:=bif isEq op then (match dA E.fO T with
  | some e=>match e.d with
   | .slice _=>lg h X (fun t l=>bif Nat.beq z t.size && Nat.blt 0 z then gd (bn 0 (len l)) (K (.v (.bool (G3 op false))) h (.rd [lf X])) else none)
   | _=>none
  | none=>none) else none
def SQ (E:Env) (op:BinOp) (T:Nat) (px py:A) (h:H) (K:A→H→Fp→Option β):Option β:=match px with
 | .tw X z=>bif isNil py then KP E op T X z h K else Lh E op T px py h K
 | .os r z o=>bif isNil py then opt o none (fun j=>KP E op T (.c_ r j) z h K) else Lh E op T px py h K
 | _=>Lh E op T px py h K
theorem MP {S:Hp} {op:BinOp} {T T' E:TypeId} {x y:Operand} (ho:o.op = .binOp op T x y T') (hT:P.underlying T=some (.slice E)) (tj:op = .eql∨op = .neq)
  (hy:ρ y = .v (.slice none 0 0)) (hx:∀g w v,Inv g S w→V g (ρ x) v→∃a n c,v = .slice (some a) n c):gY P o ρ S S (.v (.bool (if op = .eql then false else !false))):=
 .value fun g w a hI hv=>by
  have e2:=hv y (by simp [ho,Op.operands])
  rw [hy] at e2
  have e2:=e2.jC
  obtain ⟨A,n,c,h1⟩:=hx g w _ hI (hv x (by simp [ho,Op.operands]))
  have jb:=ES (P:=P) w hT (some A) n c
  refine ⟨.bool (if op = .eql then false else !false),?_,.v _⟩
  have mw:(eqGuard op T x y (.slice (some A) n c) (.slice none 0 0)).run P w = .ok () w:=by
   rcases tj with rfl | rfl<;>rfl
  rcases tj with rfl | rfl
  ·have hb:(binOp .eql T (.slice (some A) n c) (.slice none 0 0)).run P w = .ok (.bool false) w:=by
    simp only [binOp];simp [Op.equal,Op.maxDepth,jb]
   simp only [execOp,ho,h1,e2,Sem.run_bind,mw,Result.andThen_ok,if_true,hb,Sem.run_pure]
  ·have hb:(binOp .neq T (.slice (some A) n c) (.slice none 0 0)).run P w = .ok (.bool (!false)) w:=by
    simp only [binOp];simp [Op.equal,Op.maxDepth,jb]
   simp only [execOp,ho,h1,e2,Sem.run_bind,mw,Result.andThen_ok,hb,Sem.run_pure]
   rfl
theorem FL (hE:dq P E) {op:BinOp} {T T':TypeId} {x y:Operand} {X:Ref} {z:Nat} (ho:o.op = .binOp op T x y T') (hn:isNil (ρ y)=true) (hx:∀g v,V g (ρ x) v→V g (.tw X z) v) (hr:KP E op T X z h K=some r):Out P o ρ h K r:=by
 have hd:∀c,o.op≠.defer c:=by rw [ho];intro c e;cases e
 have hy:=JZ hn
 unfold KP at hr
 obtain ⟨hq,hr⟩:=ae hr
 split at hr
 ·rename_i e ht
  split at hr
  ·rename_i el HY
   obtain ⟨t,l,hr,hX,fN⟩:=gK hr
   obtain ⟨hz,hr⟩:=ae hr
   simp only [zC] at hz
   have Zc:=beq_eq hz.1
   have h0:=bW hz.2
   obtain ⟨hl,hr⟩:=cH hr
   have hl:0<l.length:=hl
   refine .read _ hr (fun S2 hA=>?_) hd
   have gh:=(hA _ (cJ hX (.head _))).1.trans fN
   rw [sv _ hq]
   refine MP ho (by rw [(hE.fO _ _ ht).u,HY]) (oj hq) hy (fun g w v hI hv=>?_)
   have hv:=hx _ _ hv
   rw [Zc] at hv
   rcases hv.uh hI (by omega) gh with ⟨ad,_,rfl,rfl⟩ | ⟨b,s,cap,d,_,rfl,_⟩
   ·cases hl
   ·exact ⟨_,_,_,rfl⟩
  ·cases hr
 ·cases hr
theorem N0 (hE:dq P E) {op:BinOp} {T T':TypeId} {x y:Operand} (ho:o.op = .binOp op T x y T') (hr:SQ E op T (ρ x) (ρ y) h K=some r):Out P o ρ h K r:=by
 unfold SQ at hr
 split at hr
 ·rename_i X z hx
  cases hn:isNil (ρ y) with
  | true=>
   rw [hn] at hr
   exact FL hE ho hn (fun g v hv=>by rwa [hx] at hv) hr
  | false=>
   rw [hn] at hr
   exact Aq hE ho hr
 ·rename_i ri z oo hx
  cases hn:isNil (ρ y) with
  | true=>
   rw [hn] at hr
   rcases kJ (show opt oo none (fun j=>KP E op T (.c_ ri j) z h K)=some r from hr) with ⟨_,h2⟩ | ⟨j,h1,h2⟩
   ·cases h2
   ·exact FL hE ho hn (fun g v hv=>by
     rw [hx] at hv
     cases hv with
     | os _ _ _ _ _ k1=>exact k1 j h1) h2
  | false=>
   rw [hn] at hr
   exact Aq hE ho hr
 ·exact Aq hE ho hr
end
section
open Go.RowKit
section
variable {P:Program} {E:Env} {o:Oper} {ρ:Operand→A} {h:H} {β:Type} {K:A→H→Fp→Option β} {r:β}
structure Ge (P:Program) (f:FuncId) (aa:List A) (h h':H) (T:Fp) (pv:A):Prop where
 out:∀i,aR T i=false→(hp h').ob i=(hp h).ob i∧((hp h').fr i↔(hp h).fr i)
 rd:∀i,wt T i=false→(hp h').ob i=(hp h).ob i∧((hp h').fr i↔(hp h).fr i)
 fn:EC P f
 ok:∀S2,bO T (hp h) S2→PC P f aa S2 (mb T (hp h') S2) pv
def RC (P:Program) (y:A) (aa:List A) (S S':Hp) (r:A):Prop:=
 ∀g w u (vs:List Value),Inv g S w→V g y u→aa.length=vs.length→(∀(i:Nat) (p:A) (v:Value),aa[i]?=some p→vs[i]?=some v→V g p v) →
  ∃(b:Nat) (rr:Loop),u = .func (.yield b) #[] #[]∧w.heap[b]?=some (.loop rr)∧rr.params.size=vs.length ∧
   RoundIn (FR none) 0 P b rr.fn ((rr.params.zip vs.toArray).foldl (fun tmps (t,a)=>tmps.setIfInBounds t a) rr.tmps) rr.assign rr.body w (fun e w'=>∃v g',e = .returned v∧V g' r v∧Inv g' S' w'∧Ext S g w S' g' w')
structure Q6 (P:Program) (y:A) (aa:List A) (h h':H) (T:Fp) (pv:A):Prop where
 out:∀i,aR T i=false→(hp h').ob i=(hp h).ob i∧((hp h').fr i↔(hp h).fr i)
 rd:∀i,wt T i=false→(hp h').ob i=(hp h).ob i∧((hp h').fr i↔(hp h).fr i)
 ok:∀S2,bO T (hp h) S2→RC P y aa S2 (mb T (hp h') S2) pv
theorem GU {y:A} {x:Operand} {xs:Array Operand} {ts:Array TypeId} {S S':Hp} {r:A} (ho:o.op = .call { callee:=.value x,args:=xs,argTypes:=ts }) (hx:ρ x=y) (h:RC P y (xs.toList.map ρ) S S' r):HN P o ρ S S' r:=by
 intro ro g w a next Q hI hv K
 have e1:=hx▸hv x (by simp [ho,Op.operands,Call.operands])
 obtain ⟨b,rr,hu,h1,h2,h3⟩:=h g w (a.eval x) (xs.toList.map a.eval) hI e1 (by simp) (fun i p v k1 k2=>by
  simp only [zL,Option.map_eq_some_iff,Array.getElem?_toList] at k1 k2
  obtain ⟨y,hy,rfl⟩:=k1
  obtain ⟨y',rn,rfl⟩:=k2
  rw [hy] at rn
  obtain rfl:=Option.some.inj rn
  exact hv y (by simp only [ho,Op.operands,Call.operands];exact Array.mem_append.2 (.inr (Array.mem_of_getElem? hy))))
 refine ⟨fun f _=>trivial,?_⟩
 rw [Oper.semAt_eq _ _ _ (by rw [ho];intro c h;cases h)]
 have ea : #[]++Array.map a.eval xs=(xs.toList.map a.eval).toArray:=by apply Array.ext';simp
 have e:(execOp a.eval o).run P w = .ok (.round b rr.fn ((rr.params.zip (xs.toList.map a.eval).toArray).foldl (fun tmps (t,a)=>tmps.setIfInBounds t a) rr.tmps) rr.assign rr.body) w:=by
  simp only [execOp,ho,resolve,hu,Deferred.ofValue,pure_bind,invoke]
  rw [ea]
  exact run_yield h1 (by simp [h2])
 rw [e]
 refine ⟨fun h=>by simp [FR,Fence.wide] at h,RoundIn.mono (F:=FR ro) h3 ?_⟩
 rintro e w' ⟨v,g',rfl,k1,k2,k3⟩
 exact K v g' w' k1 k2 k3
structure Cx where
 call:(β:Type)→FuncId→List A→H→(A→H→Fp→Option β)→Option β
 hm:List (Nat×Nat)
 wY:(β:Type)→A→List A→H→(A→H→Fp→Option β)→Option β
structure nM (P:Program) (cx:Cx):Prop where
 call:∀(β:Type) (f:FuncId) (aa:List A) (h:H) (K:A→H→Fp→Option β) (r:β),cx.call β f aa h K=some r→∃pv h' T,K pv h' T=some r∧Ge P f aa h h' T pv
 wY:∀(β:Type) (y:A) (aa:List A) (h:H) (K:A→H→Fp→Option β) (r:β),cx.wY β y aa h K=some r→∃pv h' T,K pv h' T=some r∧Q6 P y aa h h' T pv
def Lb (cx:Cx) (px:A) (aa:List A) (h:H) (K:A→H→Fp→Option β):Option β:=match px with
 | .fn f fi ca=>cx.call β f (fi++aa++ca) h K
 | .wY _ _ _ _ _ _ _=>cx.wY β px aa h K
 | _=>none
theorem La {cx:Cx} (hx:nM P cx) {x:Operand} {xs:Array Operand} {ts:Array TypeId} (ho:o.op = .call { callee:=.value x,args:=xs,argTypes:=ts }) (hr:Lb cx (ρ x) (xs.toList.map ρ) h K=some r):Out P o ρ h K r:=by
 have hd:∀c,o.op≠.defer c:=by rw [ho];intro c e;cases e
 unfold Lb at hr
 split at hr
 ·rename_i f fi ca yg
  obtain ⟨pv,h',T,k1,k2⟩:=hx.call β f _ h K r hr
  exact ⟨pv,h',T,k1,⟨k2.out,k2.rd,fun S2 hA=>(GR ho k2.fn yg (k2.ok S2 hA)).RP hd⟩⟩
 ·rename_i yg
  obtain ⟨pv,h',T,k1,k2⟩:=hx.wY β _ _ h K r hr
  exact ⟨pv,h',T,k1,⟨k2.out,k2.rd,fun S2 hA=>GU ho yg (yg▸k2.ok S2 hA)⟩⟩
 ·cases hr
def EP:Operand→Operand→Bool
 | .tmp i,.tmp j=>Nat.beq i j
 | _,_=>false
theorem A7 {x y:Operand} (h:EP x y=true):x=y:=by
 unfold EP at h
 split at h
 ·rw [beq_eq h]
 ·cases h
def neO:Operand→Operand→Bool
 | .tmp i,.tmp j=>!(Nat.beq i j)
 | .tmp _,.const _=>true
 | .const _,.tmp _=>true
 | _,_=>false
theorem Jv {x y:Operand} (h:neO x y=true):y≠x:=by
 rintro rfl
 cases y<;>simp [neO] at h
def A8:Option Operand→Option Operand→Bool
 | some x,some y=>EP x y
 | _,_=>false
theorem Iz {x y:Option Operand} (h:A8 x y=true):x=y:=by
 unfold A8 at h
 split at h
 ·rw [A7 h]
 ·cases h
def Tl (E:Env) (b:Builtin) (xs:List Operand) (ts:List TypeId) (ρ:Operand→A) (h:H) (K:A→H→Fp→Option β):Option β:=match b,xs,ts with
 | .append,[x,y],[T,T']=>bif Nat.beq T T' then Tn E T (ρ x) (ρ y) h K else none
 | .len,[x],[T]=>RW E T (ρ x) h K
 | .min,[x,y],_=>Ua false (ρ x) (ρ y) h K
 | .max,[x,y],_=>Ua true (ρ x) (ρ y) h K
 | .copy,[x,y],[T,_]=>K9 E T (ρ x) (ρ y) h K
 | .clear,[x],[T]=>Tf E T (ρ x) h K
 | .delete,[x,y],T::_=>JC E T (ρ x) (ρ y) h K
 | _,_,_=>none
theorem Oc (hE:dq P E) {b:Builtin} {xs:Array Operand} {ts:Array TypeId} (ho:o.op = .call { callee:=.builtin b,args:=xs,argTypes:=ts }) (hr:Tl E b xs.toList ts.toList ρ h K=some r):Out P o ρ h K r:=by
 obtain ⟨xs⟩:=xs
 obtain ⟨ts⟩:=ts
 simp only at hr
 unfold Tl at hr
 split at hr
 ·obtain ⟨hT,hk⟩:=ae hr
  clear hr
  obtain rfl:=beq_eq hT
  exact Og hE ho hk
 ·exact Na hE ho hr
 ·exact M6 ho hr
 ·exact M7 ho hr
 ·exact K8 hE ho hr
 ·exact N8 hE ho hr
 ·exact JB hE ho rfl hr
 ·cases hr
theorem HN.ahJ {P:Program} {YW:Op} {ρ:Operand→A} {S S':Hp} {v:A} (hd:∀c,o.op≠.defer c) (qC:∀c,YW≠.defer c) (hs:∀x∈YW.operands,x∈o.op.operands) (he:∀(g:G) (a:Act),(∀x∈o.op.operands,V g (ρ x) (a.eval x))→execOp a.eval o=execOp a.eval { o with op:=YW }) (h:HN P { o with op:=YW } ρ S S' v):HN P o ρ S S' v:=by
 intro r g w a next Q hI hv K
 have h1:=h r g w a next Q hI (fun x hx=>hv x (hs x hx)) K
 refine ⟨fun f _=>trivial,?_⟩
 have h2:=h1.2
 rw [Oper.semAt_eq _ _ _ qC] at h2
 rw [Oper.semAt_eq _ _ _ hd,he g a hv]
 exact h2
def Sb (E:Env) (T:Nat) (X:Ref) (z:Nat) (lo hi mx:Option A) (h:H) (K:A→H→Fp→Option β):Option β:=match dA E.fO T with
 | some ⟨.slice el,_,_,_,_,_,_⟩=>match dA E.fO el with
  | some e=>lg h X (fun t x=>bif Nat.beq z e.size && Nat.beq z t.size && Nat.blt 0 z then HK lo 0 (fun l=>HK hi 0 (fun n=>HK mx 0 (fun m=>gd (dD l n) (gd (dD n m) (gd (dD m (len x)) (K .dN h (.rd [lf X]))))))) else none)
  | none=>none
 | _=>none
theorem Ng (hE:dq P E) {T:Nat} {X:Ref} {z:Nat} {x lo hi mx:Operand} (ho:o.op = .slice T x (some lo) (some hi) (some mx)) (hx:ρ x = .tw X z) (hr:Sb E T X z (some (ρ lo)) (some (ρ hi)) (some (ρ mx)) h K=some r):Out P o ρ h K r:=by
 have hd:∀c,o.op≠.defer c:=by rw [ho];intro c e;cases e
 unfold Sb at hr
 split at hr
 ·rename_i el _ _ _ _ _ _ ht
  have hT:=(hE.fO _ _ ht).u
  split at hr
  ·rename_i e he
   have hz:=(hE.fO _ _ he).ti.size
   obtain ⟨t,x',hr,hX,fN⟩:=gK hr
   obtain ⟨hq,hr⟩:=ae hr
   simp only [zC] at hq
   have hq1:=beq_eq hq.1.1
   have Hg:=beq_eq hq.1.2
   have h0:=bW hq.2
   obtain ⟨l,hr,z4⟩:=mD (x:=some lo) hr
   obtain ⟨n,hr,z5⟩:=mD (x:=some hi) hr
   obtain ⟨m,hr,hmx⟩:=mD (x:=some mx) hr
   obtain ⟨h1,hr⟩:=cH hr
   obtain ⟨h2,hr⟩:=cH hr
   obtain ⟨h3,hr⟩:=cH hr
   have h1:l≤n:=h1
   have h2:n≤m:=h2
   have h3:m≤x'.length:=h3
   refine .read [lf X] hr (fun S2 hA=>vI ho hT hz z4 z5 hmx h1 h2 (fun g w v hI hv=>?_)) hd
   have gh:=(hA _ (cJ hX (.head _))).1.trans fN
   rw [hx,Hg] at hv
   obtain ⟨ad,cap,k1,k2,_,_⟩:=hv.Pt (lo:=l) (hi:=n) hI (by omega) gh h1 (by omega)
   exact ⟨ad,_,cap,k1,by omega,.dN _⟩
  ·cases hr
 ·cases hr
def Za:A→Bool
 | .tw _ _=>true
 | _=>false
def Rl (E:Env) (T:Nat) (px:A) (lo hi mx:Option A) (same:Bool) (h:H) (K:A→H→Fp→Option β):Option β:=bif same then It E T px lo hi mx true h K else bif Za px && lo.isSome && mx.isSome && hi.isSome then (match px with
 | .tw X z=>Sb E T X z lo hi mx h K
 | _=>none) else (match mx,hi with
 | some (.v (.int k m)),some (.v (.int k' n))=>if k=k' then gd (Qy m n) (It E T px lo hi hi true h K) else none
 | mx,hi=>It E T px lo hi mx false h K)
theorem Mi (hE:dq P E) {T:Nat} {x:Operand} {lo hi mx:Option Operand} (ho:o.op = .slice T x lo hi mx) (hr:Rl E T (ρ x) (lo.map ρ) (hi.map ρ) (mx.map ρ) (A8 mx hi) h K=some r):Out P o ρ h K r:=by
 unfold Rl at hr
 cases hb:A8 mx hi with
 | true=>rw [hb] at hr;exact yI hE ho (fun _=>Iz hb) hr
 | false=>
  rw [hb] at hr
  simp only [cond_false] at hr
  cases ht:(Za (ρ x) && (lo.map ρ).isSome && (mx.map ρ).isSome && (hi.map ρ).isSome) with
  | true=>
   rw [ht] at hr
   simp only [cond_true] at hr
   simp only [zC] at ht
   obtain ⟨lo',rfl⟩:=isSome_map ht.1.1.2
   obtain ⟨mx',rfl⟩:=isSome_map ht.1.2
   obtain ⟨QI,rfl⟩:=isSome_map ht.2
   split at hr
   ·rename_i X z hx
    exact Ng hE ho hx hr
   ·cases hr
  | false=>
  rw [ht] at hr
  simp only [cond_false] at hr
  split at hr
  ·rename_i k m k' n hm hn
   split at hr
   ·rename_i hk
    subst hk
    obtain ⟨he,hr1⟩:=cH hr
    clear hr
    have he:m=n:=he
    subst he
    cases hi with
    | none=>cases hn
    | some hi=>
    cases mx with
    | none=>cases hm
    | some mx=>
    have hn:ρ hi = .v (.int k m):=Option.some.inj hn
    have hm:ρ mx = .v (.int k m):=Option.some.inj hm
    obtain ⟨pv,h',T',k1,k2⟩:=yI (o:={ o with op:=.slice T x lo (some hi) (some hi) }) hE rfl (fun _=>rfl) hr1
    refine ⟨pv,h',T',k1,k2.out,k2.rd,fun S2 hA=>HN.ahJ (YW:=.slice T x lo (some hi) (some hi)) (by rw [ho];intro c e;cases e) (fun c e=>by cases e) (fun y hy=>?_) (fun g a hv=>?_) (k2.ok S2 hA)⟩
    ·rw [ho]
     simp only [Op.operands,Array.mem_append] at hy ⊢
     rcases hy with (hy | hy) | hy
     ·exact .inl (.inl hy)
     ·exact .inl (.inr hy)
     ·exact .inl (.inr hy)
    ·have e1:=hv mx (by rw [ho];simp [Op.operands])
     have e2:=hv hi (by rw [ho];simp [Op.operands])
     rw [hm] at e1
     rw [hn] at e2
     have e3:=e1.jC.trans e2.jC.symm
     simp only [execOp,ho,Option.map_some,e3]
   ·cases hr
  ·exact yI hE ho (fun h=>by cases h) hr
def opK (E:Env) (cx:Cx) (op:Op) (ρ:Operand→A) (h:H) (K:A→H→Fp→Option β):Option β:=match op with
 | .move x=>mvK (ρ x) h K
 | .assign x=>mvK (ρ x) h K
 | .pick c x y=>Ja (ρ c) (ρ x) (ρ y) h K
 | .extract x i=>SP (ρ x) i h K
 | .binOp op T x y _=>SQ E op T (ρ x) (ρ y) h K
 | .unOp op _ x=>unK op (ρ x) h K
 | .convert s d x=>cvK E s d (ρ x) h K
 | .nilCheck x=>Y0 (ρ x) h K
 | .fieldAddr T x f=>SJ E T f (ρ x) h K
 | .field T x f=>fvK E T f (ρ x) h K
 | .indexAddr T x y=>ixK E T (ρ x) y (ρ y) h K
 | .load T x=>RY E T (ρ x) h K
 | .store T x y=>stK E T (ρ x) (ρ y) h K
 | .alloc T=>To E cx.hm T h K
 | .box T x=>Ti E cx.hm T (ρ x) h K
 | .build T ps=>Tm E T ρ ps.toList h K
 | .buildSlice T n ps=>Tj E T n ρ ps.toList h K
 | .makeSlice T x y=>mkK E T (EP x y) (ρ x) h K
 | .slice T x lo hi mx=>Rl E T (ρ x) (lo.map ρ) (hi.map ρ) (mx.map ρ) (A8 mx hi) h K
 | .makeFunc (.func f) fi ca=>Y4 f (fi.toList.map ρ) (ca.toList.map ρ) h K
 | .makeMap _ none=>Y3 h K
 | .lookup T x y ok=>RV E T ok (ρ x) (ρ y) h K
 | .mapUpdate T x y z=>Ff E T false (neO y z) (ρ x) (ρ y) (ρ z) h K
 | .insert T x y z=>Ff E T true (neO y z) (ρ x) (ρ y) (ρ z) h K
 | .call c=>match c.callee with
  | .value x=>Lb cx (ρ x) (c.args.toList.map ρ) h K
  | .builtin b=>Tl E b c.args.toList c.argTypes.toList ρ h K
  | _=>none
 | _=>none
theorem RR (hE:dq P E) {cx:Cx} (hx:nM P cx) (hr:opK E cx o.op ρ h K=some r):Out P o ρ h K r:=by
 generalize ho:o.op=op at hr
 have nd:∀{op:Op},o.op=op→(∀c,op≠.defer c)→∀c,o.op≠.defer c:=fun e k=>by rw [e];exact k
 unfold opK at hr
 split at hr
 ·exact .pure hr (fun S2=>Jj ho) (nd ho (fun c e=>by cases e))
 ·exact .pure hr (fun S2=>DF ho) (nd ho (fun c e=>by cases e))
 ·exact I_ ho hr
 ·exact NX ho hr
 ·exact N0 hE ho hr
 ·exact Rd ho hr
 ·exact SY hE ho hr
 ·exact M3 ho hr
 ·exact NR hE ho hr
 ·exact SE hE ho hr
 ·exact Sd hE ho hr
 ·exact RX hE ho hr
 ·exact Rk hE ho hr
 ·exact Oj hE ho hr
 ·exact N9 ho hr
 ·exact Od hE ho hr
 ·exact N_ hE ho hr
 ·exact RS hE ho A7 hr
 ·exact Mi hE ho hr
 ·exact M9 ho hr
 ·exact M8 ho hr
 ·exact M_ hE ho hr
 ·exact BJ hE Jv (.inl ⟨rfl,ho⟩) hr
 ·exact BJ hE Jv (.inr ⟨rfl,ho⟩) hr
 ·rename_i c
  obtain ⟨cal,xs,ts⟩:=c
  simp only at hr
  split at hr
  ·exact La hx ho hr
  ·exact Oc hE ho hr
  ·cases hr
 ·cases hr
end
end
section
open Go.RowKit
def Fp.cat (T U:Fp):Fp:=⟨T.all || U.all,T.rs++U.rs,T.w || U.w,T.ws++U.ws⟩
theorem k_ (T U:Fp) (i:Nat):aR (T.cat U) i=(aR T i || aR U i):=by
 unfold aR Fp.cat
 simp only [List.any_append]
 cases T.all<;>cases U.all<;>cases T.rs.any (Nat.beq (res i))<;>cases U.rs.any (Nat.beq (res i))<;>rfl
theorem vh {T U:Fp} {i:Nat} (h:wt (T.cat U) i=false):wt T i=false∧wt U i=false:=by
 have h:((T.w || U.w) && (T.ws++U.ws).any (Nat.beq (res i)))=false:=h
 show (T.w && T.ws.any (Nat.beq (res i)))=false∧(U.w && U.ws.any (Nat.beq (res i)))=false
 rw [List.any_append] at h
 generalize T.ws.any (Nat.beq (res i))=a at h ⊢
 generalize U.ws.any (Nat.beq (res i))=b at h ⊢
 generalize T.w=c at h ⊢
 generalize U.w=d at h ⊢
 revert h
 cases a<;>cases b<;>cases c<;>cases d<;>decide
theorem Fp.nJ (T U V:Fp):(T.cat U).cat V=T.cat (U.cat V):=by
 unfold Fp.cat
 simp [Bool.or_assoc]
theorem Fp.tL (T:Fp):Fp.no.cat T=T:=by cases T;rfl
theorem Fp.An (T:Fp):T.cat .no=T:=by cases T;simp [Fp.cat,Fp.no]
structure tu (h h':H) (T:Fp):Prop where
 out:∀i,aR T i=false→(hp h').ob i=(hp h).ob i∧((hp h').fr i↔(hp h).fr i)
 rd:∀i,wt T i=false→(hp h').ob i=(hp h).ob i∧((hp h').fr i↔(hp h).fr i)
theorem tu.refl (h:H):tu h h .no:=⟨fun _ _=>⟨rfl,Iff.rfl⟩,fun _ _=>⟨rfl,Iff.rfl⟩⟩
theorem tu.trans {h h1 h2:H} {T U:Fp} (a:tu h h1 T) (b:tu h1 h2 U):tu h h2 (T.cat U) where
 out:=fun i hi=>by
  rw [k_,Bool.or_eq_false_iff] at hi
  have e1:=a.out i hi.1
  have e2:=b.out i hi.2
  exact ⟨e2.1.trans e1.1,e2.2.trans e1.2⟩
 rd:=fun i hi=>by
  obtain ⟨h1,h2⟩:=vh hi
  have e1:=a.rd i h1
  have e2:=b.rd i h2
  exact ⟨e2.1.trans e1.1,e2.2.trans e1.2⟩
theorem bO.left {T U:Fp} {S S2:Hp} (h:bO (T.cat U) S S2):bO T S S2:=fun i hi=>h i (by rw [k_,hi];rfl)
theorem bO.right {h h1:H} {T U:Fp} {S2:Hp} (f:tu h h1 T) (k:bO (T.cat U) (hp h) S2):bO U (hp h1) (mb T (hp h1) S2):=fun i hi=>by
 show (if aR T i=true then (hp h1).ob i else S2.ob i)=(hp h1).ob i∧((if aR T i=true then (hp h1).fr i else S2.fr i)↔(hp h1).fr i)
 cases ht:aR T i with
 | true=>exact ⟨if_pos rfl,by rw [if_pos rfl]⟩
 | false=>
  have e:=f.out i ht
  have k:=k i (by rw [k_,hi];simp)
  rw [if_neg (by simp),if_neg (by simp)]
  exact ⟨k.1.trans e.1.symm,k.2.trans e.2.symm⟩
theorem jx {h1 h2:H} {T U:Fp} {S2:Hp} (f:tu h1 h2 U):mb U (hp h2) (mb T (hp h1) S2)=mb (T.cat U) (hp h2) S2:=by
 refine Hp.ext' (fun i=>?_) (fun i=>?_)
 ·show (if aR U i=true then (hp h2).ob i else (if aR T i=true then (hp h1).ob i else S2.ob i))=(if aR (T.cat U) i=true then (hp h2).ob i else S2.ob i)
  rw [k_]
  cases hu:aR U i with
  | true=>simp
  | false=>
   cases ht:aR T i with
   | true=>simp [(f.out i hu).1]
   | false=>simp
 ·show (if aR U i=true then (hp h2).fr i else (if aR T i=true then (hp h1).fr i else S2.fr i))↔(if aR (T.cat U) i=true then (hp h2).fr i else S2.fr i)
  rw [k_]
  cases hu:aR U i with
  | true=>simp
  | false=>
   cases ht:aR T i with
   | true=>simp [(f.out i hu).2]
   | false=>simp
theorem uZ {h h':H} {T:Fp} (f:tu h h' T):mb T (hp h') (hp h)=hp h':=Hp.ext' (fun i=>by
 show (if aR T i=true then _ else _)=_
 split
 ·rfl
 ·rename_i hi;exact (f.out i (by simpa using hi)).1.symm) (fun i=>by
 show (if aR T i=true then _ else _)↔_
 split
 ·exact Iff.rfl
 ·rename_i hi;exact (f.out i (by simpa using hi)).2.symm)
theorem y6 (S S2:Hp):mb .no S S2=S2:=Hp.ext' (fun i=>rfl) (fun i=>Iff.rfl)
def jX (n:Nat) (F:Tr A) (ds:List Nat) (S:Hp):St:=⟨ch F.get,n,ds,S⟩
def E6 (n:Nat) (F:Tr A):Operand→A
 | .tmp i=>bif Nat.blt i n then ch F.get i else .dN
 | .const v=>.v v
 | .global _=>.dN
 | .func f=>.fn f [] []
theorem DL {a b:Nat} (h:a<b):Nat.blt a b=true:=by simpa using h
theorem zd {a b:Nat} (h:¬a<b):Nat.blt a b=false:=by
 cases hx:Nat.blt a b with
 | false=>rfl
 | true=>exact absurd (bW hx) h
theorem tK (n:Nat) (F:Tr A) (ds:List Nat) (S:Hp):E6 n F=(jX n F ds S).CY 0:=by
 funext x
 cases x with
 | tmp i=>
  show (bif Nat.blt i n then ch F.get i else .dN)=(if i<n then ch F.get i else .dN)
  by_cases h:i<n
  ·rw [if_pos h,DL h];rfl
  ·rw [if_neg h,zd h];rfl
 | _=>rfl
def fcV {β:Type} (v:Value) (k:Value→β):β:=match v with
 | .int a n=>k (.int a n)
 | .bool b=>k (.bool b)
 | v=>k v
theorem SM {β:Type} (v:Value) (k:Value→β):fcV v k=k v:=by unfold fcV;split<;>rfl
def fcS {β:Type} (p:A) (k:A→β):β:=match p with
 | .v x=>fcV x (fun x=>k (.v x))
 | .ptr o off=>k (.ptr o off)
 | .tp x π=>k (.tp x π)
 | .tw x z=>k (.tw x z)
 | .tl t f l=>k (.tl t f l)
 | .op r o=>k (.op r o)
 | p=>k p
theorem KM {β:Type} (p:A) (k:A→β):fcS p k=k p:=by unfold fcS;split<;>first | exact SM _ _ | rfl
def SN {β:Type}:List A→(List A→β)→β
 | [],k=>k []
 | c::cs,k=>fcS c (fun c=>SN cs (fun cs=>k (c::cs)))
theorem wB {β:Type}:∀(l:List A) (k:List A→β),SN l k=k l
 | [],_=>rfl
 | c::cs,k=>by unfold SN;rw [KM];exact wB cs _
def Uy {β:Type} (p:A) (k:A→β):β:=match p with
 | .agg cs=>SN cs (fun cs=>k (.agg cs))
 | .mH cs=>SN cs (fun cs=>k (.mH cs))
 | .fn f fi ca=>SN fi (fun fi=>SN ca (fun ca=>k (.fn f fi ca)))
 | p=>fcS p k
theorem Ep {β:Type} (p:A) (k:A→β):Uy p k=k p:=by
 unfold Uy
 split
 ·exact wB _ _
 ·exact wB _ _
 ·rw [wB,wB]
 ·exact KM _ _
def y4 {β:Type} (F:Tr A) (d:Option Nat) (p:A) (k:Tr A→Option β):Option β:=match d with
 | none=>k F
 | some d=>Uy p (fun p=>ir F d (some p) k)
def Kp (l:List Nat) (F F':Tr A):Prop:=∀i,i∉l→ch F'.get i=ch F.get i
theorem Kp.refl (l:List Nat) (F:Tr A):Kp l F F:=fun _ _=>rfl
theorem Kp.trans {l k m:List Nat} {F F1 F2:Tr A} (a:Kp l F F1) (b:Kp k F1 F2) (hl:∀i∈l,i∈m) (hk:∀i∈k,i∈m):Kp m F F2:=fun i hi=>(b i (fun h=>hi (hk i h))).trans (a i (fun h=>hi (hl i h)))
theorem Kp.mono {l m:List Nat} {F F1:Tr A} (a:Kp l F F1) (hl:∀i∈l,i∈m):Kp m F F1:=fun i hi=>a i (fun h=>hi (hl i h))
theorem Kp.of {l:List Nat} {n:Nat} {F F':Tr A} (h:∀ds S,jX n F' ds S=jX n F ds S):Kp l F F':=fun i _=>congrFun (congrArg St.t (h [] ⟨fun _=>none,fun _=>False⟩)) i
theorem uX {β:Type} {F:Tr A} {d:Option Nat} {p:A} {k:Tr A→Option β} {r:β} (h:y4 F d p k=some r):∃F',k F'=some r∧Kp d.toList F F'∧∀(n:Nat) (ds:List Nat) (S S':Hp),((jX n F ds S).put d p).to S'=jX n F' ds S':=by
 cases d with
 | none=>exact ⟨F,h,.refl _ F,fun n ds S S'=>rfl⟩
 | some d=>
  have h:Uy p (fun p=>ir F d (some p) k)=some r:=h
  rw [Ep] at h
  obtain ⟨_,F',k1,k2⟩:=cz h
  refine ⟨F',k1,fun i hi=>by
   simp only [ch,k2]
   rw [if_neg (fun e=>hi (by rw [e];exact .head _))],fun n ds S S'=>?_⟩
  have e:(fun i=>if i=d then p else ch F.get i)=ch F'.get:=by
   funext i
   simp only [ch,k2]
   by_cases hi:i=d
   ·rw [if_pos hi,if_pos hi]
   ·rw [if_neg hi,if_neg hi]
  simp only [St.put,St.to,jX,e]
def NM {β:Type} (l0:List Oper) (n:Nat) (F:Tr A) (j:Nat) (want:Bool) (k:Tr A→Bool→Option β):Option β:=match (l0[j]?).bind (·.dst) with
 | some d=>match E6 n F (.tmp d) with
  | .v (.bool b)=>br b (ir F d (some (.v (.bool true))) (fun F'=>k F' want)) (ir F d (some (.v (.bool false))) (fun F'=>k F' (!want)))
  | .un=>k F false
  | _=>none
 | none=>none
theorem E5 {n:Nat} {F:Tr A} {d:Nat} {p:A} (h:E6 n F (.tmp d)=p) (hp:p≠.dN):ch F.get d=p:=by
 have h:(bif Nat.blt d n then ch F.get d else .dN)=p:=h
 cases hb:Nat.blt d n with
 | true=>rw [hb] at h;exact h
 | false=>rw [hb] at h;exact absurd h.symm hp
theorem FE {β:Type} {l0:List Oper} {n:Nat} {F:Tr A} {j:Nat} {want:Bool} {k:Tr A→Bool→Option β} {r:β} (h:NM l0 n F j want k=some r):∃F' b,k F' b=some r∧(∀ds S,jX n F' ds S=jX n F ds S)∧∀ds S,pI l0.toArray (jX n F ds S) j want=some b:=by
 unfold NM at h
 split at h
 ·rename_i d hd
  have gv:∀(b:Bool) (ds:List Nat) (S:Hp),((match E6 n F (.tmp d) with | .v (.bool b)=>some (b == want) | .un=>some false | _=>none):Option Bool)=some b→pI l0.toArray (jX n F ds S) j want=some b:=fun b ds S hb=>by
   unfold pI
   rw [List.getElem?_toArray,←tK,hd]
   exact hb
  split at h
  ·rename_i b hb
   have same:∀(F':Tr A) (c:Bool),b=c→F'.get=(fun m=>if m=d then some (.v (.bool c)) else F.get m)→∀ds S,jX n F' ds S=jX n F ds S:=fun F' c hc e ds S=>by
    have:ch F'.get=ch F.get:=by
     funext i
     by_cases hi:i=d
     ·subst hi
      rw [E5 hb (by intro h;cases h),hc]
      unfold ch
      rw [e];simp
     ·unfold ch
      rw [e];simp [hi]
    unfold jX
    rw [this]
   rcases t_ h with ⟨rfl,h1⟩ | ⟨rfl,h1⟩
   ·obtain ⟨_,F',k1,k2⟩:=cz h1
    exact ⟨F',want,k1,same F' true rfl k2,fun ds S=>gv _ ds S (by rw [hb];cases want<;>rfl)⟩
   ·obtain ⟨_,F',k1,k2⟩:=cz h1
    exact ⟨F',!want,k1,same F' false rfl k2,fun ds S=>gv _ ds S (by rw [hb];cases want<;>rfl)⟩
  ·rename_i hb
   exact ⟨F,false,h,fun ds S=>rfl,fun ds S=>gv _ ds S (by rw [hb])⟩
  ·cases h
 ·cases h
def MZ (p:A):A:=match p with
 | .op r (some j)=>.tp (.c_ r j) []
 | .op _ none=>.v (.pointer none)
 | .os r z (some j)=>.tw (.c_ r j) z
 | .os _ _ none=>.e0
 | .om r (some j)=>.mp (.c_ r j)
 | .om _ none=>.v (.map none)
 | p=>p
theorem MY {p:A} {g:G} {v:Value} (h:V g p v):V g (MZ p) v:=by
 unfold MZ
 split
 ·cases h with | op _ _ _ _ h1=>exact h1 _ rfl
 ·cases h with | op _ _ _ h0 _=>rw [h0 rfl];exact .v _
 ·cases h with | os _ _ _ _ _ h1=>exact h1 _ rfl
 ·cases h with | os _ _ _ _ h0 _=>exact h0 rfl
 ·cases h with | om _ _ _ _ h1=>exact h1 _ rfl
 ·cases h with | om _ _ _ h0 _=>rw [h0 rfl];exact .v _
 ·exact h
def opn (n:Nat) (F:Tr A) (l:List Nat) (x:Operand):A:=match x with
 | .tmp i=>bif l.any (Nat.beq i) then MZ (E6 n F (.tmp i)) else E6 n F (.tmp i)
 | x=>E6 n F x
theorem RN {n:Nat} {F:Tr A} {l:List Nat} {x:Operand} {g:G} {v:Value} (h:V g (E6 n F x) v):V g (opn n F l x) v:=by
 cases x with
 | tmp i=>
  show V g (bif l.any (Nat.beq i) then MZ (E6 n F (.tmp i)) else E6 n F (.tmp i)) v
  cases l.any (Nat.beq i) with
  | true=>exact MY h
  | false=>exact h
 | _=>exact h
def vm {β:Type}:List Nat→Tr A→(Tr A→Option β)→Option β
 | [],F,k=>k F
 | i::l,F,k=>match ch F.get i with
  | .op r v=>opt v (ir F i (some (.op r none)) (fun F=>vm l F k)) (fun j=>ir F i (some (.op r (some j))) (fun F=>vm l F k))
  | .os r z v=>opt v (ir F i (some (.os r z none)) (fun F=>vm l F k)) (fun j=>ir F i (some (.os r z (some j))) (fun F=>vm l F k))
  | .om r v=>opt v (ir F i (some (.om r none)) (fun F=>vm l F k)) (fun j=>ir F i (some (.om r (some j))) (fun F=>vm l F k))
  | _=>vm l F k
theorem yH {β:Type} {r:β}:∀(l:List Nat) (F:Tr A) (k:Tr A→Option β),vm l F k=some r→∃F',k F'=some r∧ch F'.get=ch F.get
 | [],F,k,h=>⟨F,h,rfl⟩
 | i::l,F,k,h=>by
  have same:∀(p:A),ch F.get i=p→ir F i (some p) (fun F=>vm l F k)=some r→∃F',k F'=some r∧ch F'.get=ch F.get:=fun p hp h=>by
   obtain ⟨_,F1,k1,k2⟩:=cz h
   obtain ⟨F2,k3,k4⟩:=yH l F1 k k1
   refine ⟨F2,k3,k4.trans ?_⟩
   funext m
   unfold ch at hp ⊢
   rw [k2]
   by_cases hm:m=i
   ·subst hm;simp only [if_true];exact hp.symm
   ·simp only [if_neg hm]
  unfold vm at h
  split at h
  ·rename_i q v hq
   rcases kJ h with ⟨e,h1⟩ | ⟨j,e,h1⟩
   ·exact same _ (by rw [hq,e]) h1
   ·exact same _ (by rw [hq,e]) h1
  ·rename_i q z v hq
   rcases kJ h with ⟨e,h1⟩ | ⟨j,e,h1⟩
   ·exact same _ (by rw [hq,e]) h1
   ·exact same _ (by rw [hq,e]) h1
  ·rename_i q v hq
   rcases kJ h with ⟨e,h1⟩ | ⟨j,e,h1⟩
   ·exact same _ (by rw [hq,e]) h1
   ·exact same _ (by rw [hq,e]) h1
  ·exact yH l F k h
def xb (x:Operand):List Nat:=match x with
 | .tmp i=>[i]
 | _=>[]
def XK (op:Op):List Nat:=match op with
 | .fieldAddr _ x _=>xb x
 | .indexAddr _ x _=>xb x
 | .load _ x=>xb x
 | .store _ x _=>xb x
 | .slice _ x _ _ _=>xb x
 | .lookup _ x _ _=>xb x
 | .mapUpdate _ x _ _=>xb x
 | .insert _ x _ _=>xb x
 | .nilCheck x=>xb x
 | .call c=>match c.callee with
  | .builtin _=>c.args.toList.flatMap xb
  | _=>[]
 | _=>[]
section
variable {P:Program} {E:Env} {cx:Cx} {n:Nat} {β:Type} {r:β}
def RQ (E:Env) (cx:Cx) (n:Nat) (op:Op) (F:Tr A) (h:H) (K:Tr A→A→H→Fp→Option β):Option β:=
 vm (XK op) F (fun F'=>opK E cx op (opn n F' (XK op)) h (fun pv h' T=>K F' pv h' T))
theorem Jm (hE:dq P E) (hx:nM P cx) {o:Oper} {F:Tr A} {h:H} {K:Tr A→A→H→Fp→Option β} (hr:RQ E cx n o.op F h K=some r) :
  ∃F',(∀ds S,jX n F' ds S=jX n F ds S)∧∃pv h' T,K F' pv h' T=some r∧Step P o (E6 n F') h h' T pv:=by
 obtain ⟨F',h1,h2⟩:=yH _ _ _ hr
 obtain ⟨pv,h',T,k1,k2⟩:=RR hE hx h1
 refine ⟨F',fun ds S=>by unfold jX;rw [h2],pv,h',T,k1,k2.out,k2.rd,fun S2 hA r g w a next Q hI hv=>k2.ok S2 hA r g w a next Q hI (fun x hx=>RN (hv x hx))⟩
def xE (l:List Oper):List Nat:=l.flatMap fun o=>o.dst.toList
def Dt (E:Env) (cx:Cx) (n:Nat) (l0:List Oper):List Oper→Tr A→H→Fp→(Tr A→H→Fp→Option β)→Option β
 | [],F,h,U,K=>K F h U
 | o::l,F,h,U,K=>match o.guard with
  | none=>RQ E cx n o.op F h (fun F pv h' T=>y4 F o.dst pv (fun F'=>Dt E cx n l0 l F' h' (U.cat T) K))
  | some (j,want)=>NM l0 n F j want (fun F b=>bif b then RQ E cx n o.op F h (fun F pv h' T=>y4 F o.dst pv (fun F'=>Dt E cx n l0 l F' h' (U.cat T) K)) else y4 F o.dst .un (fun F'=>Dt E cx n l0 l F' h U K))
def Lz (F:Tr A) (h:H) (F':Tr A) (h':H) (n:Nat) (T:Fp) (W:(Exit→St→Prop)→St→Prop) (e:Exit) (ds nQ:List Nat):Prop:=
 ∀S2,bO T (hp h) S2→∀Q:Exit→St→Prop,Q e (jX n F' nQ (mb T (hp h') S2))→W Q (jX n F ds S2)
theorem yQ (hE:dq P E) (hx:nM P cx) {l0:List Oper}:∀(l:List Oper) (F:Tr A) (h:H) (U:Fp) (K:Tr A→H→Fp→Option β),Dt E cx n l0 l F h U K=some r →
  ∃F' h' T,K F' h' (U.cat T)=some r∧Kp (xE l) F F'∧tu h h' T∧∀ro S0 g0 w0 ds,Lz F h F' h' n T (fun Q st=>IZ P ro S0 g0 w0 l0.toArray Q l st) .normal ds ds
 | [],F,h,U,K,hr=>⟨F,h,.no,by rw [Fp.An];exact hr,.refl _ F,.refl h,fun ro S0 g0 w0 ds S2 hA Q hq=>by
   rw [y6] at hq;exact Mz hq⟩
 | o::l,F,h,U,K,hr=>by
  have yes:∀(F:Tr A),RQ E cx n o.op F h (fun F pv h' T=>y4 F o.dst pv (fun F'=>Dt E cx n l0 l F' h' (U.cat T) K))=some r →
    (∀ds S,o.guard=none∨∃j want,o.guard=some (j,want)∧pI l0.toArray (jX n F ds S) j want=some true) →
    ∃F' h' T,K F' h' (U.cat T)=some r∧Kp (xE (o::l)) F F'∧tu h h' T∧∀ro S0 g0 w0 ds,Lz F h F' h' n T (fun Q st=>IZ P ro S0 g0 w0 l0.toArray Q (o::l) st) .normal ds ds:=fun F hr hg=>by
   obtain ⟨F0,e0,pv,h1,T1,k1,k2⟩:=Jm hE hx hr
   obtain ⟨F1,k3,R_,k4⟩:=uX k1
   obtain ⟨F2,h2,T2,k5,kp2,k6,k7⟩:=yQ hE hx l F1 h1 (U.cat T1) K k3
   have f1:tu h h1 T1:=⟨k2.out,k2.rd⟩
   have hg:∀ds S,o.guard=none∨∃j want,o.guard=some (j,want)∧pI l0.toArray (jX n F0 ds S) j want=some true:=fun ds S=>by rw [e0];exact hg ds S
   refine ⟨F2,h2,T1.cat T2,by rw [←Fp.nJ];exact k5,(Kp.of (l:=[]) e0).trans (m:=xE (o::l)) (R_.trans kp2 (fun i hi=>zQ _ hi) (fun i hi=>zS _ hi)) (fun i hi=>by cases hi) (fun i hi=>hi),f1.trans k6,fun ro S0 g0 w0 ds S2 hA Q hq=>?_⟩
   rw [←e0]
   have tj:HN P o ((jX n F0 ds S2).CY 0) (jX n F0 ds S2).S (mb T1 (hp h1) S2) pv:=by rw [←tK];exact k2.ok S2 hA.left
   have QF:IZ P ro S0 g0 w0 l0.toArray Q l (((jX n F0 ds S2).put o.dst pv).to (mb T1 (hp h1) S2)):=by
    rw [k4]
    refine k7 ro S0 g0 w0 ds _ (bO.right f1 hA) Q ?_
    rw [jx k6];exact hq
   rcases hg ds S2 with hg | ⟨j,want,hg,hv⟩
   ·exact IY 0 hg tj QF
   ·exact yW 0 hg hv tj QF
  unfold Dt at hr
  split at hr
  ·rename_i hg
   exact yes F hr (fun _ _=>.inl hg)
  ·rename_i j want hg
   obtain ⟨F1,b,k1,k2,k3⟩:=FE hr
   cases b with
   | true=>
    simp only [cond_true] at k1
    obtain ⟨F',h',T,q1,qp,q2,q3⟩:=yes F1 k1 (fun ds S=>.inr ⟨j,want,hg,by rw [k2];exact k3 ds S⟩)
    refine ⟨F',h',T,q1,(Kp.of (l:=[]) k2).trans qp (fun i hi=>by cases hi) (fun i hi=>hi),q2,fun ro S0 g0 w0 ds S2 hA Q hq=>?_⟩
    rw [←k2]
    exact q3 ro S0 g0 w0 ds S2 hA Q hq
   | false=>
    simp only [cond_false] at k1
    obtain ⟨F2,k4,R_,k5⟩:=uX k1
    obtain ⟨F',h',T,q1,qp,q2,q3⟩:=yQ hE hx l F2 h U K k4
    refine ⟨F',h',T,q1,(Kp.of (l:=[]) k2).trans (m:=xE (o::l)) (R_.trans qp (fun i hi=>zQ _ hi) (fun i hi=>zS _ hi)) (fun i hi=>by cases hi) (fun i hi=>hi),q2,fun ro S0 g0 w0 ds S2 hA Q hq=>?_⟩
    have:=q3 ro S0 g0 w0 ds S2 hA Q hq
    rw [←k5 n ds S2 S2] at this
    rw [←k2]
    refine Bu hg (by rw [k2];exact k3 ds S2) ?_
    rw [←yY (st:=jX n F1 ds S2)]
    exact this
end
end
section
open Go.RowKit
def kW (kp:Nat→Bool) (i:Nat):Bool:=!(Nat.blt i 16777216) && kp (oT i)
def G.nw (kp:Nat→Bool) (g:G):G:=⟨fun i=>if kW kp i=true then g.ck i else none,g.mem,g.lp⟩
theorem zo (kp:Nat→Bool) (g:G):Le (g.nw kp) g:=⟨fun o p h=>(by
 have h:(if kW kp o=true then g.ck o else none)=some p:=h
 split at h
 ·exact h
 ·cases h),fun _ _ _ h=>h,fun _ _ h=>h⟩
theorem lZ {kp:Nat→Bool} {g:G} {i:Nat} (h:kW kp i=true):(g.nw kp).ck i=g.ck i:=if_pos h
theorem JP {kp:Nat→Bool} {g:G} {i:Nat} (h:kW kp i=false):(g.nw kp).ck i=none:=if_neg (by rw [h];simp)
def VK (kp:Nat→Bool) (c:A):Prop:=∀g v,V g c v→V (g.nw kp) c v
def UD (kp:Nat→Bool):Ob→Prop
 | .cells cs=>∀c∈cs,VK kp c
 | .eL (.map es)=>∀e∈es,VK kp e.1∧VK kp e.2
 | .eL _=>False
def G.join (kp:Nat→Bool) (g0 g:G):G:=⟨fun i=>if kW kp i=true then g0.ck i else g.ck i,g0.mem,g0.lp⟩
theorem G8 (kp:Nat→Bool) (g0 g:G):(G.join kp g0 g).nw kp=g0.nw kp:=by
 unfold G.join G.nw
 congr 1
 funext i
 by_cases h:kW kp i=true
 ·simp only [if_pos h]
 ·simp only [if_neg h]
theorem VK.join {kp:Nat→Bool} {c:A} (h:VK kp c) {g0 g:G} {v:Value} (hv:V g0 c v):V (G.join kp g0 g) c v:=by
 have:=h g0 v hv
 rw [←G8 kp g0 g] at this
 exact this.mono (zo kp _)
def Hp.join (kp:Nat→Bool) (S0 S:Hp):Hp:=⟨fun i=>if kW kp i=true then S0.ob i else S.ob i,fun i=>if kW kp i=true then S0.fr i else S.fr i⟩
theorem pZ.conv {g g':G} {w w':World} {b t:Nat} {cs:List A} (h:pZ g w b t cs) (hw:w'.heap[b]?=w.heap[b]?) (hc:∀c∈cs,∀v,V g c v→V g' c v):pZ g' w' b t cs:=by
 obtain ⟨cur,ty,k2,tg,k3⟩:=h
 exact ⟨cur,ty,hw.trans k2,tg,k3.1,fun j c x e1 e2=>⟨hc c (zG e1) _ (k3.2 j c x e1 e2).1,(k3.2 j c x e1 e2).2⟩⟩
theorem KA {kp:Nat→Bool} {g:G} {S S0:Hp} {w:World} (hI:Inv g S w) (h0:∀i,kW kp i=false→S0.ob i=none) (h1:∀i,kW kp i=true→S.ob i=S0.ob i∧(S.fr i↔S0.fr i)) (hk:∀i x,S0.ob i=some x→UD kp x):Inv (g.nw kp) S0 w:=by
 have kn:∀{i x},S0.ob i=some x→kW kp i=true∧S.ob i=some x:=fun {i x} h=>by
  cases ki:kW kp i with
  | false=>rw [h0 i ki] at h;cases h
  | true=>exact ⟨rfl,(h1 i ki).1.trans h⟩
 have sub:=(zo kp g).ck
 refine ⟨fun o cs h=>?_,fun o x h=>?_,fun o h=>?_,fun o b s h=>hI.lt o b s (sub _ _ h),fun o o' x x' b s s' e1 e2 e3 e4=>hI.inj o o' x x' b s s' (kn e1).2 (kn e2).2 (sub _ _ e3) (sub _ _ e4),hI.mem,fun o b s i x e1 e2=>hI.pC o b s i x (kn e1).2 (sub _ _ e2),hI.lp⟩
 ·obtain ⟨q1,q2⟩:=kn h
  rw [lZ q1]
  rcases hI.cells o cs q2 with ⟨k1,k2⟩ | ⟨b,t,k1,k2⟩
  ·exact .inl ⟨k1,k2⟩
  ·exact .inr ⟨b,t,k1,k2.conv rfl (fun c hc v hv=>hk o _ h c hc g v hv)⟩
 ·obtain ⟨q1,q2⟩:=kn h
  obtain ⟨b,s,ob,k1,k2,k3⟩:=hI.eL o x q2
  refine ⟨b,s,ob,by rw [lZ q1];exact k1,k2,?_⟩
  have hx:=hk o _ h
  cases x with
  | map es=>
   obtain ⟨lT,clock,e1,e2,e3⟩:=k3
   exact ⟨lT,clock,e1,e2,fun i e q a1 a2=>let hq:=hx q (zG a2);⟨hq.1 g _ (e3 i e q a1 a2).1,hq.2 g _ (e3 i e q a1 a2).2⟩⟩
  | _=>exact hx.elim
 ·cases ki:kW kp o with
  | false=>exact JP ki
  | true=>rw [lZ ki];exact hI.fresh o ((h1 o ki).2.2 h)
theorem Hs {kp:Nat→Bool} {g Kz:G} {S S0 C7:Hp} {w w':World} (hI:Inv g S w) (h0:∀i,kW kp i=false→S0.ob i=none) (h1:∀i,kW kp i=true→S.ob i=S0.ob i∧(S.fr i↔S0.fr i))
  (hk:∀i x,kW kp i=true→C7.ob i=some x→UD kp x) (H3:Inv Kz C7 w') (x0:Ext S0 (g.nw kp) w C7 Kz w') :
  Inv (G.join kp Kz g) (Hp.join kp C7 S) w'∧Ext S g w (Hp.join kp C7 S) (G.join kp Kz g) w':=by
 have ow:∀{k},uG S0 (g.nw kp) k→∃o s x,kW kp o=true∧S.ob o=some x∧g.ck o=some (some k,s):=fun {k} ⟨o,s,x,e1,e2⟩=>by
  cases ki:kW kp o with
  | false=>rw [h0 o ki] at e1;cases e1
  | true=>exact ⟨o,s,x,ki,(h1 o ki).1.trans e1,(zo kp g).ck _ _ e2⟩
 have RM:∀{k},uG S0 (g.nw kp) k→uG S g k:=fun {k} h=>by
  obtain ⟨o,s,x,_,e1,e2⟩:=ow h
  exact ⟨o,s,x,e1,e2⟩
 have other:∀{o x b s},kW kp o=false→S.ob o=some x→g.ck o=some (some b,s)→¬uG S0 (g.nw kp) b:=fun {o x b s} hn e1 e2 h=>by
  obtain ⟨o',s',x',k1,k2,k3⟩:=ow h
  have:=hI.inj o o' x x' b s s' e1 k2 e2 k3
  rw [this,k1] at hn;cases hn
 have ji:∀{i},kW kp i=true→(G.join kp Kz g).ck i=Kz.ck i∧(Hp.join kp C7 S).ob i=C7.ob i∧((Hp.join kp C7 S).fr i↔C7.fr i):=fun {i} h=>⟨if_pos h,if_pos h,by show (if kW kp i=true then _ else _)↔_;rw [if_pos h]⟩
 have jo:∀{i},kW kp i=false→(G.join kp Kz g).ck i=g.ck i∧(Hp.join kp C7 S).ob i=S.ob i∧((Hp.join kp C7 S).fr i↔S.fr i):=fun {i} h=>by
  have h':¬kW kp i=true:=by rw [h];simp
  exact ⟨if_neg h',if_neg h',by show (if kW kp i=true then _ else _)↔_;rw [if_neg h']⟩
 have le:Le g (G.join kp Kz g):=⟨fun o p e=>(by
  cases ki:kW kp o with
  | true=>rw [(ji ki).1];exact x0.le.ck o p (by rw [lZ ki];exact e)
  | false=>rw [(jo ki).1];exact e),x0.le.mem,x0.le.lp⟩
 have heap:∀{o x b s},kW kp o=false→S.ob o=some x→g.ck o=some (some b,s)→w'.heap[b]?=w.heap[b]?:=fun {o x b s} hn e1 e2=>x0.frame b (hI.lt o b s e2) (other hn e1 e2)
 refine ⟨⟨fun o cs h=>?_,fun o x h=>?_,fun o h=>?_,fun o b s h=>?_,fun o o' x x' b s s' e1 e2 e3 e4=>?_,H3.mem,fun o b s i x e1 e2=>?_,H3.lp⟩,⟨le,x0.os,x0.tape,x0.output,x0.size,fun k hk1 Uo=>x0.frame k hk1 (fun h=>Uo (RM h)),fun k h=>?_,fun o p h=>?_,fun o h=>?_,fun b i x h=>?_,fun b l h=>x0.lpo b l h⟩⟩
 ·cases ki:kW kp o with
  | true=>
   rw [(ji ki).2.1] at h
   rw [(ji ki).1]
   rcases H3.cells o cs h with ⟨k1,k2⟩ | ⟨b,t,k1,k2⟩
   ·exact .inl ⟨k1,k2⟩
   ·exact .inr ⟨b,t,k1,k2.conv rfl (fun c hc v hv=>(hk o _ ki h c hc).join hv)⟩
  | false=>
   rw [(jo ki).2.1] at h
   rw [(jo ki).1]
   rcases hI.cells o cs h with ⟨k1,k2⟩ | ⟨b,t,k1,k2⟩
   ·exact .inl ⟨k1,k2⟩
   ·exact .inr ⟨b,t,k1,k2.conv (heap ki h k1) (fun c hc v hv=>hv.mono le)⟩
 ·cases ki:kW kp o with
  | true=>
   rw [(ji ki).2.1] at h
   rw [(ji ki).1]
   obtain ⟨b,s,ob,k1,k2,k3⟩:=H3.eL o x h
   refine ⟨b,s,ob,k1,k2,?_⟩
   have hx:=hk o _ ki h
   cases x with
   | map es=>
    obtain ⟨lT,clock,e1,e2,e3⟩:=k3
    exact ⟨lT,clock,e1,e2,fun i e q a1 a2=>let hq:=hx q (zG a2);⟨hq.1.join (e3 i e q a1 a2).1,hq.2.join (e3 i e q a1 a2).2⟩⟩
   | _=>exact hx.elim
  | false=>
   rw [(jo ki).2.1] at h
   rw [(jo ki).1]
   obtain ⟨b,s,ob,k1,k2,k3⟩:=hI.eL o x h
   exact ⟨b,s,ob,k1,(heap ki h k1).trans k2,k3.mono le⟩
 ·cases ki:kW kp o with
  | true=>rw [(ji ki).1];exact H3.fresh o ((ji ki).2.2.1 h)
  | false=>rw [(jo ki).1];exact hI.fresh o ((jo ki).2.2.1 h)
 ·cases ki:kW kp o with
  | true=>rw [(ji ki).1] at h;exact H3.lt o b s h
  | false=>rw [(jo ki).1] at h;exact Nat.lt_of_lt_of_le (hI.lt o b s h) x0.size
 ·have mixed:∀{o o' x x' b s s'},kW kp o=true→kW kp o'=false→C7.ob o=some x→S.ob o'=some x'→Kz.ck o=some (some b,s)→g.ck o'=some (some b,s')→False:=fun {o o' x x' b s s'} h1 h2 e1 e2 e3 e4=>by
   rcases x0.own b ⟨o,s,x,e1,e3⟩ with h | h
   ·exact other h2 e2 e4 h
   ·have:=hI.lt o' b s' e4;omega
  cases ki:kW kp o with
  | true=>
   rw [(ji ki).2.1] at e1
   rw [(ji ki).1] at e3
   cases wj:kW kp o' with
   | true=>
    rw [(ji wj).2.1] at e2
    rw [(ji wj).1] at e4
    exact H3.inj o o' x x' b s s' e1 e2 e3 e4
   | false=>
    rw [(jo wj).2.1] at e2
    rw [(jo wj).1] at e4
    exact (mixed ki wj e1 e2 e3 e4).elim
  | false=>
   rw [(jo ki).2.1] at e1
   rw [(jo ki).1] at e3
   cases wj:kW kp o' with
   | true=>
    rw [(ji wj).2.1] at e2
    rw [(ji wj).1] at e4
    exact (mixed wj ki e2 e1 e4 e3).elim
   | false=>
    rw [(jo wj).2.1] at e2
    rw [(jo wj).1] at e4
    exact hI.inj o o' x x' b s s' e1 e2 e3 e4
 ·cases ki:kW kp o with
  | true=>
   rw [(ji ki).2.1] at e1
   rw [(ji ki).1] at e2
   exact H3.pC o b s i x e1 e2
  | false=>
   rw [(jo ki).2.1] at e1
   rw [(jo ki).1] at e2
   show Kz.mem b i=none
   cases hm:Kz.mem b i with
   | none=>rfl
   | some y=>
    rcases x0.zh b i y hm with h | h | h
    ·have:=hI.pC o b s i x e1 e2
     have h:g.mem b i=some y:=h
     rw [this] at h;cases h
    ·exact absurd h (other ki e1 e2)
    ·have:=hI.lt o b s e2;omega
 ·obtain ⟨o,s,x,e1,e2⟩:=h
  cases ki:kW kp o with
  | true=>
   rw [(ji ki).2.1] at e1
   rw [(ji ki).1] at e2
   rcases x0.own k ⟨o,s,x,e1,e2⟩ with h | h
   ·exact .inl (RM h)
   ·exact .inr h
  | false=>
   rw [(jo ki).2.1] at e1
   rw [(jo ki).1] at e2
   exact .inl ⟨o,s,x,e1,e2⟩
 ·cases ki:kW kp o with
  | true=>
   rw [(ji ki).1] at h
   rcases x0.QS o p h with h | ⟨h,k⟩
   ·rw [lZ ki] at h;exact .inl h
   ·rw [lZ ki] at h;exact .inr ⟨h,(h1 o ki).2.2 k⟩
  | false=>rw [(jo ki).1] at h;exact .inl h
 ·cases ki:kW kp o with
  | true=>exact (h1 o ki).2.2 (x0.fr o ((ji ki).2.2.1 h))
  | false=>exact (jo ki).2.2.1 h
 ·rcases x0.zh b i x h with h | h | h
  ·exact .inl h
  ·exact .inr (.inl (RM h))
  ·exact .inr (.inr h)
end
section
open Go.RowKit
theorem PC.frame {P:Program} {f:FuncId} {kp:Nat→Bool} {aa:List A} {S S0 C7:Hp} {r:A} (h0:∀i,kW kp i=false→S0.ob i=none) (h1:∀i,kW kp i=true→S.ob i=S0.ob i∧(S.fr i↔S0.fr i)) (hk:∀i x,S0.ob i=some x→UD kp x)
  (D0:∀i x,kW kp i=true→C7.ob i=some x→UD kp x) (ha:∀a∈aa,VK kp a) (hr:VK kp r) (h:PC P f aa S0 C7 r):PC P f aa S (Hp.join kp C7 S) r:=fun g w vs hI hl hv=>by
 refine (h (g.nw kp) w vs (KA hI h0 h1 hk) hl (fun i p v e1 e2=>ha p (zG e1) g v (hv i p v e1 e2))).mono ?_
 rintro e w' ⟨v,g',rfl,k1,k2,k3⟩
 obtain ⟨q1,q2⟩:=Hs hI h0 h1 D0 k2 k3
 exact ⟨v,_,rfl,hr.join k1,q1,q2⟩
def tO (kp:Nat→Bool):Ty→Bool
 | .int _=>true
 | .bool=>true
 | .unit=>true
 | .pair a b=>tO kp a && tO kp b
 | .arr _ t=>tO kp t
 | .cN _=>true
 | .ptr r=>Nat.blt r 64 && kp r
 | .dR r=>Nat.blt r 64 && kp r
 | .kA r _=>Nat.blt r 64 && kp r
 | .td r _=>Nat.blt r 64 && kp r
 | .mp r=>Nat.blt r 64 && kp r
theorem zn {kp:Nat→Bool} {r j:Nat} (h:r<64) (hk:kp r=true):kW kp (ig r j)=true:=by
  have h1:=qY r j
  have h2:=n5 (j:=j) h
  generalize ig r j=i at h1 h2
  unfold kW
  rw [h2,hk,Bool.and_true]
  cases hx:Nat.blt i 16777216 with
  | false=>rfl
  | true=>
            have:i<16777216:=by simpa using hx
            unfold dO at h1;omega
theorem VK.v {kp:Nat→Bool} (x:Value):VK kp (.v x):=fun g v h=>by cases h;exact .v _
theorem VK.tp {kp:Nat→Bool} {r j:Nat} (h:r<64) (hk:kp r=true):VK kp (.tp (.c_ r j) []):=fun g v hv=>by
 cases hv with
 | tp _ _ b s cV hp=>exact .tp _ _ b s (by rw [show (Ref.c_ r j).id=ig r j from rfl,lZ (zn h hk)];exact cV) hp
theorem VK.tw {kp:Nat→Bool} {r j z:Nat} (h:r<64) (hk:kp r=true):VK kp (.tw (.c_ r j) z):=fun g v hv=>by
 have e:(g.nw kp).ck (Ref.c_ r j).id=g.ck (Ref.c_ r j).id:=lZ (zn h hk)
 cases hv with
 | AA _ _ ad cV=>exact .AA _ _ ad (by rw [e];exact cV)
 | tw _ _ n b cap t cV hn hx hp d hd=>exact .tw _ _ n b cap t (by rw [e];exact cV) hn hx hp d hd
theorem VK.mp {kp:Nat→Bool} {r j:Nat} (h:r<64) (hk:kp r=true):VK kp (.mp (.c_ r j)):=fun g v hv=>by
 cases hv with
 | mp _ b s cV=>exact .mp _ b s (by rw [show (Ref.c_ r j).id=ig r j from rfl,lZ (zn h hk)];exact cV)
theorem VK.tl {kp:Nat→Bool} {t:Ty} {f:Bool} {l:List t.T}:VK kp (.tl t f l):=fun g v hv=>by
 cases hv with
 | tl _ _ _ _ hd=>exact .tl t f l v hd
theorem B7 {α β:Type} {f:α→List β} {p:β→Prop} (h:∀x,∀c∈f x,p c) (l:List α):∀c∈l.flatMap f,p c:=fun c hc=>by
 obtain ⟨x,_,hx⟩:=List.mem_flatMap.1 hc
 exact h x c hx
theorem rm {kp:Nat→Bool}:∀(t:Ty) (x:t.T),tO kp t=true→∀c∈aJ t x,VK kp c
 | .int k,x,_,c,hc=>by rcases zF.1 hc with rfl;exact .v _
 | .bool,x,_,c,hc=>by rcases zF.1 hc with rfl;exact .v _
 | .unit,x,_,c,hc=>by cases hc
 | .pair a b,x,h,c,hc=>by
  simp only [tO,zC] at h
  rcases zX.1 hc with hc | hc
  ·exact rm a x.1 h.1 c hc
  ·exact rm b x.2 h.2 c hc
 | .arr n t,l,h,c,hc=>B7 (f:=fun i=>aJ t (nth t.dS l i)) (fun i c hc=>rm t _ h c hc) _ c hc
 | .cN t,l,_,c,hc=>by rcases zF.1 hc with rfl;exact .tl
 | .ptr r,x,h,c,hc=>by
  simp only [tO,zC] at h
  rcases zF.1 hc with rfl
  intro g v hv
  cases hv with
  | op _ _ _ h0 h1=>exact .op r x v h0 (fun j e=>VK.tp (bW h.1) h.2 g v (h1 j e))
 | .dR r,j,h,c,hc=>by
  simp only [tO,zC] at h
  rcases zF.1 hc with rfl
  exact .tp (bW h.1) h.2
 | .kA r z,x,h,c,hc=>by
  simp only [tO,zC] at h
  rcases zF.1 hc with rfl
  intro g v hv
  cases hv with
  | os _ _ _ _ h0 h1=>exact .os r z x v (fun e=>by cases h0 e with | e0 ad=>exact .e0 ad) (fun j e=>VK.tw (bW h.1) h.2 g v (h1 j e))
 | .td r z,j,h,c,hc=>by
  simp only [tO,zC] at h
  rcases zF.1 hc with rfl
  exact .tw (bW h.1) h.2
 | .mp r,x,h,c,hc=>by
  simp only [tO,zC] at h
  rcases zF.1 hc with rfl
  intro g v hv
  cases hv with
  | om _ _ _ h0 h1=>exact .om r x v h0 (fun j e=>VK.mp (bW h.1) h.2 g v (h1 j e))
theorem VK.agg {kp:Nat→Bool} {cs:List A} (h:∀c∈cs,VK kp c):VK kp (.agg cs):=fun g v hv=>by
 cases hv with
 | agg _ vs hl h1 h2=>exact .agg cs vs hl h1 (fun i c x e1 e2=>h c (zG e1) g x (h2 i c x e1 e2))
theorem VK.mH {kp:Nat→Bool} {cs:List A} (h:∀c∈cs,VK kp c):VK kp (.mH cs):=fun g v hv=>by
 cases hv with
 | mH _ vs hl h2=>exact .mH cs vs hl (fun i c x e1 e2=>h c (zG e1) g x (h2 i c x e1 e2))
theorem VK.dN {kp:Nat→Bool}:VK kp .dN:=fun g v _=>.dN v
theorem VK.pack {kp:Nat→Bool} {a:Bool} {t:Ty} (x:t.T) (h:tO kp t=true):VK kp (df a t x):=by
 unfold df
 cases a with
 | true=>exact .agg (rm t x h)
 | false=>
  simp only [cond_false]
  split
  ·rename_i c hc
   exact rm t x h c (by rw [hc];exact .head _)
  ·exact .dN
def RK.tO (kp:Nat→Bool):RK→Bool
 | .box t=>Bm.tO kp t
 | .row t=>Bm.tO kp t
 | .map _ tk _ tv=>Bm.tO kp tk && Bm.tO kp tv
theorem Gw {kp:Nat→Bool} {k:RK} {c:k.T} {j:Nat} {x:Ob} (hk:k.tO kp=true) (h:fQ k c j=some x):UD kp x:=by
 cases k with
 | box t=>
  have h:(match ny (α:=t.T) c j with | some x=>some (Ob.cells (aJ t x)) | none=>none)=some x:=h
  split at h
  ·cases h;exact rm t _ hk
  ·cases h
 | row t=>
  have h:(match ny (α:=Option (List t.T)) c j with | some (some l)=>some (Ob.cells (l.flatMap (aJ t))) | _=>none)=some x:=h
  split at h
  ·cases h;exact B7 (fun y c hc=>rm t y hk c hc) _
  ·cases h
 | map ka tk va tv=>
  have h:(match ny (α:=List (tk.T×tv.T)) c j with | some es=>some (Ob.eL (.map (aA ka tk va tv es))) | none=>none)=some x:=h
  simp only [RK.tO,zC] at hk
  split at h
  ·cases h
   intro e he
   obtain ⟨y,_,rfl⟩:=List.mem_map.1 he
   exact ⟨.pack _ hk.1,.pack _ hk.2⟩
  ·cases h
end
section
open Go.RowKit
deriving instance DecidableEq for RK
def Ru:List A→A
 | [p]=>p
 | ps=>.mH ps
structure eO where
 ps:List (Bool×Ty)
 rs:List (Bool×Ty)
 rg:List (Nat×RK)
 wg:List (Nat×RK)
def mE:List (Bool×Ty)→Type
 | []=>Unit
 | p::l=>p.2.T×mE l
def pV:(l:List (Bool×Ty))→mE l→List A
 | [],_=>[]
 | p::l,x=>df p.1 p.2 x.1::pV l x.2
def xa:List (Nat×RK)→Type
 | []=>Unit
 | p::l=>p.2.T×xa l
def fg:(l:List (Nat×RK))→xa l→List Rg
 | [],_=>[]
 | p::l,x=>⟨p.1,p.2,x.1⟩::fg l x.2
def h0 (rl wl:List (Nat×RK)) (c:xa rl) (d:xa wl):H:=⟨.nil,0,fg wl d++fg rl c,[]⟩
def Re:(l:List (Bool×Ty))→List A→Option (mE l)
 | [],[]=>some ()
 | p::l,a::aa=>match nv p.1 p.2 a,Re l aa with
  | some x,some y=>some (x,y)
  | _,_=>none
 | _,_=>none
theorem yG:∀(l:List (Bool×Ty)) (aa:List A) (x:mE l),Re l aa=some x→aa.length=(pV l x).length∧∀(i:Nat) (a b:A),aa[i]?=some a→(pV l x)[i]?=some b→∀g v,V g a v→V g b v
 | [],[],x,_=>⟨rfl,fun i a b h=>by simp at h⟩
 | p::l,a::aa,x,h=>by
  simp only [Re] at h
  split at h
  ·rename_i y z h1 h2
   cases h
   obtain ⟨k1,k2⟩:=yG l aa z h2
   refine ⟨congrArg Nat.succ k1,fun i a' b e1 e2=>?_⟩
   cases i with
   | zero=>
    have e1:a=a':=Option.some.inj e1
    have e2:df p.1 p.2 y=b:=Option.some.inj e2
    subst e1 e2
    exact fun g v hv=>mo h1 hv
   | succ i=>exact k2 i a' b e1 e2
  ·cases h
 | [],_::_,_,h=>by cases h
 | _::_,[],_,h=>by cases h
def Q4 (a b:RK) (c:a.T):Option b.T:=if h:a=b then some (h▸c) else none
def fm (l:List (Nat×RK)) (r:Nat):Bool:=l.any fun p=>Nat.beq p.1 r
def D_:(l:List (Nat×RK))→List Rg→Option (xa l)
 | [],_=>some ()
 | p::l,rg=>match cl rg p.1,D_ l rg with
  | some ⟨_,k,c⟩,some y=>match Q4 k p.2 c with
   | some x=>some (x,y)
   | none=>none
  | _,_=>none
theorem ET:∀{rg:List Rg} {r:Nat} {x:Rg},cl rg r=some x→x.r=r
 | y::l,r,x,h=>by
  unfold cl at h
  cases hy:Nat.beq y.r r with
  | true=>rw [hy] at h;cases h;exact beq_eq hy
  | false=>rw [hy] at h;exact ET h
theorem fW:∀(l:List (Nat×RK)) (c:xa l) (r:Nat),fm l r=false→cl (fg l c) r=none
 | [],_,_,_=>rfl
 | p::l,c,r,h=>by
  have h:(Nat.beq p.1 r || fm l r)=false:=h
  rw [Bool.or_eq_false_iff] at h
  show (bif Nat.beq p.1 r then _ else _)=_
  rw [h.1]
  exact fW l c.2 r h.2
theorem lR:∀(l:List (Nat×RK)) (c:xa l) (r:Nat),fm l r=true→∃x,cl (fg l c) r=some x
 | p::l,c,r,h=>by
  show ∃x,(bif Nat.beq p.1 r then some (⟨p.1,p.2,c.1⟩:Rg) else cl (fg l c.2) r)=some x
  cases hq:Nat.beq p.1 r with
  | true=>exact ⟨_,rfl⟩
  | false=>
   have h:(Nat.beq p.1 r || fm l r)=true:=h
   rw [hq,Bool.false_or] at h
   exact lR l c.2 r h
theorem jP:∀(l k:List Rg) (r:Nat),cl (l++k) r=match cl l r with | some x=>some x | none=>cl k r
 | [],k,r=>rfl
 | y::l,k,r=>by
  show (bif Nat.beq y.r r then some y else cl (l++k) r)=match (bif Nat.beq y.r r then some y else cl l r) with | some x=>some x | none=>cl k r
  cases hy:Nat.beq y.r r with
  | true=>rfl
  | false=>exact jP l k r
theorem nz:∀(l:List (Nat×RK)) (rg:List Rg) (c:xa l),D_ l rg=some c→∀r,fm l r=true→cl (fg l c) r=cl rg r∧∃x,cl rg r=some x
 | [],_,_,_,_,h=>by cases h
 | p::l,rg,c,hg,r,h=>by
  simp only [D_] at hg
  split at hg
  ·rename_i r' k c' y h1 h2
   split at hg
   ·rename_i x hx
    cases hg
    show (bif Nat.beq p.1 r then some (⟨p.1,p.2,x⟩:Rg) else cl (fg l y) r)=_∧_
    cases hp:Nat.beq p.1 r with
    | true=>
     have e:=beq_eq hp
     subst e
     have hr:=ET h1
     simp only at hr
     subst hr
     unfold Q4 at hx
     split at hx
     ·rename_i ek
      obtain ⟨p1,p2⟩:=p
      simp only at ek
      subst ek
      cases hx
      rw [h1]
      exact ⟨rfl,_,rfl⟩
     ·cases hx
    | false=>
     have h:(Nat.beq p.1 r || fm l r)=true:=h
     rw [hp,Bool.false_or] at h
     exact nz l rg y h2 r h
   ·cases hg
  ·cases hg
def VsL (g:G) (aa:List A) (vs:List Value):Prop:=∀(i:Nat) (a:A) (v:Value),aa[i]?=some a→vs[i]?=some v→V g a v
def CvL (h h':H) (T:List Nat) (aa C6:List A):Prop:=C6.length=aa.length∧∃us,hp h'=app us (hp h)∧(∀u∈us,aR (.wr T) u.id=true) ∧
 ∀g S w (vs:List Value),Inv g S w→bO (.wr T) (hp h) S→aa.length=vs.length→VsL g aa vs→∃g',Inv g' (app us S) w∧Ext S g w (app us S) g' w∧VsL g' C6 vs
def NU (a:Bool) (t:Ty) (p:A) (h:H):Option (A×H×List Nat):=bif a then (match p with
 | .agg cs=>match fixC 20 t cs h with
  | some (kt,h',T)=>some (.agg kt,h',T)
  | none=>none
 | _=>none) else bif DR p then none else (match p.cells with
 | some [c]=>match fixC 20 t [c] h with
  | some ([c'],h',T)=>some (c',h',T)
  | _=>none
 | _=>none)
def Hv:List (Bool×Ty)→List A→H→Option (List A×H×List Nat)
 | [],[],h=>some ([],h,[])
 | p::l,a::aa,h=>match NU p.1 p.2 a h with
  | some (a',h1,T1)=>match Hv l aa h1 with
   | some (C6,h2,T2)=>some (a'::C6,h2,T1++T2)
   | none=>none
  | none=>none
 | _,_,_=>none
theorem HG {p c:A} (ha:DR p=false) (h:p.cells=some [c]):c=p:=by
 unfold A.cells at h
 split at h
 ·cases ha
 ·rename_i x
  cases hx:x.oneCell' with
  | true=>rw [hx] at h;simp at h;exact h.symm
  | false=>rw [hx] at h;cases h
 ·cases h
 ·cases h
 ·cases h
 ·simp at h;exact h.symm
theorem FJ {a:Bool} {t:Ty} {p p':A} {h h':H} {T:List Nat} (hf:NU a t p h=some (p',h',T)):∃us,hp h'=app us (hp h)∧(∀u∈us,aR (.wr T) u.id=true)∧∀g S w (v:Value),Inv g S w→bO (.wr T) (hp h) S→V g p v→∃g',Inv g' (app us S) w∧Ext S g w (app us S) g' w∧V g' p' v:=by
 unfold NU at hf
 cases a with
 | true=>
  simp only [cond_true] at hf
  split at hf
  ·rename_i cs
   split at hf
   ·rename_i kt h1 T1 hc
    simp only [zI,zU] at hf
    obtain ⟨rfl,rfl,rfl⟩:=hf
    obtain ⟨us,c1,c2,c3⟩:=sO _ _ _ _ _ _ _ hc
    refine ⟨us,c1,c2,fun g S w v hI hA hv=>?_⟩
    cases hv with
    | agg _ vs hl h1 hh=>
     obtain ⟨g',q1,q2,q3⟩:=c3 g S w vs.toList hI hA ⟨by simpa using hl,fun j c x e1 e2=>⟨hh j c x e1 (by simpa using e2),h1 x (zG e2)⟩⟩
     exact ⟨g',q1,q2,by have:=q3.agg;simpa using this⟩
   ·cases hf
  ·cases hf
 | false=>
  simp only [cond_false] at hf
  obtain ⟨ha,hf⟩:=lN hf
  split at hf
  ·rename_i c hc
   split at hf
   ·rename_i c' h1 T1 Nz
    simp only [zI,zU] at hf
    obtain ⟨rfl,rfl,rfl⟩:=hf
    obtain ⟨us,c1,c2,c3⟩:=sO _ _ _ _ _ _ _ Nz
    obtain rfl:=HG ha hc
    refine ⟨us,c1,c2,fun g S w v hI hA hv=>?_⟩
    obtain ⟨g',q1,q2,q3⟩:=c3 g S w [v] hI hA ⟨rfl,fun j c x e1 e2=>by
     cases j with
     | zero=>simp at e1 e2;subst e1 e2;exact ⟨hv,hv.nY ha hc⟩
     | succ j=>simp at e1⟩
    exact ⟨g',q1,q2,(q3.2 0 _ v rfl rfl).1⟩
   ·cases hf
  ·cases hf
theorem Ac:∀{l:List (Bool×Ty)} {aa C6:List A} {h h':H} {T:List Nat},Hv l aa h=some (C6,h',T)→CvL h h' T aa C6
 | [],[],C6,h,h',T,hf=>by
  simp only [Hv,zI,zU] at hf
  obtain ⟨rfl,rfl,rfl⟩:=hf
  exact ⟨rfl,[],rfl,fun u hu=>(by simp at hu),fun g S w vs hI _ _ hv=>⟨g,hI,.refl S g w,hv⟩⟩
 | p::l,a::aa,C6,h,h',T,hf=>by
  simp only [Hv] at hf
  split at hf
  ·rename_i a1 h1 T1 Sw
   split at hf
   ·rename_i as1 h2 T2 ZA
    simp only [zI,zU] at hf
    obtain ⟨rfl,rfl,rfl⟩:=hf
    obtain ⟨us,c1,c2,c3⟩:=FJ Sw
    obtain ⟨hl,vs2,d1,d2,d3⟩:=Ac ZA
    refine ⟨by simp [hl],us++vs2,by rw [kQ,←c1,d1],fun u hu=>?_,fun g S w vs hI hA hlen hv=>?_⟩
    ·rcases zX.1 hu with h | h
     ·exact g9 (fun i hi=>zQ _ hi) (c2 u h)
     ·exact g9 (fun i hi=>zS _ hi) (d2 u h)
    ·have Ux:bO (.wr T1) (hp h) S:=hA.mono fun i hi=>zQ _ hi
     have Kt:bO (.wr T2) (hp h1) (app us S):=by rw [c1];exact (hA.mono (fun i hi=>zS _ hi)).app us
     cases vs with
     | nil=>simp at hlen
     | cons v vs=>
      obtain ⟨g',q1,q2,q3⟩:=c3 g S w v hI Ux (hv 0 a v rfl rfl)
      obtain ⟨g2,z1,z2,z3⟩:=d3 g' _ w vs q1 Kt (by simpa using hlen) (fun i a v e1 e2=>(hv (i+1) a v (by simpa using e1) (by simpa using e2)).mono q2.le)
      rw [kQ]
      refine ⟨g2,z1,q2.trans z2,fun i a v e1 e2=>?_⟩
      cases i with
      | zero=>simp at e1 e2;subst e1 e2;exact q3.mono z2.le
      | succ i=>exact z3 i a v (by simpa using e1) (by simpa using e2)
   ·cases hf
  ·cases hf
 | [],_::_,_,_,_,_,hf=>by cases hf
 | _::_,[],_,_,_,_,hf=>by cases hf
def Ed (l:List (Bool×Ty)) (pv:A) (h:H):Option (A×H×List Nat):=match pv with
 | .mH aa=>match Hv l aa h with
  | some (C6,h',T)=>some (.mH C6,h',T)
  | none=>none
 | _=>none
def Ee (l:List (Bool×Ty)) (pv:A) (h:H):Option (A×H×List Nat):=match l with
 | [p]=>NU p.1 p.2 pv h
 | l=>Ed l pv h
def Plain (sg:eO):Type:=mE sg.ps→xa sg.rg→xa sg.wg→Option (mE sg.rs×xa sg.wg)
def OE (l:List (Bool×Ty)) (pv:A):Option (mE l):=match l with
 | [p]=>Re [p] [pv]
 | l=>match pv with
  | .mH aa=>Re l aa
  | _=>none
def okW (l:List (Nat×RK)) (q:Nat):Bool:=Nat.beq (q%2) 0 || l.any fun p=>Nat.beq q (kB p.1)
def Bc (cx:Cx) (f:FuncId) (sg:eO) (aa:List A) (c:xa sg.rg) (d:xa sg.wg):Option (mE sg.rs×xa sg.wg):=cx.call (mE sg.rs×xa sg.wg) f aa (h0 sg.rg sg.wg c d) (fun pv h' T=>match Ee sg.rs pv h' with
 | some (LF,h2,T2)=>bif T.ws.all (okW sg.wg) && T2.all (okW sg.wg) then (match OE sg.rs LF,D_ sg.wg h2.rg with
  | some y,some d'=>some (y,d')
  | _,_=>none) else none
 | none=>none)
def Rs (cx:Cx) (f:FuncId) (sg:eO):Plain sg:=fun x c d=>Bc cx f sg (pV sg.ps x) c d
def xg (l:List (Bool×Ty)) (y:mE l):A:=Ru (pV l y)
structure cb (P:Program) (f:FuncId) (sg:eO) (F:Plain sg):Prop where
 fn:∀x c d y,F x c d=some y→EC P f
 pc:∀x c d y d',F x c d=some (y,d')→∃t bI lk,PC P f (pV sg.ps x) (hp (h0 sg.rg sg.wg c d)) (hp ⟨t,bI,fg sg.wg d'++fg sg.rg c,lk⟩) (xg sg.rs y)
theorem E8 {l:List (Nat×RK)} {ws:List Nat} (h:ws.all (okW l)=true) {r:Nat} (hr:fm l r=false):ws.any (Nat.beq (kB r))=false:=by
 cases hx:ws.any (Nat.beq (kB r)) with
 | false=>rfl
 | true=>
  obtain ⟨q,h1,h2⟩:=List.any_eq_true.1 hx
  have h3:=List.all_eq_true.1 h q h1
  obtain rfl:=beq_eq h2
  unfold okW at h3
  rw [Bool.or_eq_true] at h3
  rcases h3 with h3 | h3
  ·have:=beq_eq h3;unfold kB at this;omega
  ·obtain ⟨p,p1,p2⟩:=List.any_eq_true.1 h3
   have:r=p.1:=by have:=beq_eq p2;unfold kB at this;omega
   subst this
   rw [show fm l p.1=true from List.any_eq_true.2 ⟨p,p1,Nat.beq_refl _⟩] at hr
   cases hr
theorem Il {l:List (Bool×Ty)} {pv:A} {y:mE l} (h:OE l pv=some y):∀g v,V g pv v→V g (xg l y) v:=by
 have mH:∀(l:List (Bool×Ty)) (aa:List A) (y:mE l),Re l aa=some y→∀g v,V g (.mH aa) v→V g (.mH (pV l y)) v:=fun l aa y h g v hv=>by
  obtain ⟨k1,k2⟩:=yG l aa y h
  cases hv with
  | mH _ vs hl He=>
   refine .mH _ vs (by rw [←k1];exact hl) (fun i c x e1 e2=>?_)
   have hi:i<aa.length:=by rw [k1];exact (zB.1 e1).1
   exact k2 i _ c (zD hi) e1 g x (He i _ x (zD hi) e2)
 match l,y,h with
 | [p],y,h=>exact fun g v hv=>(yG [p] [pv] y h).2 0 pv _ rfl rfl g v hv
 | [],y,h=>
  intro g v hv
  cases pv with
  | mH aa=>exact mH [] aa y h g v hv
  | _=>cases h
 | p::q::l,y,h=>
  intro g v hv
  cases pv with
  | mH aa=>exact mH (p::q::l) aa y h g v hv
  | _=>cases h
theorem bO.self {T:Fp} {S:Hp}:bO T S S:=fun _ _=>⟨rfl,Iff.rfl⟩
theorem hM {h:H} {i:Nat} (hl:¬i<dO):(hp h).ob i=fR h.rg i∧((hp h).fr i↔iZ h.rg i):=⟨if_neg hl,by show (if i<dO then _ else _)↔_;rw [if_neg hl]⟩
theorem tF {i:Nat} (h:¬i<16777216):res i=kB (oT i):=by
 unfold res
 rw [zd h];rfl
theorem Hu {l:List (Bool×Ty)} {pv LF:A} {h h':H} {T:List Nat} (hf:Ee l pv h=some (LF,h',T)):∃us,hp h'=app us (hp h)∧(∀u∈us,aR (.wr T) u.id=true)∧∀g S w (v:Value),Inv g S w→bO (.wr T) (hp h) S→V g pv v→∃g',Inv g' (app us S) w∧Ext S g w (app us S) g' w∧V g' LF v:=by
 have mH:∀(l:List (Bool×Ty)),Ed l pv h=some (LF,h',T)→∃us,hp h'=app us (hp h)∧(∀u∈us,aR (.wr T) u.id=true)∧∀g S w (v:Value),Inv g S w→bO (.wr T) (hp h) S→V g pv v→∃g',Inv g' (app us S) w∧Ext S g w (app us S) g' w∧V g' LF v:=fun l hf=>by
  unfold Ed at hf
  split at hf
  ·rename_i aa
   split at hf
   ·rename_i C6 h1 T1 hc
    simp only [zI,zU] at hf
    obtain ⟨rfl,rfl,rfl⟩:=hf
    obtain ⟨hl,us,c1,c2,c3⟩:=Ac hc
    refine ⟨us,c1,c2,fun g S w v hI hA hv=>?_⟩
    cases hv with
    | mH _ vs wh hh=>
     obtain ⟨g',q1,q2,q3⟩:=c3 g S w vs.toList hI hA (by simpa using wh) (fun i c x e1 e2=>hh i c x e1 (by simpa using e2))
     exact ⟨g',q1,q2,.mH C6 vs (by rw [hl,wh]) (fun i c x e1 e2=>q3 i c x e1 (by simpa using e2))⟩
   ·cases hf
  ·cases hf
 unfold Ee at hf
 split at hf
 ·exact FJ hf
 ·exact mH _ hf
theorem lC {P:Program} {cx:Cx} (hx:nM P cx) (f:FuncId) (sg:eO):∀aa c d y d',Bc cx f sg aa c d=some (y,d')→EC P f∧∃t bI lk,PC P f aa (hp (h0 sg.rg sg.wg c d)) (hp ⟨t,bI,fg sg.wg d'++fg sg.rg c,lk⟩) (xg sg.rs y):=fun aa c d y d' h=>by
 obtain ⟨pv,h',T,k1,k2⟩:=hx.call _ f _ _ _ _ h
 split at k1
 ·rename_i LF h2 T2 ae3
  obtain ⟨kw,k1⟩:=ae k1
  rw [zC] at kw
  split at k1
  ·rename_i y' d'' h1 hg2
   cases k1
   refine ⟨k2.fn,h2.t,h2.bI,h2.lk,?_⟩
   have hs:=k2.ok (hp (h0 sg.rg sg.wg c d)) bO.self
   have e:mb T (hp h') (hp (h0 sg.rg sg.wg c d))=hp h':=Hp.ext' (fun i=>by
    show (if aR T i=true then _ else _)=_
    split
    ·rfl
    ·rename_i hi;exact (k2.out i (by simpa using hi)).1.symm) (fun i=>by
    show (if aR T i=true then _ else _)↔_
    split
    ·exact Iff.rfl
    ·rename_i hi;exact (k2.out i (by simpa using hi)).2.symm)
   rw [e] at hs
   obtain ⟨us,c1,c2,c3⟩:=Hu ae3
   have hf:=nz _ _ _ hg2
   have e2:hp h2=hp ⟨h2.t,h2.bI,fg sg.wg d'++fg sg.rg c,h2.lk⟩:=by
    have key:∀i,¬i<dO→(hp h2).ob i=fR (fg sg.wg d'++fg sg.rg c) i∧((hp h2).fr i↔iZ (fg sg.wg d'++fg sg.rg c) i):=fun i hl=>by
     cases hk:fm sg.wg (oT i) with
     | true=>
      obtain ⟨q1,x,q2⟩:=hf _ hk
      rw [(hM hl).1,(hM hl).2]
      unfold fR iZ
      rw [jP,q1,q2]
      exact ⟨rfl,Iff.rfl⟩
     | false=>
      have hw:wt T i=false:=by
       unfold wt
       rw [tF hl,E8 kw.1 hk,Bool.and_false]
      have h3:=k2.rd i hw
      have h4:=gX us (hp h') i (fun u hu e=>by
       have:=c2 u hu
       rw [←e] at this
       have this:T2.any (Nat.beq (res i))=true:=by simpa [aR,Fp.wr] using this
       rw [tF hl,E8 kw.2 hk] at this;cases this)
      rw [c1,h4.1,h4.2,h3.1,h3.2,(hM hl).1,(hM hl).2]
      show fR (fg sg.wg d++fg sg.rg c) i=_∧(iZ (fg sg.wg d++fg sg.rg c) i↔_)
      unfold fR iZ
      rw [jP,jP,fW _ _ _ hk,fW _ _ _ hk]
      exact ⟨rfl,Iff.rfl⟩
    refine Hp.ext' (fun i=>?_) (fun i=>?_)
    ·by_cases hl:i<dO
     ·show (if i<dO then _ else _)=(if i<dO then _ else _);rw [if_pos hl,if_pos hl]
     ·rw [(key i hl).1,(hM hl).1]
    ·by_cases hl:i<dO
     ·show (if i<dO then _ else _)↔(if i<dO then _ else _);rw [if_pos hl,if_pos hl]
     ·rw [(key i hl).2,(hM hl).2]
   rw [←e2,c1]
   intro g w vs hI hl hv
   refine (hs g w vs hI hl hv).mono ?_
   rintro e w' ⟨v,g',rfl,q1,q2,q3⟩
   obtain ⟨g2,z1,z2,z3⟩:=c3 g' _ w' v q2 bO.self q1
   exact ⟨v,g2,rfl,Il h1 g2 v z3,z1,q3.trans z2⟩
  ·cases k1
 ·cases k1
theorem Mm {P:Program} {cx:Cx} (hx:nM P cx) (f:FuncId) (sg:eO):cb P f sg (Rs cx f sg):=
 ⟨fun x c d y h=>(lC hx f sg _ _ _ y.1 y.2 h).1,fun x c d y d' h=>(lC hx f sg _ _ _ _ _ h).2⟩
end
section
open Go.RowKit
def mP:(l:List (Nat×RK))→xa l→List Rg→List Rg
 | [],_,rg=>rg
 | p::l,x,rg=>lQ (mP l x.2 rg) p.1 p.2 x.1
theorem n_:∀(l:List (Nat×RK)) (rg:List Rg) (c':xa l),(∀r,fm l r=true→∃x,cl rg r=some x)→∀r,cl (mP l c' rg) r=if fm l r=true then cl (fg l c') r else cl rg r
 | [],rg,c',_,r=>by simp [mP,fm]
 | p::l,rg,c',hx,r=>by
  have ih:=n_ l rg c'.2 (fun r hr=>hx r (by show (Nat.beq p.1 r || fm l r)=true;rw [hr,Bool.or_true]))
  have hp:∃x,cl (mP l c'.2 rg) p.1=some x:=by
   rw [ih]
   split
   ·rename_i hk
    exact lR l c'.2 p.1 hk
   ·exact hx p.1 (by show (Nat.beq p.1 p.1 || fm l p.1)=true;rw [Nat.beq_refl];rfl)
  obtain ⟨x,hp⟩:=hp
  show cl (lQ (mP l c'.2 rg) p.1 p.2 c'.1) r=if (Nat.beq p.1 r || fm l r)=true then (bif Nat.beq p.1 r then some (⟨p.1,p.2,c'.1⟩:Rg) else cl (fg l c'.2) r) else cl rg r
  rw [qc _ p.1 p.2 c'.1 r x hp,ih]
  by_cases hr:r=p.1
  ·subst hr;rw [if_pos rfl,Nat.beq_refl];simp
  ·have:Nat.beq p.1 r=false:=by
    cases hb:Nat.beq p.1 r with
    | false=>rfl
    | true=>exact absurd (beq_eq hb).symm hr
   rw [if_neg hr,this];simp
def eO.al (sg:eO):List (Nat×RK):=sg.wg++sg.rg
theorem JM (l k:List (Nat×RK)) (r:Nat):fm (l++k) r=(fm l r || fm k r):=List.any_append
def XL (sg:eO) (h:H):Bool:=(sg.al.all fun p=>Nat.blt p.1 64 && p.2.tO (fm sg.al)) && (sg.wg.all fun p=>!(BR h (kB p.1))) && (sg.ps.all fun p=>tO (fm sg.al) p.2) && (sg.rs.all fun p=>tO (fm sg.al) p.2)
def S6 (sg:eO):Fp:=⟨false,sg.al.map fun p=>kB p.1,!sg.wg.isEmpty,sg.wg.map fun p=>kB p.1⟩
section
variable {β:Type}
def ctR (sg:eO) (F:Plain sg) (aa:List A) (h:H) (K:A→H→Fp→Option β):Option β:=match Re sg.ps aa,D_ sg.rg h.rg,D_ sg.wg h.rg with
 | some x,some c,some d=>bif XL sg h then bd (F x c d) (fun p=>Ir (xg sg.rs p.1) (fun v=>K v { h with rg:=mP sg.wg p.2 h.rg } (S6 sg))) else none
 | _,_,_=>none
def ctK (sg:eO) (F:Plain sg) (aa:List A) (h:H) (K:A→H→Fp→Option β):Option β:=match Hv sg.ps aa h with
 | some (C6,h1,T1)=>ctR sg F C6 h1 (fun v h2 T=>K v h2 ((Fp.wr T1).cat T))
 | none=>none
theorem Nd {kp:Nat→Bool} {i:Nat} (h:i<16777216):kW kp i=false:=by
 unfold kW
 rw [DL h];rfl
theorem JN {kp:Nat→Bool} {i:Nat} (h:¬i<16777216):kW kp i=kp (oT i):=by
 unfold kW
 rw [zd h];rfl
theorem Au (l:List (Nat×RK)) (r:Nat):(l.map fun p=>kB p.1).any (Nat.beq (kB r))=fm l r:=by
 induction l with
 | nil=>rfl
 | cons p l ih=>
  show (Nat.beq (kB r) (kB p.1) || (l.map fun p=>kB p.1).any (Nat.beq (kB r)))=(Nat.beq p.1 r || fm l r)
  rw [ih]
  have:Nat.beq (kB r) (kB p.1)=Nat.beq p.1 r:=by
   cases h1:Nat.beq p.1 r with
   | true=>rw [beq_eq h1];exact Nat.beq_refl _
   | false=>
    cases h2:Nat.beq (kB r) (kB p.1) with
    | false=>rfl
    | true=>
     have:p.1=r:=by have:=beq_eq h2;unfold kB at this;omega
     rw [this,Nat.beq_refl] at h1;cases h1
  rw [this]
theorem Oh (l:List (Nat×RK)) (i:Nat):(l.map fun p=>kB p.1).any (Nat.beq (gq i))=false:=by
 induction l with
 | nil=>rfl
 | cons p l ih=>
  show (Nat.beq (gq i) (kB p.1) || (l.map fun p=>kB p.1).any (Nat.beq (gq i)))=false
  rw [ih,Bool.or_false]
  cases h2:Nat.beq (gq i) (kB p.1) with
  | false=>rfl
  | true=>have:=beq_eq h2;unfold kB gq at this;omega
theorem rP (sg:eO) (i:Nat):aR (S6 sg) i=kW (fm sg.al) i:=by
 have e:aR (S6 sg) i=(sg.al.map fun p=>kB p.1).any (Nat.beq (res i)):=Bool.false_or _
 rw [e]
 by_cases h:i<16777216
 ·rw [qd h,Nd h];exact Oh _ _
 ·rw [tF h,JN h];exact Au _ _
theorem V2 {sg:eO} {i:Nat} (h:wt (S6 sg) i=false) (hl:¬i<16777216):fm sg.wg (oT i)=false:=by
 have e:(!sg.wg.isEmpty && (sg.wg.map fun p=>kB p.1).any (Nat.beq (res i)))=false:=h
 rw [tF hl,Au] at e
 cases hw:sg.wg with
 | nil=>rfl
 | cons p l=>rw [hw] at e;simpa using e
theorem wQ {kp:Nat→Bool}:∀(l:List (Bool×Ty)) (x:mE l),(l.all fun p=>tO kp p.2)=true→∀a∈pV l x,VK kp a
 | [],_,_,a,ha=>by cases ha
 | p::l,x,h,a,ha=>by
  simp only [List.all_cons,zC] at h
  rcases List.mem_cons.1 ha with rfl | ha
  ·exact .pack _ h.1
  ·exact wQ l x.2 h.2 a ha
theorem vq {kp:Nat→Bool}:∀(l:List (Nat×RK)) (c:xa l),(∀p∈l,p.2.tO kp=true)→∀r q,cl (fg l c) r=some q→q.k.tO kp=true
 | [],c,_,r,q,h=>by cases h
 | p::l,c,hl,r,q,h=>by
  have h:(bif Nat.beq p.1 r then some (⟨p.1,p.2,c.1⟩:Rg) else cl (fg l c.2) r)=some q:=h
  cases hb:Nat.beq p.1 r with
  | true=>rw [hb] at h;cases h;exact hl p (.head _)
  | false=>rw [hb] at h;exact vq l c.2 (fun p hp=>hl p (.tail _ hp)) r q h
theorem S7 {P:Program} {f:FuncId} {sg:eO} {F:Plain sg} (hF:cb P f sg F) {aa:List A} {h:H} {K:A→H→Fp→Option β} {r:β} (hr:ctR sg F aa h K=some r):∃pv h' T,K pv h' T=some r∧Ge P f aa h h' T pv:=by
 unfold ctR at hr
 split at hr
 ·rename_i x c d hx hc hd
  obtain ⟨hs,hr⟩:=ae hr
  obtain ⟨⟨y,d'⟩,hy,hr⟩:=wP hr
  obtain ⟨pv,hr,tQ⟩:=Df hr
  unfold XL at hs
  simp only [zC] at hs
  obtain ⟨⟨⟨No,_⟩,hs2⟩,hs3⟩:=hs
  obtain ⟨t,bI,lk,hpc⟩:=hF.pc x c d y d' hy
  have hfc:=nz _ _ _ hc
  have hfd:=nz _ _ _ hd
  have xq:=n_ sg.wg h.rg d' (fun r hr=>(hfd r hr).2)
  have kpa:∀r,fm sg.al r=(fm sg.wg r || fm sg.rg r):=fun r=>JM _ _ r
  have fA:∀r,fm sg.al r=true→cl (fg sg.wg d++fg sg.rg c) r=cl h.rg r:=fun r hk=>by
   rw [jP]
   cases hw:fm sg.wg r with
   | true=>obtain ⟨e,q,hq⟩:=hfd r hw;rw [e,hq]
   | false=>
    rw [fW _ _ _ hw]
    exact (hfc r (by rw [kpa,hw] at hk;simpa using hk)).1
  have fB:∀r,fm sg.al r=true→cl (fg sg.wg d'++fg sg.rg c) r=cl (mP sg.wg d' h.rg) r:=fun r hk=>by
   rw [jP,xq]
   cases hw:fm sg.wg r with
   | true=>obtain ⟨q,hq⟩:=lR sg.wg d' r hw;rw [hq];simp
   | false=>
    rw [fW _ _ _ hw]
    exact (hfc r (by rw [kpa,hw] at hk;simpa using hk)).1
  have fC:∀r,fm sg.al r=false→cl (fg sg.wg d++fg sg.rg c) r=none:=fun r hk=>by
   rw [kpa,Bool.or_eq_false_iff] at hk
   rw [jP,fW _ _ _ hk.1]
   exact fW _ _ _ hk.2
  have fD:∀i,(¬i<dO→fm sg.wg (oT i)=false)→(hp { h with rg:=mP sg.wg d' h.rg }).ob i=(hp h).ob i∧((hp { h with rg:=mP sg.wg d' h.rg }).fr i↔(hp h).fr i):=fun i hi=>by
   show (if i<dO then iG h.t i else fR (mP sg.wg d' h.rg) i)=(if i<dO then iG h.t i else fR h.rg i)∧((if i<dO then h.bI≤i else iZ (mP sg.wg d' h.rg) i)↔(if i<dO then h.bI≤i else iZ h.rg i))
   by_cases hl:i<dO
   ·rw [if_pos hl,if_pos hl,if_pos hl,if_pos hl];exact ⟨rfl,Iff.rfl⟩
   ·rw [if_neg hl,if_neg hl,if_neg hl,if_neg hl]
    have:=xq (oT i)
    rw [hi hl,if_neg (by simp)] at this
    unfold fR iZ
    rw [this];exact ⟨rfl,Iff.rfl⟩
  have Jt:∀{i},kW (fm sg.al) i=true→¬i<dO∧fm sg.al (oT i)=true:=fun {i} hi=>by
   unfold kW at hi
   simp only [zC,Bool.not_eq_true'] at hi
   refine ⟨fun hl=>?_,hi.2⟩
   have:Nat.blt i 16777216=true:=DL hl
   rw [this] at hi;cases hi.1
  have YV:∀{i},kW (fm sg.al) i=false→¬i<dO→fm sg.al (oT i)=false:=fun {i} hi hl=>by
   rw [JN hl] at hi;exact hi
  have inL:∀(l:List Rg),(∀r q,cl l r=some q→q.k.tO (fm sg.al)=true)→∀i x,¬i<dO→fR l i=some x→UD (fm sg.al) x:=fun l hl i x _ hx=>by
   unfold fR at hx
   split at hx
   ·rename_i q hq
    exact Gw (hl _ q hq) hx
   ·cases hx
  have inA:∀(d1:xa sg.wg) r q,cl (fg sg.wg d1++fg sg.rg c) r=some q→q.k.tO (fm sg.al)=true:=fun d1 r q hq=>by
   have ll:∀p∈sg.al,p.2.tO (fm sg.al)=true:=fun p hp=>by
    have:=List.all_eq_true.1 No p hp
    simp only [zC] at this
    exact this.2
   rw [jP] at hq
   split at hq
   ·rename_i q1 h1
    cases hq
    exact vq sg.wg d1 (fun p hp=>ll p (zQ _ hp)) _ _ h1
   ·exact vq sg.rg c (fun p hp=>ll p (zS _ hp)) _ _ hq
  refine ⟨pv,_,_,hr,⟨fun i hi=>fD i (fun hl=>?_),fun i hi=>fD i (fun hl=>V2 hi hl),hF.fn x c d _ hy,fun S2 hA=>?_⟩⟩
  ·rw [rP] at hi
   have:=YV hi hl
   rw [kpa,Bool.or_eq_false_iff] at this
   exact this.1
  ·have Zk:=PC.frame (kp:=fm sg.al) (S:=S2) (fun i hi=>?_) (fun i hi=>?_) (fun i q hq=>?_) (fun i q hi hq=>?_) (wQ sg.ps x hs2) (r:=xg sg.rs y) ?_ hpc
   ·have e:Hp.join (fm sg.al) (hp ⟨t,bI,fg sg.wg d'++fg sg.rg c,lk⟩) S2=mb (S6 sg) (hp { h with rg:=mP sg.wg d' h.rg }) S2:=by
     refine Hp.ext' (fun i=>?_) (fun i=>?_)
     ·show (if kW (fm sg.al) i=true then _ else _)=(if aR (S6 sg) i=true then _ else _)
      rw [rP]
      by_cases hi:kW (fm sg.al) i=true
      ·obtain ⟨n1,n2⟩:=Jt hi
       rw [if_pos hi,if_pos hi,(hM n1).1,(hM n1).1]
       unfold fR
       rw [fB _ n2]
      ·rw [if_neg hi,if_neg hi]
     ·show (if kW (fm sg.al) i=true then _ else _)↔(if aR (S6 sg) i=true then _ else _)
      rw [rP]
      by_cases hi:kW (fm sg.al) i=true
      ·obtain ⟨n1,n2⟩:=Jt hi
       rw [if_pos hi,if_pos hi,(hM n1).2,(hM n1).2]
       unfold iZ
       rw [fB _ n2]
      ·rw [if_neg hi,if_neg hi]
    rw [e] at Zk
    obtain ⟨u1,u2⟩:=yG _ _ _ hx
    intro g w vs hI hl hv
    refine (Zk g w vs hI (by rw [←u1];exact hl) (fun i p v e1 e2=>?_)).mono ?_
    ·have hi:i<aa.length:=by rw [u1];exact (zB.1 e1).1
     exact u2 i _ p (zD hi) e1 g v (hv i _ v (zD hi) e2)
    ·rintro e w' ⟨v,g',rfl,q1,q2,q3⟩
     exact ⟨v,g',rfl,tQ g' v q1,q2,q3⟩
   ·by_cases hl:i<dO
    ·show (if i<dO then iG .nil i else _)=none
     rw [if_pos hl];rfl
    ·rw [(hM hl).1]
     show fR (fg sg.wg d++fg sg.rg c) i=none
     unfold fR
     rw [fC _ (YV hi hl)]
   ·obtain ⟨n1,n2⟩:=Jt hi
    obtain ⟨a1,a2⟩:=hA i (by rw [rP];exact hi)
    rw [a1,a2,(hM n1).1,(hM n1).2,(hM n1).1,(hM n1).2]
    show fR h.rg i=fR (fg sg.wg d++fg sg.rg c) i∧(iZ h.rg i↔iZ (fg sg.wg d++fg sg.rg c) i)
    unfold fR iZ
    rw [fA _ n2];exact ⟨rfl,Iff.rfl⟩
   ·by_cases hl:i<dO
    ·have hq:(if i<dO then iG .nil i else _)=some q:=hq
     rw [if_pos hl] at hq;cases hq
    ·rw [(hM hl).1] at hq
     exact inL _ (inA d) i q hl hq
   ·rw [(hM (Jt hi).1).1] at hq
    exact inL _ (inA d') i q (Jt hi).1 hq
   ·have ll:=wQ (kp:=fm sg.al) sg.rs y hs3
    unfold xg
    generalize pV sg.rs y=ps at ll
    match ps,ll with
    | [p],ll=>exact ll p (.head _)
    | [],ll=>exact .mH ll
    | p::q::ps,ll=>exact .mH ll
 ·cases hr
theorem S8 {P:Program} {f:FuncId} {sg:eO} {F:Plain sg} (hF:cb P f sg F) {aa:List A} {h:H} {K:A→H→Fp→Option β} {r:β} (hr:ctK sg F aa h K=some r):∃pv h' T,K pv h' T=some r∧Ge P f aa h h' T pv:=by
 unfold ctK at hr
 split at hr
 ·rename_i C6 h1 T1 Nz
  obtain ⟨pv,h2,T,k1,k2⟩:=S7 hF hr
  obtain ⟨hl,us,c1,c2,c3⟩:=Ac Nz
  have out:∀i,aR (.wr T1) i=false→(hp h1).ob i=(hp h).ob i∧((hp h1).fr i↔(hp h).fr i):=fun i hi=>by
   rw [c1];exact gX us _ i (fun u hu e=>by rw [e,c2 u hu] at hi;cases hi)
  have f1:tu h h1 (.wr T1):=⟨out,fun i hi=>out i (xH hi)⟩
  have f2:tu h1 h2 T:=⟨k2.out,k2.rd⟩
  refine ⟨pv,h2,_,k1,(f1.trans f2).out,(f1.trans f2).rd,k2.fn,fun S2 hA=>?_⟩
  rw [←jx f2]
  have A1:=hA.left
  have A2:=bO.right f1 hA
  have e:mb (.wr T1) (hp h1) S2=app us S2:=by rw [c1];exact lY c2 A1
  rw [e] at A2 ⊢
  intro g w vs hI iH hv
  obtain ⟨g1,q1,q2,q3⟩:=c3 g S2 w vs hI A1 iH hv
  refine (k2.ok _ A2 g1 w vs q1 (by rw [hl];exact iH) q3).mono ?_
  rintro e w' ⟨v,g',rfl,z1,z2,z3⟩
  exact ⟨v,g',rfl,z1,z2,q2.trans z3⟩
 ·cases hr
end
end
section
open Go.RowKit
def stay (N i:Nat):Prop:=i<N∨¬i<dO
structure EB (N:Nat) (g g':G):Prop where
 ck:∀i,stay N i→g'.ck i=g.ck i
 mem:g'.mem=g.mem
 lp:g'.lp=g.lp
def VP (N:Nat) (c:A):Prop:=∀g g' v,EB N g g'→V g c v→V g' c v
def LJ (N:Nat):Ref→Bool
 | .loc o=>Nat.blt o N
 | .c_ _ _=>true
theorem oe {N:Nat} {x:Ref} (h:LJ N x=true) {g g':G} (k:EB N g g'):g'.ck x.id=g.ck x.id:=by
 cases x with
 | loc o=>exact k.ck o (.inl (bW h))
 | c_ r j=>exact k.ck _ (.inr (Nat.not_lt.2 (qY r j)))
def okF (p:A→Bool):Nat→Tr A→Bool
 | 0,_=>true
 | n+1,F=>p (ch F.get n) && okF p n F
theorem Jp {p:A→Bool} {F:Tr A}:∀{n:Nat},okF p n F=true→∀i,i<n→p (ch F.get i)=true
 | n+1,h,i,hi=>by
  have h:(p (ch F.get n) && okF p n F)=true:=h
  rw [zC] at h
  by_cases e:i=n
  ·rw [e];exact h.1
  ·exact Jp h.2 i (by omega)
def y_ (N:Nat):Nat→A→Bool
 | 0,_=>false
 | k+1,a=>match a with
  | .agg cs=>cs.all (y_ N k)
  | .mH cs=>cs.all (y_ N k)
  | .fn _ fi ca=>fi.all (y_ N k) && ca.all (y_ N k)
  | .ptr o _=>Nat.blt o N
  | .tp x _=>LJ N x
  | .sl o _ _ _=>Nat.blt o N
  | .ts x _ _ _=>LJ N x
  | .tf x _ _ _=>LJ N x
  | .tw x _=>LJ N x
  | .aa x _ _ _=>LJ N x
  | .mp x=>LJ N x
  | .wY q n F _ _ _ _=>Nat.blt q N && okF (y_ N k) n F
  | _=>true
theorem VP.tp {N:Nat} {x:Ref} {π:List Sp} (h:LJ N x=true):VP N (.tp x π):=fun g g' v k hv=>by
 cases hv with
 | tp _ _ b s h1 hk=>exact .tp x π b s ((oe h k).trans h1) hk
theorem VP.tw {N:Nat} {x:Ref} {z:Nat} (h:LJ N x=true):VP N (.tw x z):=fun g g' v k hv=>by
 cases hv with
 | AA _ _ ad h1=>exact .AA x z ad ((oe h k).trans h1)
 | tw _ _ n b cap t h1 hn hx hp d hd=>exact .tw x z n b cap t ((oe h k).trans h1) hn hx hp d hd
theorem VP.e0 {N:Nat}:VP N .e0:=fun g g' v k hv=>by cases hv;exact .e0 _
theorem VP.mp {N:Nat} {x:Ref} (h:LJ N x=true):VP N (.mp x):=fun g g' v k hv=>by
 cases hv with
 | mp _ b s h1=>exact .mp x b s ((oe h k).trans h1)
theorem jg {N:Nat}:∀(k:Nat) (a:A),y_ N k a=true→VP N a
 | 0,_,h=>by cases h
 | k+1,.v x,_=>fun g g' v _ hv=>by cases hv;exact .v _
 | k+1,.agg cs,h=>fun g g' v hg hv=>by
  have h:cs.all (y_ N k)=true:=h
  rw [List.all_eq_true] at h
  cases hv with
  | agg _ vs hl h1 hh=>exact .agg cs vs hl h1 (fun i c x e1 e2=>jg k c (h c (zG e1)) g g' x hg (hh i c x e1 e2))
 | k+1,.mH cs,h=>fun g g' v hg hv=>by
  have h:cs.all (y_ N k)=true:=h
  rw [List.all_eq_true] at h
  cases hv with
  | mH _ vs hl hh=>exact .mH cs vs hl (fun i c x e1 e2=>jg k c (h c (zG e1)) g g' x hg (hh i c x e1 e2))
 | k+1,.fn f fi ca,h=>fun g g' v hg hv=>by
  have h:(fi.all (y_ N k) && ca.all (y_ N k))=true:=h
  rw [zC,List.all_eq_true,List.all_eq_true] at h
  cases hv with
  | fn _ _ _ fv cv hf hc h1 h2=>exact .fn f fi ca fv cv hf hc (fun i c x e1 e2=>jg k c (h.1 c (zG e1)) g g' x hg (h1 i c x e1 e2)) (fun i c x e1 e2=>jg k c (h.2 c (zG e1)) g g' x hg (h2 i c x e1 e2))
 | k+1,.ptr o off,h=>fun g g' v hg hv=>by
  cases hv with
  | ptr _ _ b s h1=>exact .ptr o off b s ((hg.ck o (.inl (bW h))).trans h1)
 | k+1,.tp x π,h=>.tp h
 | k+1,.sl o off z n,h=>fun g g' v hg hv=>by
  cases hv with
  | sl _ _ _ _ b cap s h1 hn hx hs=>exact .sl o off z n b cap s ((hg.ck o (.inl (bW h))).trans h1) hn hx hs
 | k+1,.ts x z off n,h=>fun g g' v hg hv=>by
  cases hv with
  | ts _ _ _ _ b cap s h1 hn hx hs hp d hd hq=>exact .ts x z off n b cap s ((oe h hg).trans h1) hn hx hs hp d hd hq
  | xJ _ _ _ _ ad h1 hn=>exact .xJ x z off n ad ((oe h hg).trans h1) hn
 | k+1,.tf x z off n,h=>fun g g' v hg hv=>by
  cases hv with
  | tf _ _ _ _ b s h1 hx hs d hd=>exact .tf x z off n b s ((oe h hg).trans h1) hx hs d hd
  | Io _ _ _ _ ad h1 hn=>exact .Io x z off n ad ((oe h hg).trans h1) hn
 | k+1,.tw x z,h=>.tw h
 | k+1,.aa x π n z,h=>fun g g' v hg hv=>by
  cases hv with
  | aa _ _ _ _ b cap s h1 hk hn hx=>exact .aa x π n z b cap s ((oe h hg).trans h1) hk hn hx
 | k+1,.e0,_=>.e0
 | k+1,.tl t f l,_=>fun g g' v hg hv=>by
  cases hv with
  | tl _ _ _ _ h=>exact .tl t f l v (by rw [hg.mem];exact h)
 | k+1,.nn t l,_=>fun g g' v hg hv=>by
  cases hv with
  | nn _ _ a n c h=>exact .nn t l a n c (by rw [hg.mem];exact h)
 | k+1,.dp t x,_=>fun g g' v hg hv=>by
  cases hv with
  | dp _ _ b off f hm=>exact .dp t x b off f (fun j c e=>by rw [hg.mem];exact hm j c e)
 | k+1,.mp x,h=>.mp h
 | k+1,.op r o,_=>fun g g' v hg hv=>by
  cases hv with
  | op _ _ _ h0 h1=>exact .op r o v h0 (fun j e=>VP.tp (N:=N) (x:=.c_ r j) rfl g g' v hg (h1 j e))
 | k+1,.os r z o,_=>fun g g' v hg hv=>by
  cases hv with
  | os _ _ _ _ h0 h1=>exact .os r z o v (fun e=>VP.e0 (N:=N) g g' v hg (h0 e)) (fun j e=>VP.tw (N:=N) (x:=.c_ r j) rfl g g' v hg (h1 j e))
 | k+1,.om r o,_=>fun g g' v hg hv=>by
  cases hv with
  | om _ _ _ h0 h1=>exact .om r o v h0 (fun j e=>VP.mp (N:=N) (x:=.c_ r j) rfl g g' v hg (h1 j e))
 | k+1,.wY q n F ps j aa bd,h=>fun g g' v hg hv=>by
  have h:(Nat.blt q N && okF (y_ N k) n F)=true:=h
  rw [zC] at h
  cases hv with
  | wY _ _ _ _ _ _ _ b s l h0 hl h1 h2 h3 h4 h5=>exact .wY q n F ps j aa bd b s l ((hg.ck q (.inl (bW h.1))).trans h0) (by rw [hg.lp];exact hl) h1 h2 h3 h4 (fun i hi=>jg k _ (Jp h.2 i hi) g g' _ hg (h5 i hi))
 | k+1,.un,_=>fun g g' v _ hv=>by cases hv;exact .un
 | k+1,.dN,_=>fun g g' v _ _=>.dN v
theorem lD {N:Nat}:∀(t:Ty) (x:t.T),∀c∈aJ t x,VP N c
 | .int k,x,c,h=>by rcases zF.1 h with rfl;exact jg 1 _ rfl
 | .bool,x,c,h=>by rcases zF.1 h with rfl;exact jg 1 _ rfl
 | .unit,_,c,h=>by cases h
 | .pair a b,x,c,h=>(zX.1 h).elim (lD a x.1 c) (lD b x.2 c)
 | .arr n t,l,c,h=>by
  obtain ⟨i,_,h⟩:=List.mem_flatMap.1 h
  exact lD t _ c h
 | .cN t,l,c,h=>by rcases zF.1 h with rfl;exact jg 1 _ rfl
 | .ptr r,x,c,h=>by rcases zF.1 h with rfl;exact jg 1 _ rfl
 | .dR r,j,c,h=>by rcases zF.1 h with rfl;exact jg 1 _ rfl
 | .kA r z,x,c,h=>by rcases zF.1 h with rfl;exact jg 1 _ rfl
 | .td r z,j,c,h=>by rcases zF.1 h with rfl;exact jg 1 _ rfl
 | .mp r,x,c,h=>by rcases zF.1 h with rfl;exact jg 1 _ rfl
theorem se {N:Nat} (a:Bool) (t:Ty) (x:t.T):VP N (df a t x):=by
 unfold df
 have h:=lD (N:=N) t x
 cases a with
 | true=>
  intro g g' v hg hv
  cases hv with
  | agg _ vs hl h1 hh=>exact .agg _ vs hl h1 (fun i c y e1 e2=>h c (zG e1) g g' y hg (hh i c y e1 e2))
 | false=>
  generalize aJ t x=cs at h
  match cs,h with
  | [c],h=>exact h c (.head _)
  | [],_=>exact fun g g' v _ _=>.dN v
  | _::_::_,_=>exact fun g g' v _ _=>.dN v
def LK (N:Nat):Ob→Prop
 | .cells cs=>∀c∈cs,VP N c
 | .eL (.map es)=>∀e∈es,VP N e.1∧VP N e.2
 | .eL .FU=>True
 | .eL (.loop _ _)=>True
theorem IQ {N:Nat} {k:RK} {c:k.T} {j:Nat} {x:Ob} (h:fQ k c j=some x):LK N x:=by
 cases k with
 | box t=>
  simp only [fQ] at h
  split at h
  ·cases h;exact lD t _
  ·cases h
 | row t=>
  simp only [fQ] at h
  split at h
  ·cases h;exact fun c hc=>by obtain ⟨y,_,hy⟩:=List.mem_flatMap.1 hc;exact lD t y c hy
  ·cases h
 | map ka tk va tv=>
  simp only [fQ] at h
  split at h
  ·cases h;exact fun e he=>by obtain ⟨y,_,rfl⟩:=List.mem_map.1 he;exact ⟨se _ _ _,se _ _ _⟩
  ·cases h
def gjv (g:G):Option (Option Nat)→Option (Option Nat×(Nat×Nat))
 | some (some o)=>g.ck o
 | some none=>some (none,(0,0))
 | none=>none
def gj (N:Nat) (names:List (Option Nat)) (g:G):G:=⟨fun i=>if i<N∨¬i<dO then g.ck i else gjv g names[i-N]?,g.mem,g.lp⟩
theorem Kw (N:Nat) (names:List (Option Nat)) (g:G):EB N g (gj N names g):=⟨fun i h=>if_pos h,rfl,rfl⟩
theorem B4 {N:Nat} {names:List (Option Nat)} {g:G} {k:Nat} {nm:Option Nat} (h:names[k]?=some nm) (hl:N+names.length≤dO):(gj N names g).ck (N+k)=gjv g (some nm):=by
 have hk:=(zB.1 h).1
 show (if N+k<N∨¬N+k<dO then g.ck (N+k) else _)=_
 rw [if_neg (by omega),Nat.add_sub_cancel_left,h]
theorem pZ.to {g g':G} {w:World} {b t:Nat} {cs:List A} (h:pZ g w b t cs) {N:Nat} (hs:EB N g g') (hc:∀c∈cs,VP N c):pZ g' w b t cs:=by
 obtain ⟨cur,ty,k1,k2,k3,k4⟩:=h
 exact ⟨cur,ty,k1,k2,k3,fun j c x e1 e2=>⟨hc c (zG e1) g g' x hs (k4 j c x e1 e2).1,(k4 j c x e1 e2).2⟩⟩
theorem s_.to {g g':G} {x:TA} {ob:Obj} (h:s_ g x ob) {N:Nat} (hs:EB N g g') (hc:LK N (.eL x)):s_ g' x ob:=by
 cases x with
 | map es=>
  obtain ⟨lT,clock,k1,k2,k3⟩:=h
  exact ⟨lT,clock,k1,k2,fun i e q e1 e2=>⟨(hc q (zG e2)).1 g g' _ hs (k3 i e q e1 e2).1,(hc q (zG e2)).2 g g' _ hs (k3 i e q e1 e2).2⟩⟩
 | FU=>exact h
 | loop=>exact h
theorem Rw {N:Nat} {names:List (Option Nat)} {S S' S0:Hp} {g g0:G} {w w0:World} (hl:N+names.length≤dO)
  (h1:∀i x,stay N i→S'.ob i=some x→(S.ob i=some x∧LK N x)∨∃cs kt,S.ob i=some (.cells cs)∧x = .cells kt∧kt.length=cs.length∧∀vs,Vs g cs vs→Vs (gj N names g) kt vs)
  (h2:∀i x,¬stay N i→S'.ob i=some x→∃k nm,i=N+k∧names[k]?=some nm∧(∀o,nm=some o→S.ob o=some x∧LK N x)∧(nm=none→x = .cells []))
  (h3:∀(k k' o:Nat),names[k]?=some (some o)→names[k']?=some (some o)→k=k')
  (h4:∀(k o:Nat),names[k]?=some (some o)→stay N o→S'.ob o=none)
  (h5:∀i,S'.fr i→(¬stay N i→N+names.length≤i)∧(stay N i→S.fr i))
  (hf:∀o,N≤o→o<dO→S0.fr o∧g0.ck o=none) (hI:Inv g S w) (hE:Ext S0 g0 w0 S g w) :
  Inv (gj N names g) S' w∧Ext S0 g0 w0 S' (gj N names g) w:=by
 have hs:=Kw N names g
 have ns:∀{i},¬stay N i→N≤i∧i<dO:=fun {i} h=>by unfold stay at h;omega
 have ZH:∀i,¬stay N i→(gj N names g).ck i=gjv g names[i-N]?:=fun i h=>if_neg h
 have src:∀i x b s,S'.ob i=some x→(gj N names g).ck i=some (some b,s)→∃o y,S.ob o=some y∧g.ck o=some (some b,s)∧(i=o∧stay N i∨¬stay N i∧∃k,i=N+k∧names[k]?=some (some o)):=fun i x b s e1 e2=>by
  by_cases hi:stay N i
  ·rcases h1 i x hi e1 with ⟨q1,q2⟩ | ⟨cs,kt,q1,_,_⟩
   ·exact ⟨i,x,q1,by rw [←hs.ck i hi];exact e2,.inl ⟨rfl,hi⟩⟩
   ·exact ⟨i,_,q1,by rw [←hs.ck i hi];exact e2,.inl ⟨rfl,hi⟩⟩
  ·obtain ⟨k,nm,rfl,hk,q1,q2⟩:=h2 i x hi e1
   rw [B4 hk hl] at e2
   cases nm with
   | none=>cases e2
   | some o=>exact ⟨o,x,(q1 o rfl).1,e2,.inr ⟨hi,k,rfl,hk⟩⟩
 have inj:∀i j x y b s s',S'.ob i=some x→S'.ob j=some y→(gj N names g).ck i=some (some b,s)→(gj N names g).ck j=some (some b,s')→i=j:=fun i j x y b s s' e1 e2 k1 k2=>by
  obtain ⟨o1,x1,p1,p3,p4⟩:=src i x b s e1 k1
  obtain ⟨o2,x2,q1,q3,q4⟩:=src j y b s' e2 k2
  have ho:=hI.inj o1 o2 x1 x2 b s s' p1 q1 p3 q3
  subst ho
  rcases p4 with ⟨rfl,p5⟩ | ⟨p5,k,rfl,p6⟩
  ·rcases q4 with ⟨rfl,_⟩ | ⟨q5,k',rfl,q6⟩
   ·rfl
   ·rw [h4 k' i q6 p5] at e1;cases e1
  ·rcases q4 with ⟨rfl,q5⟩ | ⟨q5,k',rfl,q6⟩
   ·rw [h4 k j p6 q5] at e2;cases e2
   ·rw [h3 k k' o1 p6 q6]
 refine ⟨⟨fun i cs e=>?_,fun i x e=>?_,fun i e=>?_,fun i b s e=>?_,inj,hI.mem,fun i b s j x e k=>?_,hI.lp⟩,⟨⟨fun o p e=>?_,fun _ _ _ e=>hE.le.mem _ _ _ e,fun _ _ e=>hE.le.lp _ _ e⟩,hE.os,hE.tape,hE.output,hE.size,hE.frame,fun k ⟨i,s,x,e1,e2⟩=>?_,fun o p e=>?_,fun o e=>?_,hE.zh,hE.lpo⟩⟩
 ·by_cases hi:stay N i
  ·rw [hs.ck i hi]
   rcases h1 i _ hi e with ⟨q1,q2⟩ | ⟨ds,nQ,q1,q2,q3,q4⟩
   ·exact (hI.cells i cs q1).imp id fun ⟨b,t,k1,k2⟩=>⟨b,t,k1,k2.to hs q2⟩
   ·cases q2
    rcases hI.cells i ds q1 with ⟨k1,k2⟩ | ⟨b,t,k1,cur,ty,k2,k3,k4⟩
    ·exact .inl ⟨k1,List.length_eq_zero_iff.1 (by rw [q3,k2];rfl)⟩
    ·exact .inr ⟨b,t,by rw [q3];exact k1,cur,ty,k2,k3,by rw [q3];exact q4 _ k4⟩
  ·obtain ⟨k,nm,rfl,hk,q1,q2⟩:=h2 i _ hi e
   rw [B4 hk hl]
   cases nm with
   | none=>
    have:=q2 rfl
    cases this
    exact .inl ⟨rfl,rfl⟩
   | some o=>
    obtain ⟨q3,q4⟩:=q1 o rfl
    exact (hI.cells o cs q3).imp id fun ⟨b,t,k1,k2⟩=>⟨b,t,k1,k2.to hs q4⟩
 ·by_cases hi:stay N i
  ·rcases h1 i _ hi e with ⟨q1,q2⟩ | ⟨ds,nQ,q1,q2,q3⟩
   ·obtain ⟨b,s,ob,k1,k2,k3⟩:=hI.eL i x q1
    exact ⟨b,s,ob,(hs.ck i hi).trans k1,k2,k3.to hs q2⟩
   ·cases q2
  ·obtain ⟨k,nm,rfl,hk,q1,q2⟩:=h2 i _ hi e
   cases nm with
   | none=>have:=q2 rfl;cases this
   | some o=>
    obtain ⟨q3,q4⟩:=q1 o rfl
    obtain ⟨b,s,ob,k1,k2,k3⟩:=hI.eL o x q3
    exact ⟨b,s,ob,(B4 hk hl).trans k1,k2,k3.to hs q4⟩
 ·obtain ⟨q1,q2⟩:=h5 i e
  by_cases hi:stay N i
  ·rw [hs.ck i hi];exact hI.fresh i (q2 hi)
  ·rw [ZH i hi,zb (by have:=q1 hi;omega)];rfl
 ·by_cases hi:stay N i
  ·rw [hs.ck i hi] at e;exact hI.lt i b s e
  ·rw [ZH i hi] at e
   generalize names[i-N]?=nm at e
   match nm,e with
   | some (some o),e=>exact hI.lt o b s e
 ·obtain ⟨o,y,p1,p3,_⟩:=src i x b s e k
  exact hI.pC o b s j y p1 p3
 ·have hi:stay N o:=by
   by_cases hi:stay N o
   ·exact hi
   ·obtain ⟨a1,a2⟩:=ns hi
    rw [(hf o a1 a2).2] at e;cases e
  rw [hs.ck o hi];exact hE.le.ck o p e
 ·obtain ⟨o,y,p1,p3,_⟩:=src i x k s e1 e2
  exact hE.own k ⟨o,s,y,p1,p3⟩
 ·by_cases hi:stay N o
  ·rw [hs.ck o hi] at e;exact hE.QS o p e
  ·obtain ⟨a1,a2⟩:=ns hi
   exact .inr ⟨(hf o a1 a2).2,(hf o a1 a2).1⟩
 ·by_cases hi:stay N o
  ·exact hE.fr o ((h5 o e).2 hi)
  ·obtain ⟨a1,a2⟩:=ns hi
   exact (hf o a1 a2).1
end
end Go.Bm