/- Texts of one proof, put together: see each part. -/
import Derived.Test.YtfffmmahegdfiaaGreatPA
set_option maxHeartbeats 2000000
noncomputable section
set_option linter.unusedVariables false
set_option linter.unusedSimpArgs false
namespace Go.Bm
section
open Go.RowKit
theorem lH {s:Nat}:∀(π σ:List Sp),Bq s (π++σ)↔Bq s π∧Bq s σ
 | [],σ=>⟨fun h=>⟨trivial,h⟩,fun h=>h.2⟩
 | .fst::π,σ=>lH π σ
 | .snd _::π,σ=>lH π σ
 | .ix _ _::π,σ=>(and_congr_right fun _=>lH π σ).trans and_assoc.symm
 | .ai _ _ _::π,σ=>(and_congr_right fun _=>lH π σ).trans and_assoc.symm
theorem jZ:∀(π σ:List Sp),dz (π++σ)=dz π+dz σ
 | [],σ=>(Nat.zero_add _).symm
 | .fst::π,σ=>jZ π σ
 | .snd c::π,σ=>by show c+dz (π++σ)=c+dz π+dz σ;rw [jZ π σ,Nat.add_assoc]
 | .ix i z::π,σ=>by show i*z+dz (π++σ)=i*z+dz π+dz σ;rw [jZ π σ,Nat.add_assoc]
 | .ai i n z::π,σ=>by show i*z+dz (π++σ)=i*z+dz π+dz σ;rw [jZ π σ,Nat.add_assoc]
section
variable {P:Program} {E:Env} {o:Oper} {ρ:Operand→A} {h:H} {β:Type} {K:A→H→Fp→Option β} {r:β}
theorem Step.Bw {h h':H} {T:Fp} {pv EI:A} (k:Step P o ρ h h' T pv) (hv:∀g v,V g pv v→V g EI v):Step P o ρ h h' T EI where
 out:=k.out
 rd:=k.rd
 ok:=fun S2 hS=>fun r g w a next Q hI hx K'=>k.ok S2 hS r g w a next Q hI hx (fun v g' w' h1 h2 h3=>K' v g' w' (hv _ _ h1) h2 h3)
def BL (v:A) (k:A→Option β):Option β:=match v with
 | .op r o=>opt o (k (.v (.pointer none))) (fun j=>k (.tp (.eG r j) []))
 | .os r z o=>opt o (k .e0) (fun j=>k (.tw (.eG r j) z))
 | .om r o=>opt o (k (.v (.map none))) (fun j=>k (.mp (.eG r j)))
 | v=>k v
theorem wG {v:A} {k:A→Option β} (hr:BL v k=some r):∃v',k v'=some r∧∀g x,V g v x→V g v' x:=by
 unfold BL at hr
 split at hr
 ·rcases ik hr with ⟨e,h1⟩ | ⟨j,e,h1⟩
  ·exact ⟨_,h1,fun g x hv=>by cases hv with | op _ _ _ h0 _=>rw [h0 e];exact .v _⟩
  ·exact ⟨_,h1,fun g x hv=>by cases hv with | op _ _ _ _ h0=>exact h0 j e⟩
 ·rcases ik hr with ⟨e,h1⟩ | ⟨j,e,h1⟩
  ·exact ⟨_,h1,fun g x hv=>by cases hv with | os _ _ _ _ h0 _=>exact h0 e⟩
  ·exact ⟨_,h1,fun g x hv=>by cases hv with | os _ _ _ _ _ h0=>exact h0 j e⟩
 ·rcases ik hr with ⟨e,h1⟩ | ⟨j,e,h1⟩
  ·exact ⟨_,h1,fun g x hv=>by cases hv with | om _ _ _ h0 _=>rw [h0 e];exact .v _⟩
  ·exact ⟨_,h1,fun g x hv=>by cases hv with | om _ _ _ _ h0=>exact h0 j e⟩
 ·exact ⟨_,hr,fun g x hv=>hv⟩
def Out (P:Program) (o:Oper) (ρ:Operand→A) (h:H) (K:A→H→Fp→Option β) (r:β):Prop:=∃pv h' T,K pv h' T=some r∧Step P o ρ h h' T pv
theorem Out.pure {v:A} (hr:K v h .no=some r) (k:∀S2,eX P o ρ S2 S2 v) (hd:∀c,o.op≠.defer c):Out P o ρ h K r:=⟨v,h,.no,hr,.pure k hd⟩
theorem Out.read {v:A} (T:List Nat) (hr:K v h (.rd T)=some r) (k:∀S2,Agree (.rd T) (hp h) S2→eX P o ρ S2 S2 v) (hd:∀c,o.op≠.defer c):Out P o ρ h K r:=⟨v,h,.rd T,hr,.read _ k hd⟩
theorem Out.sp {h':H} {T:Fp} {v:A} (hr:BL v (fun v=>K v h' T)=some r) (k:Step P o ρ h h' T v):Out P o ρ h K r:=by
 obtain ⟨v',h1,h2⟩:=wG hr
 exact ⟨v',h',T,h1,k.Bw h2⟩
def mvK (x:A) (h:H) (K:A→H→Fp→Option β):Option β:=K x h .no
def La (px:A) (ix:Nat) (h:H) (K:A→H→Fp→Option β):Option β:=match px with
 | .jz cs=>match cs[ix]? with
  | some p=>BL p (fun v=>K v h .no)
  | none=>none
 | _=>none
theorem G3 {x:Operand} {ix:Nat} (ho:o.op = .extract x ix) (hr:La (ρ x) ix h K=some r):Out P o ρ h K r:=by
 unfold La at hr
 split at hr
 ·rename_i cs hx
  split at hr
  ·rename_i p hp
   exact .sp hr (.pure (fun S2=>vf ho hx hp) (by rw [ho];intro c e;cases e))
  ·cases hr
 ·cases hr
def Cj (px py pz:A) (h:H) (K:A→H→Fp→Option β):Option β:=match px with
 | .v (.bool b)=>br b (K py h .no) (K pz h .no)
 | _=>none
theorem Ci {x y z:Operand} (ho:o.op = .pick x y z) (hr:Cj (ρ x) (ρ y) (ρ z) h K=some r):Out P o ρ h K r:=by
 unfold Cj at hr
 split at hr
 ·rename_i b hx
  rcases ph hr with ⟨rfl,h1⟩ | ⟨rfl,h1⟩
  ·exact .pure h1 (fun S2=>by have:=vc (P:=P) (S:=S2) ho hx;simpa using this) (by rw [ho];intro c e;cases e)
  ·exact .pure h1 (fun S2=>by have:=vc (P:=P) (S:=S2) ho hx;simpa using this) (by rw [ho];intro c e;cases e)
 ·cases hr
def Tz (op:BinOp) (k:IntKind) (m n:Int) (K:Value→Option β):Option β:=match op with
 | .add=>K (.int k (af k m n))
 | .sub=>K (.int k (aD k m n))
 | .mul=>K (.int k (dF k m n))
 | .quo=>gd (EN n) (K (.int k (Aw k m n)))
 | .rem=>gd (EN n) (K (.int k (dq m n)))
 | .and=>K (.int k (bits .and k m n))
 | .or=>K (.int k (bits .or k m n))
 | .xor=>K (.int k (bits .xor k m n))
 | .andNot=>K (.int k (bits .andNot k m n))
 | .eql=>K (.bool (ae m n))
 | .neq=>K (.bool (aw (ae m n)))
 | .lss=>K (.bool (a_ m n))
 | .leq=>K (.bool (ck m n))
 | .gtr=>K (.bool (a_ n m))
 | .geq=>K (.bool (ck n m))
 | _=>none
theorem Hl {op:BinOp} {k:IntKind} {m n:Int} {K:Value→Option β} (hr:Tz op k m n K=some r):∃v,K v=some r∧Gu op k m n=some v:=by
 cases op with
 | quo=>
  obtain ⟨h1,h2⟩:=bC (show gd (EN n) (K (.int k (Aw k m n)))=some r from hr)
  exact ⟨_,h2,if_neg h1⟩
 | rem=>
  obtain ⟨h1,h2⟩:=bC (show gd (EN n) (K (.int k (dq m n)))=some r from hr)
  exact ⟨_,h2,if_neg h1⟩
 | _=>first | exact ⟨_,hr,rfl⟩ | cases hr
def shI (op:BinOp) (k:IntKind) (m n:Int) (K:Value→Option β):Option β:=match op with
 | .shl=>gd (bc n) (K (.int k (ly k m n)))
 | .shr=>gd (bc n) (K (.int k (jD k m n)))
 | _=>none
theorem JT {op:BinOp} {k:IntKind} {m n:Int} {K:Value→Option β} (hr:shI op k m n K=some r):∃v,K v=some r∧wZ op k m n=some v:=by
 cases op with
 | shl=>
  obtain ⟨h1,h2⟩:=bC (show gd (bc n) (K (.int k (ly k m n)))=some r from hr)
  exact ⟨_,h2,if_neg (by unfold bc at h1;omega)⟩
 | shr=>
  obtain ⟨h1,h2⟩:=bC (show gd (bc n) (K (.int k (jD k m n)))=some r from hr)
  exact ⟨_,h2,if_neg (by unfold bc at h1;omega)⟩
 | _=>cases hr
def Je:BinOp→Bool
 | .shl=>true
 | .shr=>true
 | _=>false
def isEq:BinOp→Bool
 | .eql=>true
 | .neq=>true
 | _=>false
theorem lz {op:BinOp} (h:isEq op=true):op = .eql∨op = .neq:=by cases op<;>first | exact .inl rfl | exact .inr rfl | cases h
def An (op:BinOp) (b:Bool):Bool:=match op with
 | .eql=>b
 | _=>aw b
theorem oa {op:BinOp} (b:Bool) (h:isEq op=true):An op b=if op = .eql then b else !b:=by
 rcases lz h with rfl | rfl<;>rfl
def Am (p q:A):Option Bool:=match q with
 | .v (.slice none 0 0)=>match p with
  | .v (.slice none _ _)=>some true
  | .nn _ _=>some false
  | .aa _ _ _ _=>some false
  | .sl _ _ _ _=>some false
  | _=>none
 | _=>none
theorem F_ {g:G} {p q:A} {u v:Value} {b:Bool} (h:Am p q=some b) (hp:V g p u) (hq:V g q v):v = .slice none 0 0∧∃A n c,u = .slice A n c∧A.isNone=b:=by
 unfold Am at h
 split at h
 ·cases hq
  refine ⟨rfl,?_⟩
  split at h
  ·cases h;cases hp;exact ⟨_,_,_,rfl,rfl⟩
  ·cases h;cases hp;exact ⟨_,_,_,rfl,rfl⟩
  ·cases h;cases hp;exact ⟨_,_,_,rfl,rfl⟩
  ·cases h;cases hp;exact ⟨_,_,_,rfl,rfl⟩
  ·cases h
 ·cases h
theorem B0 (d:Nat) (w:World) {T E:TypeId} (hT:P.underlying T=some (.slice E)) (A:Option Addr) (n c:Nat):(Op.equalIn (d+1) T (.slice A n c) (.slice none 0 0)).run P w = .ok A.isNone w:=by
 cases A<;>simp [Op.equalIn,run_underlying hT]
theorem xV (w:World) {T E:TypeId} (hT:P.underlying T=some (.slice E)) (A:Option Addr) (n c:Nat):(Op.equalIn 10000 T (.slice A n c) (.slice none 0 0)).run P w = .ok A.isNone w:=B0 9999 w hT A n c
theorem FQ {S:Hp} {op:BinOp} {T T' E:TypeId} {x y:Operand} {b:Bool} (ho:o.op = .binOp op T x y T') (hT:P.underlying T=some (.slice E)) (mg:op = .eql∨op = .neq)
  (hb:Am (ρ x) (ρ y)=some b):eX P o ρ S S (.v (.bool (if op = .eql then b else !b))):=
 .value fun g w a _ hv=>by
  obtain ⟨e2,A,n,c,h1,h2⟩:=F_ hb (hv x (by simp [ho,Op.operands])) (hv y (by simp [ho,Op.operands]))
  have eQ:=xV (P:=P) w hT A n c
  rw [h2] at eQ
  refine ⟨.bool (if op = .eql then b else !b),?_,.v _⟩
  have j6:(eqGuard op T x y (.slice A n c) (.slice none 0 0)).run P w = .ok () w:=by
   rcases mg with rfl | rfl<;>rfl
  rcases mg with rfl | rfl
  ·have hb:(binOp .eql T (.slice A n c) (.slice none 0 0)).run P w = .ok (.bool b) w:=by
    simp only [binOp];simp [Op.equal,Op.maxDepth,eQ]
   simp only [execOp,ho,h1,e2,Sem.run_bind,j6,Result.andThen_ok,if_true,hb,Sem.run_pure]
  ·have hb:(binOp .neq T (.slice A n c) (.slice none 0 0)).run P w = .ok (.bool (!b)) w:=by
    simp only [binOp];simp [Op.equal,Op.maxDepth,eQ]
   simp only [execOp,ho,h1,e2,Sem.run_bind,j6,Result.andThen_ok,hb,Sem.run_pure]
   rfl
def Ee (E:Env) (op:BinOp) (T:Nat) (px py:A) (h:H) (K:A→H→Fp→Option β):Option β:=match px,py with
 | .v (.int k m),.v (.int k' n)=>bif Je op then shI op k m n (fun v=>K (.v v) h .no) else if k=k' then Tz op k m n (fun v=>K (.v v) h .no) else none
 | .v (.bool p),.v (.bool q)=>bif isEq op then (match ct E.dN T with
  | some ⟨.bool,_,_,_,_,_,_⟩=>K (.v (.bool (An op (rp p q)))) h .no
  | _=>none) else none
 | px,py=>bif isEq op then (match ct E.dN T with
  | some e=>match e.d with
   | .pointer _=>match CD px py with
    | some b=>K (.v (.bool (An op b))) h .no
    | none=>none
   | .slice _=>match Am px py with
    | some b=>K (.v (.bool (An op b))) h .no
    | none=>none
   | .struct _=>bif iq px && iq py && E.eqs.any (Nat.beq T) then (match px.cells,py.cells with
    | some cs,some ds=>match uD E 6 T cs ds with
     | some b=>K (.v (.bool (An op b))) h .no
     | none=>none
    | _,_=>none) else none
   | _=>none
  | none=>none) else none
theorem ug (hE:bW P E) {op:BinOp} {T T':TypeId} {x y:Operand} (ho:o.op = .binOp op T x y T') (hr:Ee E op T (ρ x) (ρ y) h K=some r):Out P o ρ h K r:=by
 have hd:∀c,o.op≠.defer c:=by rw [ho];intro c e;cases e
 unfold Ee at hr
 split at hr
 ·rename_i k m k' n hx hy
  cases hs:Je op with
  | true=>
   rw [hs] at hr
   simp only [cond_true] at hr
   obtain ⟨v,h1,h2⟩:=JT hr
   exact .pure h1 (fun S2=>z_ ho hx hy h2) hd
  | false=>
   rw [hs] at hr
   simp only [cond_false] at hr
   split at hr
   ·rename_i hk;subst hk
    obtain ⟨v,h1,h2⟩:=Hl hr
    exact .pure h1 (fun S2=>FV ho hx hy h2) hd
   ·cases hr
 ·rename_i p q hx hy
  obtain ⟨hq,hr⟩:=ah hr
  split at hr
  ·rename_i ht
   refine .pure hr (fun S2=>?_) hd
   have:=FU (P:=P) (S:=S2) ho (hE.dN _ _ ht).u hx hy (lz hq)
   rw [oa _ hq]
   rcases lz hq with rfl | rfl<;>exact this
  ·cases hr
 ·obtain ⟨hq,hr⟩:=ah hr
  split at hr
  ·rename_i e ht
   split at hr
   ·rename_i el Bk
    split at hr
    ·rename_i b hb
     refine .pure hr (fun S2=>?_) hd
     rw [oa _ hq]
     exact Ab ho (by rw [(hE.dN _ _ ht).u,Bk]) hb (lz hq)
    ·cases hr
   ·rename_i el Bk
    split at hr
    ·rename_i b hb
     refine .pure hr (fun S2=>?_) hd
     rw [oa _ hq]
     exact FQ ho (by rw [(hE.dN _ _ ht).u,Bk]) (lz hq) hb
    ·cases hr
   ·rename_i fs Bk
    obtain ⟨hc,hr⟩:=ah hr
    simp only [zC] at hc
    split at hr
    ·rename_i cs ds h1 h2
     split at hr
     ·rename_i b hb
      refine .pure hr (fun S2=>?_) hd
      rw [oa _ hq]
      exact Ac hE ho ht (by rw [Bk];rfl) (hE.eqs _ hc.2) hc.1.1 hc.1.2 h1 h2 hb (by omega) (lz hq)
     ·cases hr
    ·cases hr
   ·cases hr
  ·cases hr
def UN (op:UnOp) (px:A) (h:H) (K:A→H→Fp→Option β):Option β:=match op,px with
 | .not,.v (.bool b)=>K (.v (.bool (aw b))) h .no
 | _,_=>none
theorem JO {op:UnOp} {T:TypeId} {x:Operand} (ho:o.op = .unOp op T x) (hr:UN op (ρ x) h K=some r):Out P o ρ h K r:=by
 unfold UN at hr
 split at hr
 ·rename_i b hx
  exact .pure hr (fun S2=>FL ho hx) (by rw [ho];intro c e;cases e)
 ·cases hr
def acD (E:Env) (s d:Nat) (px:A) (h:H) (K:A→H→Fp→Option β):Option β:=match ct E.dN s,ct E.dN d,px with
 | some _,some ⟨.int k',_,_,_,_,_,_⟩,.v (.int k n)=>if k'=k then K (.v (.int k n)) h .no else K (.v (.int k' (dt k' n))) h .no
 | _,_,_=>none
def YS (E:Env) (s d:Nat) (px:A) (h:H) (K:A→H→Fp→Option β):Option β:=match ct E.dN s,ct E.dN d,px with
 | some _,some ⟨.int k',_,_,_,_,_,_⟩,.v (.int _ n)=>K (.v (.int k' (dt k' n))) h .no
 | _,_,_=>none
theorem Ln (hE:bW P E) {s d:TypeId} {x:Operand} (ho:o.op = .convert s d x) (hr:YS E s d (ρ x) h K=some r):Out P o ρ h K r:=by
 unfold YS at hr
 split at hr
 ·rename_i es _ _ _ _ _ _ _ _ _ hs mY hx
  exact .pure hr (fun S2=>Cq ho (by rw [(hE.dN _ _ hs).u];rfl) (hE.dN _ _ mY).u hx) (by rw [ho];intro c e;cases e)
 ·cases hr
def Qn (px:A) (h:H) (K:A→H→Fp→Option β):Option β:=bif C0 px then K px h .no else none
theorem Gb {x:Operand} (ho:o.op = .nilCheck x) (hr:Qn (ρ x) h K=some r):Out P o ρ h K r:=by
 obtain ⟨h1,h2⟩:=ah hr
 exact .pure h2 (fun S2=>tn ho h1) (by rw [ho];intro c e;cases e)
end
end
section
open Go.RowKit
section
variable {P:Program} {E:Env} {o:Oper} {ρ:Operand→A} {h:H} {β:Type} {K:A→H→Fp→Option β} {r:β}
def lF:Nat→Ty→Nat→Option (List Sp)
 | 1,_,0=>some []
 | _+2,.pair _ _,0=>some [.fst]
 | n+2,.pair a b,f+1=>match lF (n+1) b f with
  | some π=>some (.snd a.size::π)
  | none=>none
 | _,_,_=>none
theorem tX {s:Nat}:∀(n:Nat) (t:Ty) (f:Nat) (π:List Sp),lF n t f=some π→Bq s π
 | 0,_,_,_,h=>by simp [lF] at h
 | 1,_,0,_,h=>by simp [lF] at h;subst h;trivial
 | 1,_,f+1,_,h=>by simp [lF] at h
 | n+2,.pair a b,0,_,h=>by simp [lF] at h;subst h;trivial
 | n+2,.pair a b,f+1,_,h=>by
  simp only [lF] at h
  split at h
  ·rename_i π' h'
   cases h
   exact tX (s:=s) (n+1) b f π' h'
  ·cases h
 | n+2,.int _,f,_,h=>by cases f<;>simp [lF] at h
 | n+2,.bool,f,_,h=>by cases f<;>simp [lF] at h
 | n+2,.unit,f,_,h=>by cases f<;>simp [lF] at h
 | n+2,.arr _ _,f,_,h=>by cases f<;>simp [lF] at h
 | n+2,.aK _,f,_,h=>by cases f<;>simp [lF] at h
 | n+2,.ptr _,f,_,h=>by cases f<;>simp [lF] at h
 | n+2,.dO _,f,_,h=>by cases f<;>simp [lF] at h
 | n+2,.jU _ _,f,_,h=>by cases f<;>simp [lF] at h
 | n+2,.oM _ _,f,_,h=>by cases f<;>simp [lF] at h
 | n+2,.mp _,f,_,h=>by cases f<;>simp [lF] at h
def K5 (E:Env) (T f:Nat) (px:A) (h:H) (K:A→H→Fp→Option β):Option β:=match ct E.dN T with
 | some ⟨.struct fs,_,_,_,_,t,_⟩=>match fs[f]? with
  | some fd=>match ct E.dN fd.type with
   | some e=>bif Nat.blt 0 e.size then (match px with
    | .ptr o off=>K (.ptr o (off+fd.offset)) h .no
    | .tp X π=>match t with
     | some t=>match lF fs.size t f with
      | some σ=>bif Nat.beq (dz σ) fd.offset then K (.tp X (π++σ)) h .no else none
      | none=>none
     | none=>none
    | .dp t x=>match lF fs.size t f with
     | some σ=>bif Nat.beq (dz σ) fd.offset then (match nD σ t x with
      | some s=>K (.dp s.t s.x) h .no
      | none=>none) else none
     | none=>none
    | _=>none) else none
   | none=>none
  | none=>none
 | _=>none
theorem GW (hE:bW P E) {T f:Nat} {x:Operand} (ho:o.op = .fieldAddr T x f) (hr:K5 E T f (ρ x) h K=some r):Out P o ρ h K r:=by
 have hd:∀c,o.op≠.defer c:=by rw [ho];intro c e;cases e
 unfold K5 at hr
 split at hr
 ·rename_i fs _ _ _ _ t _ ht
  split at hr
  ·rename_i fd hf
   split at hr
   ·rename_i e he
    obtain ⟨h0,hr⟩:=ah hr
    have h0:=bb h0
    have nq:∀{v:A},(∀g u,V g (ρ x) u→∃b off,u = .pointer (some ⟨b,off,none⟩)∧V g v (.pointer (some ⟨b,off+fd.offset,none⟩)))→∀S2,eX P o ρ S2 S2 v:=fun hv S2=>
     Aa ho (hE.dN _ _ ht).u hf (hE.dN _ _ he).ti.size (by omega) hv
    split at hr
    ·rename_i q off hx
     refine .pure hr (nq fun g u hu=>?_) hd
     rw [hx] at hu
     cases hu with
     | ptr _ _ b s hb=>exact ⟨b,off,rfl,.ptr _ _ b s hb⟩
    ·rename_i X π hx
     split at hr
     ·rename_i t'
      split at hr
      ·rename_i σ hσ
       obtain ⟨hc,hr⟩:=ah hr
       refine .pure hr (nq fun g u hu=>?_) hd
       rw [hx] at hu
       cases hu with
       | tp _ _ b s hb hk=>
        refine ⟨b,dz π,rfl,?_⟩
        rw [←beq_eq hc,←jZ]
        exact .tp X _ b s hb ((lH π σ).2 ⟨hk,tX _ _ _ _ hσ⟩)
      ·cases hr
     ·cases hr
    ·rename_i t' y hx
     split at hr
     ·rename_i σ hσ
      obtain ⟨hc,hr⟩:=ah hr
      split at hr
      ·rename_i sg Wm
       refine .pure hr (nq fun g u hu=>?_) hd
       rw [hx] at hu
       cases hu with
       | dp _ _ b off f hm=>
        obtain ⟨a,c,q1,q2⟩:=mj σ t' y 0 sg Wm (tX _ _ _ _ hσ)
        refine ⟨b,off,rfl,.dp sg.t sg.x b _ (fun j=>f (dz σ+j)) (fun j d hj=>?_)⟩
        have:=hm (dz σ+j) d (by
         rw [q1,zJ (by omega),show dz σ+j-a.length=j by omega,zK (zB.1 hj).1];exact hj)
        rw [←beq_eq hc,Nat.add_assoc]
        exact this
      ·cases hr
     ·cases hr
    ·cases hr
   ·cases hr
  ·cases hr
 ·cases hr
def TQ:Nat→Nat→Int→(Nat→Option β)→Option β
 | 0,_,_,_=>none
 | n+1,i,m,k=>br (ae m (zN i)) (k i) (TQ n (i+1) m k)
theorem wF {m:Int} {k:Nat→Option β}:∀(n i:Nat),TQ n i m k=some r→∃j,k j=some r∧m=((j:Nat):Int)∧i≤j∧j<i+n
 | 0,i,h=>by cases h
 | n+1,i,h=>by
  rcases ph h with ⟨e,h1⟩ | ⟨e,h1⟩
  ·exact ⟨i,h1,of_decide_eq_true e,Nat.le_refl _,by omega⟩
  ·obtain ⟨j,k1,k2,k3,k4⟩:=wF n (i+1) h1
   exact ⟨j,k1,k2,by omega,by omega⟩
def V4:Operand→Option Nat
 | .const (.int _ (.ofNat n))=>some n
 | _=>none
theorem na {n:Int} (h:bc n):((nN n:Nat):Int)=n:=Int.toNat_of_nonneg h
def V9 (E:Env) (T:Nat) (px:A) (y:Operand) (py:A) (h:H) (K:A→H→Fp→Option β):Option β:=match py with
 | .v (.int _ n)=>match ct E.dN T with
  | some ⟨.array len el,_,_,_,_,_,_⟩=>match ct E.dN el with
   | some e=>match px with
    | .ptr q off=>match V4 y with
     | some i=>gd (neq (nN n) i) (bif Nat.blt i len then gd (bc n) (K (.ptr q (off+i*e.size)) h .no) else none)
     | none=>TQ len 0 n (fun i=>K (.ptr q (off+i*e.size)) h .no)
    | .tp X π=>gd (bc n) (gd (bf (nN n) len) (K (.tp X (π++[.ai (nN n) len e.size])) h .no))
    | .dp t x=>gd (bc n) (gd (bf (nN n) len) (bif Nat.blt 0 e.size then (match nD [.ai (nN n) len e.size] t x with
     | some s=>K (.dp s.t s.x) h .no
     | none=>none) else none))
    | _=>none
   | none=>none
  | some ⟨.slice el,_,_,_,_,_,_⟩=>match ct E.dN el with
   | some e=>bif Nat.blt 0 e.size then (match px with
    | .tl t _ l=>bif Nat.beq t.size e.size then gd (bc n) (gd (bf (nN n) (len l)) (K (.dp t (nth t.cK l (nN n))) h .no)) else none
    | .tw X z=>bif Nat.beq z e.size then jk h X (fun t l=>bif Nat.beq z t.size then gd (bc n) (gd (bf (nN n) (len l)) (K (.tp X [.ix (nN n) z]) h (.rd [iG X]))) else none) else none
    | .ts X z off m=>bif Nat.beq z e.size then gd (bc n) (gd (bf (nN n) m) (K (.tp X [.ix (aL off (nN n)) z]) h .no)) else none
    | .tf X z off m=>bif Nat.beq z e.size then gd (bc n) (gd (bf (nN n) m) (K (.tp X [.ix (aL off (nN n)) z]) h .no)) else none
    | .aa X π m z=>bif Nat.beq z e.size then gd (bc n) (gd (bf (nN n) m) (K (.tp X (π++[.ai (nN n) m z])) h .no)) else none
    | .sl q off z m=>bif Nat.beq z e.size then TQ m 0 n (fun i=>K (.ptr q (off+i*z)) h .no) else none
    | _=>none) else none
   | none=>none
  | _=>none
 | _=>none
theorem GX {t:Ty} {l:List t.T} {i:Nat} (hi:i<l.length) {j:Nat} {c:D} (hj:(cZ t (nth t.cK l i))[j]?=some c):(l.map (cZ t)).flatten[i*t.size+j]?=some c:=by
 have e:l=l.take i++nth t.cK l i::l.drop (i+1):=by
  rw [show nth t.cK l i=l[i] by simp [nth,zA,zD hi],List.getElem_cons_drop,zP]
 have hl:((l.take i).flatMap (cZ t)).length=i*t.size:=by
  have:∀m:List t.T,(m.flatMap (cZ t)).length=m.length*t.size:=fun m=>by
   induction m with
   | nil=>simp
   | cons a m ih=>rw [List.flatMap_cons,zY,ih,dZ,zR,Nat.succ_mul,Nat.add_comm]
  rw [this,List.length_take,Nat.min_eq_left (Nat.le_of_lt hi)]
 rw [kY]
 conv=>lhs;rw [e]
 rw [List.flatMap_append,List.flatMap_cons,zJ (by omega),hl,show i*t.size+j-i*t.size=j by omega,zK (zB.1 hj).1]
 exact hj
theorem Kz (hE:bW P E) {T:Nat} {x y:Operand} (ho:o.op = .indexAddr T x y) (hr:V9 E T (ρ x) y (ρ y) h K=some r):Out P o ρ h K r:=by
 have hd:∀c,o.op≠.defer c:=by rw [ho];intro c e;cases e
 unfold V9 at hr
 split at hr
 ·rename_i k n hy
  split at hr
  ·rename_i len el _ _ _ _ _ _ ht
   split at hr
   ·rename_i e he
    have nq:∀{v:A},0≤n∧n<len→(∀g u,V g (ρ x) u→∃b off,u = .pointer (some ⟨b,off,none⟩)∧V g v (.pointer (some ⟨b,off+n.toNat*e.size,none⟩)))→∀S2,eX P o ρ S2 S2 v:=fun hn hv S2=>
     rM ho (hE.dN _ _ ht).u (hE.dN _ _ he).ti.size hy hn hv
    split at hr
    ·rename_i q off hx
     have ptr:∀i:Nat,n.toNat=i→∀g u,V g (ρ x) u→∃b Qk,u = .pointer (some ⟨b,Qk,none⟩)∧V g (.ptr q (off+i*e.size)) (.pointer (some ⟨b,Qk+n.toNat*e.size,none⟩)):=fun i hi g u hu=>by
      rw [hx] at hu
      cases hu with
      | ptr _ _ b s hb=>exact ⟨b,off,rfl,by rw [hi];exact .ptr _ _ b s hb⟩
     split at hr
     ·rename_i i _
      obtain ⟨h1,hr⟩:=bC hr
      obtain ⟨h2,hr⟩:=ah hr
      obtain ⟨h3,hr⟩:=bC hr
      have h4:=na h3
      have h1:nN n=i:=h1
      have h5:=bb h2
      exact .pure hr (nq ⟨h3,by omega⟩ (ptr i h1)) hd
     ·obtain ⟨i,h1,h2,h3,h4⟩:=wF _ _ hr
      exact .pure h1 (nq ⟨by omega,by omega⟩ (ptr i (by omega))) hd
    ·rename_i X π hx
     obtain ⟨h3,hr⟩:=bC hr
     obtain ⟨h4,hr⟩:=bC hr
     have h5:=na h3
     have h4:nN n<len:=h4
     refine .pure hr (nq ⟨h3,by omega⟩ (fun g u hu=>?_)) hd
     rw [hx] at hu
     cases hu with
     | tp _ _ b s hb hk=>
      refine ⟨b,dz π,rfl,?_⟩
      have:=V.tp (g:=g) X (π++[.ai (nN n) len e.size]) b s hb ((lH π [.ai (nN n) len e.size]).2 ⟨hk,show nN n<len∧True from ⟨h4,trivial⟩⟩)
      rw [jZ] at this
      exact this
    ·rename_i t z hx
     obtain ⟨h3,hr⟩:=bC hr
     obtain ⟨h4,hr⟩:=bC hr
     obtain ⟨_,hr⟩:=ah hr
     have h5:=na h3
     have h4:nN n<len:=h4
     split at hr
     ·rename_i sg Wm
      refine .pure hr (nq ⟨h3,by omega⟩ (fun g u hu=>?_)) hd
      rw [hx] at hu
      cases hu with
      | dp _ _ b off f hm=>
       obtain ⟨a,c,q1,q2⟩:=mj _ t z 0 sg Wm ⟨h4,trivial⟩
       have q2:a.length=nN n*e.size:=q2
       refine ⟨b,off,rfl,.dp sg.t sg.x b _ (fun j=>f (nN n*e.size+j)) (fun j d hj=>?_)⟩
       have:=hm (nN n*e.size+j) d (by
        rw [q1,zJ (by omega),show nN n*e.size+j-a.length=j by omega,zK (zB.1 hj).1];exact hj)
       rw [Nat.add_assoc]
       exact this
     ·cases hr
    ·cases hr
   ·cases hr
  ·rename_i el _ _ _ _ _ _ ht
   split at hr
   ·rename_i e he
    obtain ⟨h0,hr⟩:=ah hr
    have h0:=bb h0
    have nq:∀{v:A} {S2:Hp},(∀g w u,Inv g S2 w→V g (ρ x) u→∃b off m cap,u = .slice (some ⟨b,off,none⟩) m cap∧(0≤n∧n<m)∧V g v (.pointer (some ⟨b,off+n.toNat*e.size,none⟩)))→eX P o ρ S2 S2 v:=fun hv=>
     tr ho (hE.dN _ _ ht).u (hE.dN _ _ he).ti.size hy hv
    split at hr
    ·rename_i t f l hx
     obtain ⟨h1,hr⟩:=ah hr
     obtain ⟨h3,hr⟩:=bC hr
     obtain ⟨h4,hr⟩:=bC hr
     have h5:=na h3
     have h4:nN n<l.length:=h4
     refine .pure hr (fun S2=>nq (fun g w u hI hu=>?_)) hd
     rw [hx] at hu
     cases hu with
     | tl _ _ _ _ hv=>
      rw [←beq_eq h1] at *
      generalize qb:List.map (cZ t) l=es at hv
      have pa:es.length=l.length:=by rw [←qb,zH]
      cases hv with
      | sV=>simp at pa;omega
      | sl _ _ _ a cap vs hz hc hf hn nK hl hm ER=>
       obtain ⟨p,rfl⟩:∃p,a=some p:=by
        cases a with
        | none=>have:=hn rfl;omega
        | some p=>exact ⟨p,rfl⟩
       refine ⟨p.1,p.2,es.length,cap,rfl,⟨h3,by omega⟩,.dp t _ p.1 _ (fun j=>vs.getD (nN n*t.size+j) undef) (fun j c hj=>?_)⟩
       have EV:=GX (t:=t) (l:=l) h4 hj
       rw [qb] at EV
       have eg:=(zB.1 EV).1
       have Bg:vs[nN n*t.size+j]?=some (vs.getD (nN n*t.size+j) undef):=by
        rw [zA,zD (by rw [←hl];exact eg)];rfl
       refine ⟨?_,ER _ c _ EV Bg⟩
       have:=hm p _ _ rfl Bg
       rw [Nat.add_assoc];exact this
    ·rename_i X z hx
     obtain ⟨h1,hr⟩:=ah hr
     obtain rfl:=beq_eq h1
     obtain ⟨t,l,hr,hX,eY⟩:=eO hr
     obtain ⟨h2,hr⟩:=ah hr
     obtain ⟨h3,hr⟩:=bC hr
     obtain ⟨h4,hr⟩:=bC hr
     have h5:=na h3
     have h4:nN n<l.length:=h4
     have h2:=beq_eq h2
     refine .read _ hr (fun S2 hA=>nq (fun g w u hI hu=>?_)) hd
     have dY:=(hA _ (bK hX (.head _))).1.trans eY
     rw [hx] at hu
     cases hu with
     | sc _ _ ad bO=>
      rcases hI.cells _ _ dY with ⟨_,k2⟩ | ⟨b,tt,k1,_⟩
      ·have:=bj t l
       rw [k2] at this
       have:0<l.length*t.size:=Nat.mul_pos (by omega) (by omega)
       simp at *;omega
      ·rw [k1] at bO;cases bO
     | tw _ _ m b cap tt bO hn nK hp d mY=>
      rcases hI.cells _ _ dY with ⟨k1,_⟩ | ⟨b',E9,k1,_⟩
      ·rw [k1] at bO;cases bO
      have KX:=bO
      rw [k1] at bO
      simp only [zI,zU] at bO
      obtain ⟨rfl,hlen,_⟩:=bO
      rw [bj,h2] at hlen
      have hm:l.length=m:=Nat.eq_of_mul_eq_mul_right (by omega) hlen
      refine ⟨b',d,m,cap,rfl,⟨h3,by omega⟩,?_⟩
      obtain rfl:=mY (by omega)
      have:=V.tp (g:=g) X [.ix (nN n) e.size] b' _ KX ⟨zW _ (by omega),trivial⟩
      rw [show dz [.ix (nN n) e.size]=nN n*e.size from rfl] at this
      rw [Nat.zero_add];exact this
    ·rename_i X z off m hx
     obtain ⟨h1,hr⟩:=ah hr
     obtain rfl:=beq_eq h1
     obtain ⟨h3,hr⟩:=bC hr
     obtain ⟨h4,hr⟩:=bC hr
     have h5:=na h3
     have h4:nN n<m:=h4
     refine .pure hr (fun S2=>nq (fun g w u hI hu=>?_)) hd
     rw [hx] at hu
     cases hu with
     | se _ _ _ _ _ _ hn=>omega
     | ts _ _ _ _ b cap s bO hn nK hs hp d mY=>
      refine ⟨b,d,m,cap,rfl,⟨h3,by omega⟩,?_⟩
      obtain rfl:=mY (by omega)
      have:=V.tp (g:=g) X [.ix (aL off (nN n)) e.size] b _ bO ⟨Nat.le_trans (zW _ (show aL off (nN n)+1≤off+m by unfold aL;omega)) hs,trivial⟩
      rw [show dz [.ix (aL off (nN n)) e.size]=(off+nN n)*e.size from rfl,Nat.add_mul] at this
      exact this
    ·rename_i X z off m hx
     obtain ⟨h1,hr⟩:=ah hr
     obtain rfl:=beq_eq h1
     obtain ⟨h3,hr⟩:=bC hr
     obtain ⟨h4,hr⟩:=bC hr
     have h5:=na h3
     have h4:nN n<m:=h4
     refine .pure hr (fun S2=>nq (fun g w u hI hu=>?_)) hd
     rw [hx] at hu
     cases hu with
     | BJ _ _ _ _ _ _ hn=>omega
     | tf _ _ _ _ b s bO nK hs d mY=>
      refine ⟨b,d,m,m,rfl,⟨h3,by omega⟩,?_⟩
      obtain rfl:=mY (by omega)
      have:=V.tp (g:=g) X [.ix (aL off (nN n)) e.size] b _ bO ⟨Nat.le_trans (zW _ (show aL off (nN n)+1≤off+m by unfold aL;omega)) hs,trivial⟩
      rw [show dz [.ix (aL off (nN n)) e.size]=(off+nN n)*e.size from rfl,Nat.add_mul] at this
      exact this
    ·rename_i X π m z hx
     obtain ⟨h1,hr⟩:=ah hr
     obtain rfl:=beq_eq h1
     obtain ⟨h3,hr⟩:=bC hr
     obtain ⟨h4,hr⟩:=bC hr
     have h5:=na h3
     have h4:nN n<m:=h4
     refine .pure hr (fun S2=>nq (fun g w u hI hu=>?_)) hd
     rw [hx] at hu
     cases hu with
     | aa _ _ _ _ b cap s bO hk hn nK=>
      refine ⟨b,dz π,m,cap,rfl,⟨h3,by omega⟩,?_⟩
      have:=V.tp (g:=g) X (π++[.ai (nN n) m e.size]) b s bO ((lH π [.ai (nN n) m e.size]).2 ⟨hk,show nN n<m∧True from ⟨h4,trivial⟩⟩)
      rw [jZ] at this
      exact this
    ·rename_i q off z m hx
     obtain ⟨h1,hr⟩:=ah hr
     obtain rfl:=beq_eq h1
     obtain ⟨i,k1,k2,k3,k4⟩:=wF _ _ hr
     refine .pure k1 (fun S2=>nq (fun g w u hI hu=>?_)) hd
     rw [hx] at hu
     cases hu with
     | sl _ _ _ _ b cap s bO hn nK hs=>
      refine ⟨b,off,m,cap,rfl,⟨by omega,by omega⟩,?_⟩
      rw [show n.toNat=i by omega]
      exact .ptr _ _ b s bO
    ·cases hr
   ·cases hr
  ·cases hr
 ·cases hr
end
end
section
open Go.RowKit
section
variable {P:Program} {E:Env} {o:Oper} {ρ:Operand→A} {h:H} {β:Type} {K:A→H→Fp→Option β} {r:β}
def Kw (E:Env) (T:Nat) (px:A) (h:H) (K:A→H→Fp→Option β):Option β:=match ct E.dN T with
 | some e=>match px with
  | .ptr q off=>bif Nat.blt q 16777216 then (match h.t.get q with
   | some (.cells cs)=>bif jG e.d then (bif Nat.ble (off+e.size) cs.length then K (.agg ((cs.drop off).take e.size)) h (.rd [du q]) else none) else (match cs[off]? with
    | some c=>BL c (fun v=>K v h (.rd [du q]))
    | none=>none)
   | _=>none) else none
  | .tp X π=>qG h X π (fun s=>bif Nat.beq s.t.size e.size then (bif jG e.d then K (.agg (aA s.t s.x)) h (.rd [iG X]) else (match aA s.t s.x with
   | [c]=>BL c (fun v=>K v h (.rd [iG X]))
   | _=>none)) else none)
  | .dp t x=>bif t.data && Nat.beq t.size e.size then (bif jG e.d then K (.agg (aA t x)) h .no else (match aA t x with
   | [c]=>BL c (fun v=>K v h .no)
   | _=>none)) else none
  | _=>none
 | none=>none
theorem CM (hE:bW P E) {T:Nat} {px:A} (hr:Kw E T px h K=some r):∃v l,K v h (.rd l)=some r∧∀S2,Agree (.rd l) (hp h) S2→∀(o:Oper) (ρ:Operand→A) (x:Operand),o.op = .load T x→ρ x=px→Ey P o ρ S2 v:=by
 have sp:∀{c:A} {l:List Nat},BL c (fun v=>K v h (.rd l))=some r→(∀S2,Agree (.rd l) (hp h) S2→∀(o:Oper) (ρ:Operand→A) (x:Operand),o.op = .load T x→ρ x=px→Ey P o ρ S2 c) →
   ∃v l,K v h (.rd l)=some r∧∀S2,Agree (.rd l) (hp h) S2→∀(o:Oper) (ρ:Operand→A) (x:Operand),o.op = .load T x→ρ x=px→Ey P o ρ S2 v:=fun h1 h2=>by
  obtain ⟨v,k1,k2⟩:=wG h1
  exact ⟨v,_,k1,fun S2 hA o ρ x ho hx g w a hI hv=>let ⟨u,q1,q2⟩:=h2 S2 hA o ρ x ho hx g w a hI hv;⟨u,q1,k2 g u q2⟩⟩
 unfold Kw at hr
 split at hr
 ·rename_i e ht
  have hk:=hE.dN _ _ ht
  split at hr
  ·rename_i q off
   obtain ⟨hq,hr⟩:=ah hr
   have hq:=bb hq
   split at hr
   ·rename_i cs hg
    have eY:(hp h).ob q=some (.cells cs):=by rw [j5 hq];unfold fH;rw [hg];rfl
    cases ha:jG e.d with
    | true=>
     rw [ha] at hr;simp only [cond_true] at hr
     obtain ⟨h1,hr⟩:=ah hr
     exact ⟨_,_,hr,fun S2 hA o ρ x ho hx=>n_ ho hk.u ha hk.ti.size (by rw [hx];rfl) ((hA q (aB hq (.head _))).1.trans eY) (Nat.le_of_ble_eq_true h1)⟩
    | false=>
     rw [ha] at hr;simp only [cond_false] at hr
     split at hr
     ·rename_i c hc
      exact sp hr (fun S2 hA o ρ x ho hx=>vb ho hk.u ha (by rw [hx];rfl) ((hA q (aB hq (.head _))).1.trans eY) hc)
     ·cases hr
   ·cases hr
  ·rename_i X π
   obtain ⟨sg,h1,hX,h2⟩:=sq hr
   obtain ⟨h3,h1⟩:=ah h1
   have h3:=beq_eq h3
   have bq:∀{S2:Hp} {v:A} {o:Oper} {ρ:Operand→A} {x:Operand},o.op = .load T x→ρ x = .tp X π→Agree (.rd [iG X]) (hp h) S2→(∀a c,S2.ob X.id=some (.cells (a++(aA sg.t sg.x++c)))→a.length=dz π→Ey P o ρ S2 v)→Ey P o ρ S2 v:=fun {S2 v o ρ x} ho hx hA k=>.bq fun g w a hI hv=>by
    have ES:=hv x (by simp [ho,Op.operands])
    rw [hx] at ES
    have ha:=hA _ (bK hX (.head _))
    obtain ⟨a,c,q1,q2⟩:=h2 g _ w _ hI ha.1 ha.2 ES
    exact k a c q1 q2
   have vA:∀{ρ:Operand→A} {x:Operand},ρ x = .tp X π→Pl (ρ x)=some (X.id,dz π):=fun hx=>by rw [hx];rfl
   cases ha:jG e.d with
   | true=>
    rw [ha] at h1;simp only [cond_true] at h1
    refine ⟨_,_,h1,fun S2 hA o ρ x ho hx=>bq ho hx hA fun a c q1 q2=>?_⟩
    have:=n_ (P:=P) ho hk.u ha hk.ti.size (vA hx) q1 (by simp only [zY,bN];omega)
    rwa [←q2,List.drop_left,←h3,←bN sg.t sg.x,List.take_left] at this
   | false=>
    rw [ha] at h1;simp only [cond_false] at h1
    split at h1
    ·rename_i c0 EW
     refine sp h1 (fun S2 hA o ρ x ho hx=>bq ho hx hA fun a c q1 q2=>?_)
     refine vb ho hk.u ha (vA hx) q1 ?_
     rw [←q2,zJ (Nat.le_refl _),Nat.sub_self,EW];rfl
    ·cases h1
  ·rename_i t y
   obtain ⟨h1,hr⟩:=ah hr
   simp only [zC] at h1
   have h3:=beq_eq h1.2
   cases ha:jG e.d with
   | true=>
    rw [ha] at hr;simp only [cond_true] at hr
    exact ⟨_,[],hr,fun S2 _ o ρ x ho hx=>pD ho hk.u (by rw [h3];exact hk.ti.size) hx h1.1 (by rw [ha,if_pos rfl])⟩
   | false=>
    rw [ha] at hr;simp only [cond_false] at hr
    split at hr
    ·rename_i c0 EW
     exact sp (l:=[]) hr (fun S2 _ o ρ x ho hx=>pD ho hk.u (by rw [h3];exact hk.ti.size) hx h1.1 (by rw [ha,if_neg (by simp)];exact EW))
    ·cases hr
  ·cases hr
 ·cases hr
theorem Kv (hE:bW P E) {T:Nat} {x:Operand} (ho:o.op = .load T x) (hr:Kw E T (ρ x) h K=some r):Out P o ρ h K r:=by
 have hd:∀c,o.op≠.defer c:=by rw [ho];intro c e;cases e
 obtain ⟨v,l,k1,k2⟩:=CM hE hr
 exact .read _ k1 (fun S2 hA=>.value (k2 S2 hA o ρ x ho rfl)) hd
def sa (P:Program) (o:Oper) (S S':Hp) (pv:A) (g:G) (w:World) (a:Act):Prop:=
 ∀(next:Act→World→Prop) (Q:Exit→Act→World→Prop),(∀v g' w',V g' pv v→Inv g' S' w'→Ext S g w S' g' w'→next (a.put o.dst v) w')→o.wp P a w next Q
theorem sa.pre {S S1 S':Hp} {pv:A} {g g1:G} {w:World} {a:Act} (k:sa P o S1 S' pv g1 w a) (e:Ext S g w S1 g1 w):sa P o S S' pv g w a:=fun next Q K=>k next Q (fun v g' w' h1 h2 h3=>K v g' w' h1 h2 (e.trans h3))
theorem BK {S:Hp} {T:TypeId} {x y:Operand} {p off n:Nat} {cs ps:List A} {g:G} {w:World} {a:Act} (ho:o.op = .store T x y) (hs:eL P T n) (hI:Inv g S w) (hx:∃b s,g.bq p=some (some b,s)∧a.eval x = .pointer (some ⟨b,off,none⟩)) (hy:Vs g ps (a.eval y).cells.toList) (hl:ps.length=n)
  (hp:S.ob p=some (.cells cs)) (hn:off+n≤cs.length):sa P o S (S.set p (.cells (put cs off ps))) .cF g w a:=by
 intro next Q K
 obtain ⟨b,s,h,hu⟩:=hx
 obtain ⟨cur,ty,k2,oO,h3,h4⟩:=hI.store (off:=off) hp h hy (by omega)
 unfold Oper.wp
 have oP:(a.eval y).cells.size=n:=by have:=hy.1;simp at this;omega
 have pQ:=run_storeCells_at P b off ty (a.eval y).cells.toList 0 cur w k2 (by simpa using oO) hy.one
 simp only [execOp,ho,hu,Instr.storeAt,Instr.sureAddr,pure_bind,storeVar,Sem.run_bind,hs.run w,Result.andThen_ok,oP,ne_eq,not_true_eq_false,if_false]
 simp only [Nat.add_zero] at pQ
 simp only [pQ,Result.andThen_ok,Sem.run_pure]
 exact K _ g _ (.cF _) h3 h4
theorem FK {T:Fp} {us:List Up} {S' S2:Hp} (hT:∀u∈us,aI T u.id=true):iU T S' (app us S2)=iU T S' S2:=by
 refine Hp.ext' (fun i=>?_) (fun i=>?_)
 ·show (if aI T i=true then _ else _)=(if aI T i=true then _ else _)
  split
  ·rfl
  ·rename_i hi;exact (dB us S2 i (fun u hu e=>hi (e▸hT u hu))).1
 ·show (if aI T i=true then _ else _)↔(if aI T i=true then _ else _)
  split
  ·exact Iff.rfl
  ·rename_i hi;exact (dB us S2 i (fun u hu e=>hi (e▸hT u hu))).2
def VI (E:Env) (T:Nat) (px py:A) (h:H) (K:A→H→Fp→Option β):Option β:=match ct E.dN T,py.cells with
 | some e,some ps=>match px with
  | .ptr q off=>bif Nat.blt q 16777216 then (match h.t.get q with
   | some (.cells cs)=>bif Nat.beq ps.length e.size && Nat.ble (off+e.size) cs.length && !(vr h (du q)) then ff h.t q (some (.cells (put cs off ps))) (fun t1=>K .cF { h with t:=t1 } (.wr [du q])) else none
   | _=>none) else none
  | .tp X π=>match plT h X π with
   | some u=>bif Nat.beq u.size e.size then (K6 u ps h (fun tg h1 T1=>match oN u tg with
     | some y=>pM h1 X π u y (fun h2=>K .cF h2 (.wr (iG X::T1)))
     | none=>none)) else none
   | none=>none
  | _=>none
 | _,_=>none
theorem oU {T U:List Nat} {w:Bool} {s:List Nat} {i:Nat} (hU:∀j∈U,j∈T) (k:aI ⟨false,T,w,s⟩ i=false):aI ⟨false,U,w,s⟩ i=false:=by
 cases hx:aI ⟨false,U,w,s⟩ i with
 | false=>rfl
 | true=>rw [eZ hU hx] at k;cases k
theorem JR (hE:bW P E) {T:Nat} {x y:Operand} (ho:o.op = .store T x y) (hr:VI E T (ρ x) (ρ y) h K=some r):Out P o ρ h K r:=by
 have hd:∀c,o.op≠.defer c:=by rw [ho];intro c e;cases e
 unfold VI at hr
 split at hr
 ·rename_i e ps ht rS
  have hk:=hE.dN _ _ ht
  split at hr
  ·rename_i q off hx
   obtain ⟨hq,hr⟩:=ah hr
   have hq:=bb hq
   split at hr
   ·rename_i cs hg
    have eY:(hp h).ob q=some (.cells cs):=by rw [j5 hq];unfold fH;rw [hg];rfl
    obtain ⟨h1,hr⟩:=ah hr
    simp only [zC] at h1
    obtain ⟨_,t1,k1,k2⟩:=bu hr
    exact ⟨_,_,_,k1,.of [.set q (.cells (put cs off ps))] (o_ (x:=.cells (put cs off ps)) hq k2) rfl (fun u hu=>by rcases zF.1 hu with rfl;exact aB (o:=q) hq (.head _))
     (fun S2 hA=>z7 ho hk.ti.size (by rw [hx];rfl) rS (beq_eq h1.1.1) ((hA q (aB hq (.head _))).1.trans eY) (Nat.le_of_ble_eq_true h1.1.2)) hd⟩
   ·cases hr
  ·rename_i X π hx
   split at hr
   ·rename_i u hu
    obtain ⟨KG,hr⟩:=ah hr
    obtain ⟨tg,h1,T1,hr,us,c1,c2,c3⟩:=G0 hr
    split at hr
    ·rename_i y' hy
     obtain ⟨h2,k1,hX,k2,k3⟩:=Fk hr
     have Bh:∀u∈us,aI (Fp.wr (iG X::T1)) u.id=true:=fun u hu=>eZ (fun i hi=>.tail _ hi) (c2 u hu)
     have out:∀i,aI (Fp.wr (iG X::T1)) i=false→(hp h2).ob i=(hp h).ob i∧((hp h2).fr i↔(hp h).fr i):=fun i hi=>by
      have e1:=k2 i (oU (T:=iG X::T1) (fun j hj=>by rcases zF.1 hj with rfl;exact .head _) hi)
      have e2:=dB us (hp h) i (fun u hu e=>by have:=Bh u hu;rw [←e] at this;rw [show aI (Fp.wr (iG X::T1)) i=false from hi] at this;cases this)
      rw [←c1] at e2
      exact ⟨e1.1.trans e2.1,e1.2.trans e2.2⟩
     refine ⟨_,_,_,k1,⟨out,fun i hi=>out i (sb hi),fun S2 hA=>?_⟩⟩
     ·refine eX.I6 (fun g w a next Q hI hv K'=>?_) hd
      have uB:=hv x (by simp [ho,Op.operands])
      have Wf:=(hv y (by simp [ho,Op.operands])).cells rS
      obtain ⟨g1,q1,q2,q3⟩:=c3 g S2 w _ hI (hA.mono fun i hi=>.tail _ hi) Wf
      obtain ⟨z1,z2⟩:=jg (g:=g1) u tg y' hy
      have GO:Agree (Fp.wr (iG X::T1)) (hp h1) (app us S2):=by rw [c1];exact Agree.app us hA
      rw [hx] at uB
      have QF:=uB.mono q2.le
      obtain ⟨cs,w1,w2,w3⟩:=k3 (iG X::T1) (.head _) g1 _ w _ q1 GO QF
      have vA:∃b s,g1.bq X.id=some (some b,s)∧a.eval x = .pointer (some ⟨b,dz π,none⟩):=QF.pl rfl
      have oP:=beq_eq KG
      have st:=BK (P:=P) ho hk.ti.size q1 vA (z2 _ q3) (by rw [bN,oP]) w1 (by rw [←oP];exact w2)
      rw [←w3,FK Bh] at st
      exact (st.pre q2) next Q K'
    ·cases hr
   ·cases hr
  ·cases hr
 ·cases hr
def mX (x:gy) (h:H) (k:Nat→H→Option β):Option β:=ff h.t h.aR (some x) (fun t1=>k h.aR { h with t:=t1,aR:=h.aR+1 })
theorem fP {x:gy} {k:Nat→H→Option β} (hr:mX x h k=some r):∃h',k h.aR h'=some r∧h.aR<16777216∧(hp h).fr h.aR∧hp h'=app [.new h.aR x.low] (hp h):=by
 obtain ⟨hq,t1,k1,k2⟩:=bu hr
 have hq:h.aR<16777216:=Ar hq
 refine ⟨_,k1,hq,?_,Da hq k2⟩
 have e:(if h.aR<cG then h.aR≤h.aR else fV h.rg h.aR)=(h.aR≤h.aR):=if_pos hq
 show (if h.aR<cG then h.aR≤h.aR else fV h.rg h.aR)
 rw [e];exact Nat.le_refl _
theorem nv {S:Hp} {T:TypeId} {i:TypeInfo} {z:Value} {q:Nat} {zs:List A} (ho:o.op = .alloc T) (hi:P.info? T=some i) (hz:i.zero=some z) (QD:Zs zs z) (hf:S.fr q) :
  eX P o ρ S (S.new q (.cells zs)) (.ptr q 0):=by
 intro g w a next Q hI hv K
 have hzs:=QD g
 obtain ⟨h1,h2⟩:=hI.lG hf (cs:=zs) (vs:=z.cells) T (by have:=hzs.1;simp at this ⊢;omega) hzs.all
 unfold Oper.wp
 simp only [execOp,ho,Instr.alloc,Sem.run_bind,zeroValue,typeInfo,run_program,Result.andThen_ok,hi,hz,Sem.run_pure,newVar,newRow,run_newObj]
 exact K _ _ _ (.ptr _ _ w.heap.size _ cl) h1 h2
theorem V.Cd {g:G} {q:Nat} {v:Value} (hv:V g (.ptr q 0) v):V g (.tp (.loc q) []) v:=by
 cases hv with
 | ptr _ _ b s hb=>exact .tp (.loc q) [] b s hb trivial
def LM (E:Env) (T:Nat) (h:H) (K:A→H→Fp→Option β):Option β:=match ct E.dN T with
 | some e=>bif e.lt then (match e.t with
  | some t=>mX (.one t t.cK) h (fun q h'=>K (.tp (.loc q) []) h' (.wr [du q]))
  | none=>none) else mX (.cells (jP e.zero)) h (fun q h'=>K (.ptr q 0) h' (.wr [du q]))
 | none=>none
theorem Hs (hE:bW P E) {T:Nat} (ho:o.op = .alloc T) (hr:LM E T h K=some r):Out P o ρ h K r:=by
 have hd:∀c,o.op≠.defer c:=by rw [ho];intro c e;cases e
 unfold LM at hr
 split at hr
 ·rename_i e ht
  have hk:=hE.dN _ _ ht
  obtain ⟨i,t1,t2,t3,t4,t5,t6⟩:=hk.ti
  cases hl:e.lt with
  | true=>
   rw [hl] at hr;simp only [cond_true] at hr
   split at hr
   ·rename_i t wx
    obtain ⟨h',k1,hq,hf,hh⟩:=fP hr
    refine ⟨_,_,_,k1,Step.Bw (.of _ hh rfl (fun u hu=>by rcases zF.1 hu with rfl;exact aB (o:=h.aR) hq (.head _)) (fun S2 hA=>nv ho t1 t2 (hk.tz t wx) ((hA _ (aB hq (.head _))).2.2 hf)) hd) (fun g v hv=>hv.Cd)⟩
   ·cases hr
  | false=>
   rw [hl] at hr;simp only [cond_false] at hr
   obtain ⟨h',k1,hq,hf,hh⟩:=fP hr
   exact ⟨_,_,_,k1,.of _ hh rfl (fun u hu=>by rcases zF.1 hu with rfl;exact aB (o:=h.aR) hq (.head _)) (fun S2 hA=>nv ho t1 t2 (Br t6) ((hA _ (aB hq (.head _))).2.2 hf)) hd⟩
 ·cases hr
theorem vg {S:Hp} {T:TypeId} {x:Operand} {ps qs:List A} {q:Nat} (ho:o.op = .box T x) (hx:(ρ x).cells=some ps) (hq:∀g vs,Vs g ps vs→Vs g qs vs) (hf:S.fr q):eX P o ρ S (S.new q (.cells qs)) (.ptr q 0):=by
 intro g w a next Q hI hv K
 have e2:=hq _ _ ((hv x (by simp [ho,Op.operands])).cells hx)
 obtain ⟨h1,h2⟩:=hI.lG hf (cs:=qs) (vs:=(a.eval x).cells) T (by have:=e2.1;simp at this ⊢;omega) e2.all
 unfold Oper.wp
 simp only [execOp,ho,Instr.box,Sem.run_bind,Result.andThen_ok,Sem.run_pure,newVar,newRow,run_newObj]
 exact K _ _ _ (.ptr _ _ w.heap.size _ cl) h1 h2
def Ec (E:Env) (T:Nat) (px:A) (h:H) (K:A→H→Fp→Option β):Option β:=match ct E.dN T,px.cells with
 | some e,some ps=>bif e.lt then (match e.t with
  | some t=>match oN t ps with
   | some x=>mX (.one t x) h (fun q h'=>K (.tp (.loc q) []) h' (.wr [du q]))
   | none=>none
  | none=>none) else mX (.cells ps) h (fun q h'=>K (.ptr q 0) h' (.wr [du q]))
 | _,_=>none
theorem Eb {T:Nat} {x:Operand} (ho:o.op = .box T x) (hr:Ec E T (ρ x) h K=some r):Out P o ρ h K r:=by
 have hd:∀c,o.op≠.defer c:=by rw [ho];intro c e;cases e
 unfold Ec at hr
 split at hr
 ·rename_i e ps ht rS
  cases hl:e.lt with
  | true=>
   rw [hl] at hr;simp only [cond_true] at hr
   split at hr
   ·rename_i t wx
    split at hr
    ·rename_i y hy
     obtain ⟨h',k1,hq,hf,hh⟩:=fP hr
     exact ⟨_,_,_,k1,Step.Bw (.of _ hh rfl (fun u hu=>by rcases zF.1 hu with rfl;exact aB (o:=h.aR) hq (.head _)) (fun S2 hA=>vg ho rS (fun g vs hv=>(jg t ps y hy).2 vs hv) ((hA _ (aB hq (.head _))).2.2 hf)) hd) (fun g v hv=>hv.Cd)⟩
    ·cases hr
   ·cases hr
  | false=>
   rw [hl] at hr;simp only [cond_false] at hr
   obtain ⟨h',k1,hq,hf,hh⟩:=fP hr
   exact ⟨_,_,_,k1,.of _ hh rfl (fun u hu=>by rcases zF.1 hu with rfl;exact aB (o:=h.aR) hq (.head _)) (fun S2 hA=>vg ho rS (fun g vs hv=>hv) ((hA _ (aB hq (.head _))).2.2 hf)) hd⟩
 ·cases hr
end
end
section
open Go.RowKit
section
variable {P:Program} {E:Env} {o:Oper} {ρ:Operand→A} {h:H} {β:Type} {K:A→H→Fp→Option β} {r:β}
def LI (E:Env) (T:Nat) (ρ:Operand→A) (ps:List (Nat×Operand)) (h:H) (K:A→H→Fp→Option β):Option β:=match ct E.dN T with
 | some e=>match e.d with
  | .struct _=>match q8 ρ (fun i=>e.pl.toArray[i]?) (jP e.zero) ps with
   | some cs=>K (.agg cs) h .no
   | none=>none
  | .array _ el=>match ct E.dN el with
   | some e'=>match q8 ρ (fun i=>some (i*e'.size,e'.size)) (jP e.zero) ps with
    | some cs=>K (.agg cs) h .no
    | none=>none
   | none=>none
  | _=>none
 | none=>none
theorem Hk (hE:bW P E) {T:Nat} {ps:Array (Nat×Operand)} (ho:o.op = .build T ps) (hr:LI E T ρ ps.toList h K=some r):Out P o ρ h K r:=by
 have hd:∀c,o.op≠.defer c:=by rw [ho];intro c e;cases e
 unfold LI at hr
 split at hr
 ·rename_i e ht
  have hk:=hE.dN _ _ ht
  split at hr
  ·rename_i fs Bk
   split at hr
   ·rename_i cs hf
    obtain ⟨i,t1,t2,t3,t4,t5,t6⟩:=hk.ti
    exact .pure hr (fun S2=>Af ho (by rw [hk.u,Bk]) t1 t2 t6 (hk.pl fs Bk) hf) hd
   ·cases hr
  ·rename_i n el Bk
   split at hr
   ·rename_i e' WZ
    split at hr
    ·rename_i cs hf
     exact .pure hr (fun S2=>rN ho (by rw [hk.u,Bk]) hk.ti (hE.dN _ _ WZ).ti.size hf) hd
    ·cases hr
   ·cases hr
  ·cases hr
 ·cases hr
def DH (f:List A→H→Option (List A×H×List Nat)) (z:Nat):Nat→List A→H→Option (List A×H×List Nat)
 | 0,cs,h=>some (cs,h,[])
 | n+1,cs,h=>match f (cs.take z) h with
  | some (yT,h1,T1)=>match DH f z n (cs.drop z) h1 with
   | some (JB,h2,T2)=>some (yT++JB,h2,T1++T2)
   | none=>none
  | none=>none
theorem yG {f:List A→H→Option (List A×H×List Nat)} (hf:∀cs h hZ h' T,f cs h=some (hZ,h',T)→Cv h h' T cs hZ) {z:Nat}:∀(n:Nat) (cs:List A) (h:H) (hZ:List A) (h':H) (T:List Nat),DH f z n cs h=some (hZ,h',T)→Cv h h' T cs hZ
 | 0,cs,h,hZ,h',T,e=>by
  simp only [DH,zI,zU] at e
  obtain ⟨rfl,rfl,rfl⟩:=e
  exact Cv.refl h [] _
 | n+1,cs,h,hZ,h',T,e=>by
  simp only [DH] at e
  split at e
  ·rename_i yT h1 T1 e1
   split at e
   ·rename_i JB h2 T2 e2
    simp only [zI,zU] at e
    obtain ⟨rfl,rfl,rfl⟩:=e
    have:=(hf _ _ _ _ _ e1).append (yG hf n _ _ _ _ _ e2)
    rwa [zP] at this
   ·cases e
  ·cases e
theorem ng {pv:A} {S:Hp} {T El:TypeId} {n z:Nat} {parts:Array (Nat×Operand)} {ie:TypeInfo} {zv:Value} {es cs:List A} {q:Nat} {g g0:G} {w:World} {a:Act} (ho:o.op = .buildSlice T n parts) (hT:P.underlying T=some (.slice El)) (hE:P.info? El=some ie) (hz:ie.zero=some zv)
  (hs:ie.size=z) (h0:0<z) (hn:n*z≤16777216) (qb:DU ρ z parts.toList 0=some es) (hl:parts.toList.length=n) (hI:Inv g S w) (hv:∀x∈o.op.operands,V g0 (ρ x) (a.eval x)) (hf:S.fr q) (e5:Vs g cs ((parts.toList.map fun x=>a.eval x.2).flatMap (fun v=>v.cells.toList)))
  (qO:∀g' b,g'.bq q=some (some b,(n*z,n*z))→n≤maxLen→V g' pv (.slice (some ⟨b,0,none⟩) n n)):sa P o S (S.new q (.cells cs)) pv g w a:=by
 intro next Q K
 subst hs
 obtain ⟨e2,e1,e3,e4⟩:=qd (z:=ie.size) (a:=a) (g:=g0) parts.toList 0 es (fun x hx=>hv x.2 (by
  simp only [ho,Op.operands]
  rw [List.mem_toArray]
  exact List.mem_map.2 ⟨x,hx,rfl⟩)) qb
 have KG:((Array.range (n*ie.size)).map (zv.cells[· % zv.cells.size]!)).size=n*ie.size:=by simp
 have QY:=Go.Great.fill_whole h0 (parts.toList.map fun x=>a.eval x.2) ((Array.range (n*ie.size)).map (zv.cells[· % zv.cells.size]!)) e3 (by simp only [zH];rw [KG,hl])
 have qR:(parts.map fun (i,x)=>(i,a.eval x)).toList=((parts.toList.map fun x=>a.eval x.2).zipIdx 0).map (fun x=>(x.2,x.1)):=by rw [←e2];simp
 generalize Bg:(parts.toList.map fun x=>a.eval x.2).flatMap (fun v=>v.cells.toList)=vs at *
 have Wi:vs.length=n*ie.size:=by rw [←e4.1,e1,hl]
 obtain ⟨h1,h2⟩:=hI.lG hf (cs:=cs) (vs:=vs.toArray) El (by have:=e5.1;simp;omega) (Vs.all (vs:=vs.toArray) e5)
 have Us:n≤n*ie.size:=Nat.le_mul_of_pos_right _ h0
 have h8:cs.length=n*ie.size:=by rw [e5.1,Wi]
 have h9:vs.toArray.size=n*ie.size:=by simp [Wi]
 have qO:=qO (jE g q (some w.heap.size,(cs.length,vs.toArray.size))) w.heap.size (by rw [cl,h8,h9]) (by simp only [maxLen];omega)
 unfold Oper.wp
 by_cases Mc:n=0
 ·subst Mc
  have hpe:parts.toList=[]:=zZ hl
  have Wg:vs=[]:=zZ (by rw [Wi];simp)
  have hp3:parts = #[]:=by apply Array.ext';simp [hpe]
  have eQ:(execOp a.eval o).run P w = .ok (.value (.slice (some ⟨w.heap.size,0,none⟩) 0 0)) (w.alloc (.cells #[] El)):=by
   simp [execOp,ho,hp3,Instr.buildSlice,run_underlying hT,sizeOf,typeInfo,hE,Instr.fill,newRow,Array.range_zero']
  rw [eQ]
  subst Wg
  exact K (.slice (some ⟨w.heap.size,0,none⟩) 0 0) _ _ qO h1 h2
 ·have Wu:¬n*ie.size=0:=by
   intro h;rcases Nat.mul_eq_zero.1 h with h | h<;>omega
  have eQ:(execOp a.eval o).run P w = .ok (.value (.slice (some ⟨w.heap.size,0,none⟩) n n)) (w.alloc (.cells vs.toArray El)):=by
   have:=run_buildSlice (P:=P) w T El n (parts.map fun (i,x)=>(i,a.eval x)) vs.toArray ie zv hT hE hz (by omega) Wu (by rw [qR];exact QY)
   simp only [execOp,ho,Sem.run_bind,this,Result.andThen_ok,Sem.run_pure]
  rw [eQ]
  exact K _ _ _ qO h1 h2
def LD (E:Env) (T n:Nat) (ρ:Operand→A) (ps:List (Nat×Operand)) (h:H) (K:A→H→Fp→Option β):Option β:=match ct E.dN T with
 | some ⟨.slice el,_,_,_,_,_,_⟩=>match ct E.dN el with
  | some e=>bif Nat.blt 0 e.size && Nat.ble (n*e.size) 16777216 && Nat.beq ps.length n then (match DU ρ e.size ps 0,e.t with
   | some es,some t=>match DH (fixC 64 t) t.size n es h with
    | some (nL,h1,T1)=>match sh (oN t) t.size n nL with
     | some l=>mX (.row t l) h1 (fun q h2=>K (.tw (.loc q) e.size) h2 (.wr (du q::T1)))
     | none=>none
    | none=>none
   | some es,none=>mX (.cells es) h (fun q h2=>K (.sl q 0 e.size n) h2 (.wr [du q]))
   | _,_=>none) else none
  | none=>none
 | _=>none
theorem Step.new {T1:List Nat} {h1 h2:H} {us:List Up} {x:Ob} {pv:A} (c1:hp h1=app us (hp h)) (c2:∀u∈us,aI (.wr T1) u.id=true) (hq:h1.aR<16777216) (hf:(hp h1).fr h1.aR) (hh:hp h2=app [.new h1.aR x] (hp h1)) (hd:∀c,o.op≠.defer c)
  (k:∀S2 g w a,Agree (.wr T1) (hp h) S2→(app us S2).fr h1.aR→Inv g S2 w→(∀x∈o.op.operands,V g (ρ x) (a.eval x))→sa P o S2 ((app us S2).new h1.aR x) pv g w a):Step P o ρ h h2 (.wr (du h1.aR::T1)) pv:=
 .of (us++[.new h1.aR x]) (by rw [iy,←c1,hh]) rfl (fun u hu=>by
  rcases zX.1 hu with hu | hu
  ·exact eZ (fun i hi=>.tail _ hi) (c2 u hu)
  ·rcases zF.1 hu with rfl;exact aB (o:=h1.aR) hq (.head _)) (fun S2 hA g w a next Q hI hv K'=>by
  have nB:(app us S2).fr h1.aR:=by
   have:=Agree.app us hA
   rw [←c1] at this
   exact (this h1.aR (aB hq (.head _))).2.2 hf
  have e:=iy us [.new h1.aR x] S2
  rw [e] at K'
  exact k S2 g w a (hA.mono fun i hi=>.tail _ hi) nB hI hv next Q K') hd
theorem Hh (hE:bW P E) {T n:Nat} {ps:Array (Nat×Operand)} (ho:o.op = .buildSlice T n ps) (hr:LD E T n ρ ps.toList h K=some r):Out P o ρ h K r:=by
  have hd:∀c,o.op≠.defer c:=by rw [ho];intro c e;cases e
  unfold LD at hr
  split at hr
  · rename_i el _ _ _ _ _ _ ht
    split at hr
    · rename_i e he
      obtain ⟨hc,hr⟩:=ah hr
      simp only [zC] at hc
      have h0:=bb hc.1.1
      have hn:=Nat.le_of_ble_eq_true hc.1.2
      have hl:=beq_eq hc.2
      obtain ⟨i,t1,t2,t3,t4,t5,t6⟩:=(hE.dN _ _ he).ti
      split at hr
      · rename_i es t qb wx
        split at hr
        · rename_i nL h1 T1 hf
          split at hr
          · rename_i l hy
            obtain ⟨us,c1,c2,c3⟩:=yG (fun cs h hZ h' T e=>oz _ _ _ _ _ _ _ e) _ _ _ _ _ _ hf
            obtain ⟨h2,k1,hq,nB,hh⟩:=fP hr
            refine ⟨_,_,_,k1,.new c1 c2 hq nB hh hd (fun S2 g w a hA hf hI hv=>?_)⟩
            obtain ⟨e2,e1,e3,e4⟩:=qd (z:=e.size) (a:=a) (g:=g) ps.toList 0 es (fun x hx=>hv x.2 (by
              simp only [ho,Op.operands]
              rw [List.mem_toArray]
              exact List.mem_map.2 ⟨x,hx,rfl⟩)) qb
            obtain ⟨g1,q1,q2,q3⟩:=c3 g S2 w _ hI hA e4
            obtain ⟨z1,z2,z3⟩:=nT (g:=g1) (fun cs x h=>jg t cs x h) _ _ _ hy
            refine sa.pre ?_ q2
            refine ng (g0:=g) ho (hE.dN _ _ ht).u t1 t2 t3 h0 hn qb hl q1 hv hf ?_ (fun g' b hb hx=>.tw (.loc h1.aR) e.size n b n _ hb (Nat.le_refl _) hx (Nat.le_refl _) 0 (fun _=>rfl))
            exact z3 _ q3
          · cases hr
        · cases hr
      · rename_i es qb wx
        obtain ⟨h2,k1,hq,nB,hh⟩:=fP hr
        refine ⟨_,_,_,k1,.of _ hh rfl (fun u hu=>by rcases zF.1 hu with rfl;exact aB (o:=h.aR) hq (.head _)) (fun S2 hA g w a next Q hI hv K'=>?_) hd⟩
        obtain ⟨e2,e1,e3,e4⟩:=qd (z:=e.size) (a:=a) (g:=g) ps.toList 0 es (fun x hx=>hv x.2 (by
              simp only [ho,Op.operands]
              rw [List.mem_toArray]
              exact List.mem_map.2 ⟨x,hx,rfl⟩)) qb
        exact ng (g0:=g) ho (hE.dN _ _ ht).u t1 t2 t3 h0 hn qb hl hI hv ((hA _ (aB hq (.head _))).2.2 nB) e4 (fun g' b hb hx=>.sl h.aR 0 e.size n b n _ hb (Nat.le_refl _) hx (by omega)) next Q K'
      · cases hr
    · cases hr
  · cases hr
end
end
section
open Go.RowKit
section
variable {P:Program} {E:Env} {o:Oper} {ρ:Operand→A} {h:H} {β:Type} {K:A→H→Fp→Option β} {r:β}
theorem V.ql {g:G} {S:Hp} {w:World} (hI:Inv g S w) {X:Ref} {t:Ty} {l:List t.T} (h0:0<t.size) (ho:S.ob X.id=some (.cells (l.flatMap (aA t)))) {v:Value} (hv:V g (.tw X t.size) v) :
  (∃ad,g.bq X.id=some (none,(0,0))∧v = .slice ad 0 0∧l=[])∨∃b s cap d,g.bq X.id=some (some b,s)∧v = .slice (some ⟨b,d,none⟩) l.length cap∧(cap≠0→d=0)∧l.length≤cap∧cap≤maxLen∧cap*t.size≤s.2:=by
 have hlen:=bj t l
 cases hv with
 | sc _ _ ad bO=>
  rcases hI.cells _ _ ho with ⟨_,k2⟩ | ⟨b,tt,k1,_⟩
  ·refine .inl ⟨ad,bO,rfl,zZ ?_⟩
   rw [k2] at hlen
   rcases Nat.eq_zero_or_pos l.length with h | h
   ·exact h
   ·have:0<l.length*t.size:=Nat.mul_pos h h0
    simp at hlen;omega
  ·rw [k1] at bO;cases bO
 | tw _ _ m b cap tt bO hn nK hp d mY=>
  rcases hI.cells _ _ ho with ⟨k1,_⟩ | ⟨b',E9,k1,_⟩
  ·rw [k1] at bO;cases bO
  have KX:=bO
  rw [k1] at bO
  simp only [zI,zU] at bO
  obtain ⟨rfl,hl,rfl⟩:=bO
  rw [hlen] at hl
  have hm:l.length=m:=Nat.eq_of_mul_eq_mul_right h0 hl
  subst hm
  exact .inr ⟨b',_,cap,d,KX,rfl,mY,hn,nK,hp⟩
def Qu (h:H) (px:A) (k:Nat→List Nat→Option β):Option β:=match px with
 | .e0=>k 0 []
 | .v (.slice _ n _)=>k n []
 | .tl _ _ l=>k (len l) []
 | .tw X z=>jk h X (fun t l=>bif Nat.beq z t.size && Nat.blt 0 t.size then k (len l) [iG X] else none)
 | .ts _ _ _ n=>k n []
 | .tf _ _ _ n=>k n []
 | .aa _ _ n _=>k n []
 | .sl _ _ _ n=>k n []
 | _=>none
theorem V.Oj {g:G} {t:Ty} {f:Bool} {l:List t.T} {v:Value} (hv:V g (.tl t f l) v):∃ad c,v = .slice ad l.length c:=by
 cases hv with
 | tl _ _ _ _ hd=>
  generalize qb:List.map (cZ t) l=es at hd
  have pa:es.length=l.length:=by rw [←qb,zH]
  cases hd with
  | sV=>rw [←pa];exact ⟨_,_,rfl⟩
  | sl _ _ _ a cap vs=>rw [←pa];exact ⟨_,_,rfl⟩
theorem Gk {px:A} {k:Nat→List Nat→Option β} (hr:Qu h px k=some r):∃n T,k n T=some r∧∀S2,Agree (.rd T) (hp h) S2→∀g w v,Inv g S2 w→V g px v→∃ad c,v = .slice ad n c:=by
 cases px with
 | e0=>exact ⟨0,[],hr,fun S2 _ g w v _ hv=>by cases hv with | e0 ad=>exact ⟨ad,0,rfl⟩⟩
 | v x=>cases x with
  | slice ad n c=>exact ⟨n,[],hr,fun S2 _ g w v _ hv=>by cases hv;exact ⟨_,_,rfl⟩⟩
  | _=>cases hr
 | tl t f l=>exact ⟨len l,[],hr,fun S2 _ g w v _ hv=>hv.Oj⟩
 | tw X z=>
  obtain ⟨t,l,hr,hX,eY⟩:=eO (show jk h X _=some r from hr)
  obtain ⟨h1,hk⟩:=ah hr
  simp only [zC] at h1
  obtain rfl:=beq_eq h1.1
  exact ⟨_,_,hk,fun S2 hA g w v hI hv=>by
   rcases hv.ql hI (bb h1.2) ((hA _ (bK hX (.head _))).1.trans eY) with ⟨ad,_,rfl,rfl⟩ | ⟨b,s,cap,d,_,rfl,_⟩
   ·exact ⟨ad,0,rfl⟩
   ·exact ⟨_,cap,rfl⟩⟩
 | ts X z off n=>exact ⟨n,[],hr,fun S2 _ g w v _ hv=>by
   cases hv with
   | se _ _ _ _ ad _ hn=>exact ⟨ad,0,by rw [show n=0 by omega]⟩
   | ts=>exact ⟨_,_,rfl⟩⟩
 | tf X z off n=>exact ⟨n,[],hr,fun S2 _ g w v _ hv=>by
   cases hv with
   | BJ _ _ _ _ ad _ hn=>exact ⟨ad,0,by rw [show n=0 by omega]⟩
   | tf=>exact ⟨_,_,rfl⟩⟩
 | aa X π n z=>exact ⟨n,[],hr,fun S2 _ g w v _ hv=>by cases hv;exact ⟨_,_,rfl⟩⟩
 | sl q off z n=>exact ⟨n,[],hr,fun S2 _ g w v _ hv=>by cases hv;exact ⟨_,_,rfl⟩⟩
 | _=>cases hr
def w5 (E:Env) (T:Nat):Option Nat:=match ct E.dN T with
 | some ⟨.slice el,_,_,_,_,_,_⟩=>some el
 | _=>none
theorem og (hE:bW P E) {T el:Nat} (h:w5 E T=some el):P.underlying T=some (.slice el):=by
 unfold w5 at h
 split at h
 ·rename_i ht;cases h;exact (hE.dN _ _ ht).u
 ·cases h
def Ku (E:Env) (T:Nat) (px:A) (h:H) (K:A→H→Fp→Option β):Option β:=match w5 E T with
 | some _=>Qu h px (fun n T=>K (.v (.int .i64 (zN n))) h (.rd T))
 | none=>none
theorem Gj (hE:bW P E) {T:Nat} {x:Operand} (ho:o.op = .call { callee:=.builtin .len,args:=#[x],argTypes:=#[T] }) (hr:Ku E T (ρ x) h K=some r):Out P o ρ h K r:=by
 unfold Ku at hr
 split at hr
 ·rename_i el he
  obtain ⟨n,T',h1,h2⟩:=Gk hr
  exact .read _ h1 (fun S2 hA=>FO ho ⟨el,og hE he⟩ (h2 S2 hA)) (by rw [ho];intro c e;cases e)
 ·cases hr
def xo {α:Type} (d:α) (n:Nat) (l:List α):List α:=(List.range n).map (nth d l)
theorem AJ {α β:Type} (f:α→List β) (d:α) (n:Nat) (l:List α):(xo d n l).flatMap f=Eg f d n l:=by
 unfold xo Eg
 rw [List.flatMap_map]
theorem DI {α:Type} (d:α) (n:Nat) (l:List α):(xo d n l).length=n:=by simp [xo]
def wE (h:H) (t:Ty) (py:A) (k:List t.T→List Nat→Option β):Option β:=match py with
 | .e0=>k [] []
 | .v (.slice _ 0 _)=>k [] []
 | .tl t' _ l=>match fL (.aK t') (.aK t) l with
  | some l'=>bif t.data then k l' [] else none
  | none=>none
 | .nn t' l=>match fL (.aK t') (.aK t) l with
  | some l'=>bif t.data then k l' [] else none
  | none=>none
 | .os r z o=>opt o (k [] []) (fun j=>jk h (.eG r j) (fun t' l=>match fL (.aK t') (.aK t) l with
  | some l'=>bif Nat.beq z t.size && Nat.blt 0 t.size then k l' [iG (.eG r j)] else none
  | none=>none))
 | .tw X z=>jk h X (fun t' l=>match fL (.aK t') (.aK t) l with
  | some l'=>bif Nat.beq z t.size && Nat.blt 0 t.size then k l' [iG X] else none
  | none=>none)
 | .ts X z off n=>jk h X (fun t' l=>match fL (.aK t') (.aK t) l with
  | some l'=>bif Nat.beq z t.size && Nat.blt 0 t.size then k (tk n (dr off l')) [iG X] else none
  | none=>none)
 | .tf X z off n=>jk h X (fun t' l=>match fL (.aK t') (.aK t) l with
  | some l'=>bif Nat.beq z t.size && Nat.blt 0 t.size then k (tk n (dr off l')) [iG X] else none
  | none=>none)
 | .aa X π n z=>qG h X π (fun sg=>match fL sg.t (.arr n t) sg.x with
  | some l=>bif Nat.beq z t.size then k (xo t.cK n l) [iG X] else none
  | none=>none)
 | .sl q off z n=>match h.t.get q with
  | some (.cells cs)=>bif Nat.blt q 16777216 && Nat.beq z t.size && Nat.ble (off+n*z) cs.length then (match sh (oN t) t.size n ((cs.drop off).take (n*z)) with
   | some l=>k l [du q]
   | none=>none) else none
  | _=>none
 | _=>none
theorem Given.conv {g:G} {w:World} {v:Value} {sz m:Nat} {ps qs:List A} (k:Given g w v sz m ps) (hc:∀vs,Vs g ps vs→Vs g qs vs):Given g w v sz m qs:=by
 obtain ⟨A2,lZ,us,h1,h2,h3,h4⟩:=k
 exact ⟨A2,lZ,us,h1,hc _ h2,h3,h4⟩
theorem V.xP {g:G} {S:Hp} {w:World} (hI:Inv g S w) {t:Ty} (hd:t.data=true) {f:Bool} {l:List t.T} {v:Value} (hv:V g (.tl t f l) v):Given g w v t.size l.length (l.flatMap (aA t)):=by
 cases hv with
 | tl _ _ _ _ hv=>
  generalize qb:List.map (cZ t) l=es at hv
  have pa:es.length=l.length:=by rw [←qb,zH]
  have EV:es.flatten=l.flatMap (cZ t):=by rw [←qb,kY]
  cases hv with
  | sV=>
   have:l=[]:=zZ pa.symm
   subst this
   exact .zero ⟨_,_,rfl⟩
  | sl _ _ _ a cap vs hz hc hf hn hx hl hm ER=>
   rw [EV] at ER hl
   have Bg:kI g.mem (l.flatMap (cZ t)) vs:=⟨hl,ER⟩
   have h1:=DG (g:=g) (f:=aA t) (f':=cZ t) (fun x us hu=>kI.cells t x us hd hu) (fun x=>by rw [bN,dZ]) l vs Bg
   rw [pa]
   refine ⟨_,cap,vs,rfl,h1,by rw [←h1.1,bj],fun h0=>?_⟩
   cases a with
   | none=>have:=hn rfl;omega
   | some p=>
    refine ⟨_,rfl,fun j x hj=>?_⟩
    obtain ⟨cur,ty,fz,q1,q2⟩:=hI.mem _ _ _ (hm p j x rfl hj)
    rw [show (UI p).add j=⟨p.1,p.2+j,none⟩ from Addr.add_lit _ _ _,cell_of_row w p.1 _ cur ty _ q1];exact q2
theorem piece {g:G} {S:Hp} {w:World} (hI:Inv g S w) {X:Ref} {t:Ty} {l:List t.T} {off n b cap d:Nat} {s:Nat×Nat} (_h0:0<t.size) (eY:S.ob X.id=some (.cells (l.flatMap (aA t)))) (bO:g.bq X.id=some (some b,s)) (hle:off+n≤l.length) (hd:n≠0→d=off*t.size) :
  Given g w (.slice (some ⟨b,d,none⟩) n cap) t.size (tk n (dr off l)).length ((tk n (dr off l)).flatMap (aA t)):=by
 have hl:(tk n (dr off l)).length=n:=by simp [tk,dr];omega
 rw [hl]
 rcases Nat.eq_zero_or_pos n with h0 | h0
 ·subst h0
  rw [show tk 0 (dr off l)=[] from by simp [tk]]
  exact .zero ⟨_,cap,rfl⟩
 ·obtain rfl:=hd (by omega)
  have:=hI.given (off:=off*t.size) (sz:=t.size) (m:=n) (cap:=cap) eY bO (by rw [bj,←Nat.add_mul];exact zW _ hle)
  rw [iJ] at this
  exact this
theorem sS {t:Ty} {py:A} {k:List t.T→List Nat→Option β} (hr:wE h t py k=some r):∃l T,k l T=some r∧∀S2,Agree (.rd T) (hp h) S2→∀g w v,Inv g S2 w→V g py v→Given g w v t.size l.length (l.flatMap (aA t)):=by
 cases py with
 | e0=>exact ⟨[],[],hr,fun S2 _ g w v _ hv=>by cases hv with | e0 ad=>exact .zero ⟨ad,0,rfl⟩⟩
 | v x=>cases x with
  | slice ad n c=>cases n with
   | zero=>exact ⟨[],[],hr,fun S2 _ g w v _ hv=>by cases hv;exact .zero ⟨_,_,rfl⟩⟩
   | succ n=>cases hr
  | _=>cases hr
 | tl t' f l=>
  unfold wE at hr
  simp only at hr
  split at hr
  ·rename_i l' hl
   obtain ⟨e,rfl⟩:=cp hl
   cases e
   obtain ⟨h1,hr⟩:=ah hr
   exact ⟨_,[],hr,fun S2 _ g w v hI hv=>hv.xP hI h1⟩
  ·cases hr
 | nn t' l=>
  unfold wE at hr
  simp only at hr
  split at hr
  ·rename_i l' hl
   obtain ⟨e,rfl⟩:=cp hl
   cases e
   obtain ⟨h1,hr⟩:=ah hr
   exact ⟨_,[],hr,fun S2 _ g w v hI hv=>by cases hv with | nn _ _ a n c h=>exact (V.tl _ false _ _ h).xP hI h1⟩
  ·cases hr
 | os q z o=>
  rcases ik (show opt o (k [] []) _=some r from hr) with ⟨e0,hr⟩ | ⟨jj,e0,hr⟩
  ·exact ⟨[],[],hr,fun S2 _ g w v _ hv=>by
    cases hv with
    | os _ _ _ _ h0 _=>cases h0 e0 with | e0 ad=>exact .zero ⟨ad,0,rfl⟩⟩
  ·obtain ⟨t',l,hr,hX,eY⟩:=eO (show jk h (.eG q jj) _=some r from hr)
   split at hr
   ·rename_i l' hl
    obtain ⟨e,rfl⟩:=cp hl
    cases e
    obtain ⟨h1,hk⟩:=ah hr
    simp only [zC] at h1
    have ez:=beq_eq h1.1
    subst ez
    refine ⟨_,_,hk,fun S2 hA g w v hI KF=>?_⟩
    have hv:V g (.tw (.eG q jj) t.size) v:=by cases KF with | os _ _ _ _ _ h1=>exact h1 jj e0
    have dY:=(hA _ (bK hX (.head _))).1.trans eY
    rcases hv.ql hI (bb h1.2) dY with ⟨ad,_,rfl,rfl⟩ | ⟨b,s,cap,d,bO,rfl,hd,hn,_⟩
    ·exact .zero ⟨ad,0,rfl⟩
    ·rcases Nat.eq_zero_or_pos l.length with h0 | h0
     ·have:l=[]:=zZ h0
      subst this
      exact .zero ⟨_,cap,rfl⟩
     ·obtain rfl:=hd (by omega)
      have:=hI.given (off:=0) (sz:=t.size) (m:=l.length) (cap:=cap) dY bO (by rw [bj];omega)
      rw [List.drop_zero,za (by rw [bj];exact Nat.le_refl _)] at this
      exact this
   ·cases hr
 | tw X z=>
  obtain ⟨t',l,hr,hX,eY⟩:=eO (show jk h X _=some r from hr)
  split at hr
  ·rename_i l' hl
   obtain ⟨e,rfl⟩:=cp hl
   cases e
   obtain ⟨h1,hk⟩:=ah hr
   simp only [zC] at h1
   obtain rfl:=beq_eq h1.1
   refine ⟨_,_,hk,fun S2 hA g w v hI hv=>?_⟩
   have dY:=(hA _ (bK hX (.head _))).1.trans eY
   rcases hv.ql hI (bb h1.2) dY with ⟨ad,_,rfl,rfl⟩ | ⟨b,s,cap,d,bO,rfl,hd,hn,_⟩
   ·exact .zero ⟨ad,0,rfl⟩
   ·rcases Nat.eq_zero_or_pos l.length with h0 | h0
    ·have:l=[]:=zZ h0
     subst this
     exact .zero ⟨_,cap,rfl⟩
    ·obtain rfl:=hd (by omega)
     have:=hI.given (off:=0) (sz:=t.size) (m:=l.length) (cap:=cap) dY bO (by rw [bj];omega)
     rw [List.drop_zero,za (by rw [bj];exact Nat.le_refl _)] at this
     exact this
  ·cases hr
 | ts X z off n=>
  obtain ⟨t',l,hr,hX,eY⟩:=eO (show jk h X _=some r from hr)
  split at hr
  ·rename_i l' hl
   obtain ⟨e,rfl⟩:=cp hl
   cases e
   obtain ⟨h1,hk⟩:=ah hr
   simp only [zC] at h1
   obtain rfl:=beq_eq h1.1
   refine ⟨_,_,hk,fun S2 hA g w v hI hv=>?_⟩
   have dY:=(hA _ (bK hX (.head _))).1.trans eY
   have hle:=sd hI (bb h1.2) dY hv
   cases hv with
   | se _ _ _ _ ad _ hn=>
    rw [show n=0 by omega,show tk 0 (dr off l)=[] by simp [tk]]
    exact .zero ⟨ad,0,rfl⟩
   | ts _ _ _ _ b cap s bO hn hx hs KK d hd=>exact piece hI (bb h1.2) dY bO hle (fun Mc=>hd (by omega))
  ·cases hr
 | tf X z off n=>
  obtain ⟨t',l,hr,hX,eY⟩:=eO (show jk h X _=some r from hr)
  split at hr
  ·rename_i l' hl
   obtain ⟨e,rfl⟩:=cp hl
   cases e
   obtain ⟨h1,hk⟩:=ah hr
   simp only [zC] at h1
   obtain rfl:=beq_eq h1.1
   refine ⟨_,_,hk,fun S2 hA g w v hI hv=>?_⟩
   have dY:=(hA _ (bK hX (.head _))).1.trans eY
   cases hv with
   | BJ _ _ _ _ ad _ hn=>
    rw [show n=0 by omega,show tk 0 (dr off l)=[] by simp [tk]]
    exact .zero ⟨ad,0,rfl⟩
   | tf _ _ _ _ b s bO hx hs d hd=>
    have hle:off+n≤l.length:=by
     rcases hI.cells _ _ dY with ⟨k1,_⟩ | ⟨b',E9,k1,_⟩
     ·rw [k1] at bO;cases bO
     rw [k1] at bO
     simp only [zI,zU] at bO
     obtain ⟨_,rfl⟩:=bO
     simp only [bj] at hs
     exact Nat.le_of_mul_le_mul_right hs (bb h1.2)
    exact piece hI (bb h1.2) dY bO hle hd
  ·cases hr
 | aa X π n z=>
  obtain ⟨sg,hk,hX,h2⟩:=sq (show qG h X π _=some r from hr)
  split at hk
  ·rename_i l hl
   obtain ⟨st,sx⟩:=sg
   obtain ⟨e,hl⟩:=cp hl
   simp only at e hl h2
   subst e
   simp only at hl
   subst hl
   obtain ⟨h1,hk⟩:=ah hk
   refine ⟨_,_,hk,fun S2 hA g w v hI hv=>?_⟩
   obtain rfl:=beq_eq h1
   cases hv with
   | aa _ _ _ _ b cap s bO hp hn hx=>
    have ha:=hA _ (bK hX (.head _))
    obtain ⟨a,c,q1,q2⟩:=h2 g _ w _ hI ha.1 ha.2 (.tp X π b s bO hp)
    have e1:(xo (α:=t.T) t.cK n sx).flatMap (aA t)=aA (.arr n t) sx:=AJ _ _ _ _
    have e3:(xo (α:=t.T) t.cK n sx).length=n:=DI _ _ _
    have e2:(aA (.arr n t) sx).length=n*t.size:=bN (.arr n t) sx
    have:=hI.given (off:=dz π) (sz:=t.size) (m:=n) (cap:=cap) q1 bO (by simp only [zY];rw [e2];omega)
    rw [←q2,List.drop_left,←e2,List.take_left,q2] at this
    exact Eq.subst (motive:=fun k=>Given g w _ t.size k _) e3.symm (Eq.subst (motive:=fun cs=>Given g w _ t.size n cs) e1.symm this)
  ·cases hk
 | sl q off z n=>
  unfold wE at hr
  simp only at hr
  split at hr
  ·rename_i cs hg
   obtain ⟨h1,hr⟩:=ah hr
   simp only [zC] at h1
   have hq:=bb h1.1.1
   obtain rfl:=beq_eq h1.1.2
   split at hr
   ·rename_i l hy
    refine ⟨_,_,hr,fun S2 hA g w v hI hv=>?_⟩
    obtain ⟨z1,z2,z3⟩:=nT (g:=g) (fun cs x h=>jg t cs x h) _ _ _ hy
    have eY:(hp h).ob q=some (.cells cs):=by rw [j5 hq];unfold fH;rw [hg];rfl
    cases hv with
    | sl _ _ _ _ b cap s bO hn hx hs=>
     rw [z2]
     exact (hI.given ((hA q (aB hq (.head _))).1.trans eY) bO (Nat.le_of_ble_eq_true h1.2)).conv z3
   ·cases hr
  ·cases hr
 | _=>cases hr
end
end
section
open Go.RowKit
section
variable {P:Program} {E:Env} {o:Oper} {ρ:Operand→A} {h:H} {β:Type} {K:A→H→Fp→Option β} {r:β}
theorem uQ (t:Ty) (n:Nat) (x:t.T):(rep n x).flatMap (aA t)=oY n (aA t x):=by
 unfold rep oY
 induction n with
 | zero=>rfl
 | succ n ih=>rw [List.replicate_succ,List.replicate_succ,List.flatMap_cons,List.flatten_cons,ih]
def V2 (E:Env) (T:Nat) (same:Bool) (px:A) (h:H) (K:A→H→Fp→Option β):Option β:=match w5 E T with
 | some el=>match ct E.dN el,px with
  | some e,.v (.int _ m)=>match e.t with
   | some t=>bif same && Nat.blt 0 e.size && Nat.ble (16777216*e.bytes) 281474976710656 then gd (bc m) (gd (bB (nN m) 16777216) (mX (.row t (rep (nN m) t.cK)) h (fun q h'=>K (.tw (.loc q) e.size) h' (.wr [du q])))) else none
   | none=>none
  | _,_=>none
 | none=>none
theorem Kq (hE:bW P E) {T:Nat} {x y:Operand} {same:Bool} (ho:o.op = .makeSlice T x y) (hs:same=true→x=y) (hr:V2 E T same (ρ x) h K=some r):Out P o ρ h K r:=by
 have hd:∀c,o.op≠.defer c:=by rw [ho];intro c e;cases e
 unfold V2 at hr
 split at hr
 ·rename_i el he
  split at hr
  ·rename_i e k m ht hx
   split at hr
   ·rename_i t wx
    obtain ⟨h1,hr⟩:=ah hr
    simp only [zC] at h1
    obtain rfl:=hs h1.1.1
    obtain ⟨h2,hr⟩:=bC hr
    obtain ⟨h3,hr⟩:=bC hr
    have h3:nN m≤16777216:=h3
    obtain ⟨h',k1,hq,hf,hh⟩:=fP hr
    have hk:=hE.dN _ _ ht
    have hb:=Nat.le_of_ble_eq_true h1.2
    refine ⟨_,_,_,k1,.of _ hh rfl (fun u hu=>by rcases zF.1 hu with rfl;exact aB (o:=h.aR) hq (.head _)) (fun S2 hA=>?_) hd⟩
    have e1:gy.low (.row t (rep (nN m) t.cK)) = .cells (oY (nN m) (aA t t.cK)):=congrArg Ob.cells (uQ t _ _)
    rw [e1]
    have nK:ρ x = .v (.int k ((nN m:Nat):Int)):=by rw [hx,na h2]
    exact rL ho (og hE he) hk.ti (bb h1.1.2) nK nK (Nat.le_trans (zW _ h3) hb) (by omega) ((hA _ (aB hq (.head _))).2.2 hf) (hk.tz t wx)
   ·cases hr
  ·cases hr
 ·cases hr
def Lm (h:H) (X:Ref) (k:H→Option β):Option β:=bif vr h (iG X) then none else match X with
 | .loc o=>ff h.t o none (fun t1=>k { h with t:=t1 })
 | .eG r j=>match bw h.rg r with
  | some ⟨_,.row t',c⟩=>bif Nat.blt r 64 then gd (bf j (len (α:=Option (List t'.T)) c)) (k { h with rg:=jh h.rg r (.row t') (aU (α:=Option (List t'.T)) c j none) }) else none
  | _=>none
theorem qy {t:Ty} {c:List (Option (List t.T))} {j:Nat} (hj:j<c.length) (i:Nat):dP (.row t) (aU c j none) i=if i=j then none else dP (.row t) c i:=by
 show (match kW (aU c j none) i with | some (some l)=>some (Ob.cells (l.flatMap (aA t))) | _=>none)=if i=j then none else (match kW c i with | some (some l)=>some (Ob.cells (l.flatMap (aA t))) | _=>none)
 rw [ou]
 by_cases h:i=j
 ·subst h;rw [if_pos ⟨rfl,hj⟩,if_pos rfl]
 ·rw [if_neg (fun k=>h k.1),if_neg h]
theorem yP {X:Ref} {k:H→Option β} (hr:Lm h X k=some r):∃h',k h'=some r∧Ai X=true∧hp h'=app [.del X.id] (hp h)∧h'.aR=h.aR:=by
 obtain ⟨_,hr⟩:=jb hr
 cases X with
 | loc o=>
  obtain ⟨hq,t1,k1,k2⟩:=bu hr
  exact ⟨_,k1,by show Nat.blt o 16777216=true;simpa using (Ar hq),qT (Ar hq) k2,rfl⟩
 | eG r j=>
  simp only at hr
  split at hr
  ·rename_i _ t' c hf
   obtain ⟨h3,hr⟩:=ah hr
   obtain ⟨h4,hr⟩:=bC hr
   have eg:j<List.length (α:=Option (List t'.T)) c:=h4
   refine ⟨_,hr,h3,?_,rfl⟩
   exact qS (j:=j) (u:=.del (fj r j)) (bb h3) hf (pW (α:=Option (List t'.T)) c j _) (fun i hi=>by rw [qy (c:=c) eg,if_neg hi]) rfl (by rw [qy (c:=c) eg,if_pos rfl];exact if_pos rfl) rfl
  ·cases hr
def tK:A→Bool
 | .e0=>true
 | .v (.slice _ 0 0)=>true
 | _=>false
theorem V.Am {g:G} {p:A} {v:Value} (hv:V g p v) (h:tK p=true):∃ad,v = .slice ad 0 0:=by
 unfold tK at h
 split at h
 ·cases hv with | e0 ad=>exact ⟨ad,rfl⟩
 ·cases hv;exact ⟨_,rfl⟩
 ·cases h
theorem rO {S:Hp} {T E':TypeId} {z b m n:Nat} {X:Ref} {zv:Value} {cs ps:List A} {x y:Operand} (ho:o.op = .call { callee:=.builtin .append,args:=#[x,y],argTypes:=#[T,T] }) (hT:P.underlying T=some (.slice E')) (hE:TI P E' z b zv) (h0:0<z)
  (hp:S.ob X.id=some (.cells cs)) (hx:ρ x = .ts X z 0 n) (pR:(n+m)*z≤cs.length) (hy:∀g w v,Inv g S w→V g (ρ y) v→Given g w v z m ps):eX P o ρ S (S.set X.id (.cells (put cs (n*z) ps))) (.ts X z 0 (n+m)):=
 .app ho fun g w a hI e1 e2=>by
  obtain ⟨i,t1,t2,t3,t4,t5,t6⟩:=hE
  subst t3 t4
  have GN:eL P E' i.size:=⟨i,t1,rfl⟩
  obtain ⟨A2,lZ,us,vw,o9,oh,AB⟩:=hy g w _ hI e2
  rw [hx] at e1
  generalize hu:a.eval x=vx at e1 ⊢
  cases e1 with
  | se _ _ _ _ ad hg hn=>
   rcases hI.cells X.id cs hp with ⟨_,k2⟩ | ⟨b',t,k1,_⟩
   ·subst k2
    have hn:n=0:=by omega
    subst hn
    have hm:m=0:=by
     rcases Nat.eq_zero_or_pos m with h | h
     ·exact h
     ·have:0<(0+m)*i.size:=Nat.mul_pos (by omega) h0
      simp only [List.length_nil] at pR;omega
    subst hm
    have rS:ps=[]:=zZ (by rw [o9.1,oh];simp)
    subst rS
    have hS:S.set X.id (.cells (put [] (0*i.size) []))=S:=by
     refine Hp.ext' (fun j=>?_) (fun j=>Iff.rfl)
     show (if j=X.id then some (.cells (put [] (0*i.size) [])) else S.ob j)=S.ob j
     by_cases hj:j=X.id
     ·subst hj;rw [if_pos rfl,hp];simp [put]
     ·rw [if_neg hj]
    rw [hS,vw]
    exact ⟨_,g,w,gR w T E' o.type hT GN _ A2 0 0 lZ (Nat.le_refl _),.se X i.size 0 (0+0) ad hg (by simp),hI,.refl S g w⟩
   ·rw [k1] at hg;cases hg
  | ts _ _ _ _ bk cap s hg Ur Mf hs KK d hd hq=>
   rw [vw]
   rw [Nat.zero_add] at KK hq
   have rS:ps.length=m*i.size:=by rw [o9.1,oh]
   have hlen:(put cs (n*i.size) ps).length=cs.length:=tb (by rw [rS,←Nat.add_mul];exact pR)
   rcases hI.cells X.id cs hp with ⟨k1,_⟩ | ⟨b',t,k1,cur,ty,k2,oO,k3⟩
   ·rw [k1] at hg;cases hg
   have Me:=hg
   rw [k1] at hg;simp at hg
   obtain ⟨rfl,rfl⟩:=hg
   simp only at hq KK hs
   have pG:n+m≤cap:=Nat.le_of_mul_le_mul_right (Nat.le_trans pR hq) h0
   have nc:(0+(n+m))*i.size≤(cs.length,t).1:=by rw [Nat.zero_add];exact pR
   have qO:∀g',g'.bq X.id=some (some b',(cs.length,t))→V g' (.ts X i.size 0 (n+m)) (.slice (some ⟨b',d,none⟩) (n+m) cap):=fun g' bO=>.ts X i.size 0 (n+m) b' cap _ bO pG Mf nc (by rw [Nat.zero_add];exact KK) d hd (by rw [Nat.zero_add];exact hq)
   rcases Nat.eq_zero_or_pos m with rfl | hm
   ·have rS:ps=[]:=zZ (by rw [rS];simp)
    subst rS
    have Az:put cs (n*i.size) []=cs:=by simp [put]
    have hS:S.set X.id (.cells (put cs (n*i.size) []))=S:=by
     rw [Az]
     refine Hp.ext' (fun j=>?_) (fun j=>Iff.rfl)
     show (if j=X.id then some (.cells cs) else S.ob j)=S.ob j
     by_cases hj:j=X.id
     ·subst hj;rw [if_pos rfl,hp]
     ·rw [if_neg hj]
    rw [hS]
    exact ⟨_,g,w,gR w T E' o.type hT GN _ A2 n cap lZ Ur,qO g Me,hI,.refl S g w⟩
   ·obtain ⟨E0,rfl,mh⟩:=AB hm
    obtain rfl:=hd (by omega)
    have Mb:(n+m)*i.size≤cs.length:=pR
    rw [Nat.add_mul] at Mb
    obtain ⟨aeZ,ty',c1,c2,c3,c4⟩:=hI.store (off:=n*i.size) hp Me o9 (by rw [rS];exact Mb)
    rw [k2] at c1
    simp only [zI,Obj.cells.injEq,and_true] at c1
    obtain ⟨rfl,rfl⟩:=c1
    have eQ:=kN (P:=P) w T o.type E' ty i hT t1 b' n cap cur k2 E0 m lZ us oh mh o9.one pG c2
    rw [Nat.zero_mul]
    exact ⟨_,g,_,eQ,by have:=qO g Me;rwa [Nat.zero_mul] at this,c3,c4⟩
def LK (E:Env) (T:Nat) (px py:A) (h:H) (K:A→H→Fp→Option β):Option β:=match w5 E T with
 | some el=>match ct E.dN el with
  | some e=>match e.t with
   | some t=>bif Nat.blt 0 e.size && Nat.ble (16777216*e.bytes) 140737488355328 then wE h t py (fun l T1=>
    bif tK px then gd (bB (len l) 16777216) (mX (.row t l) h (fun q h'=>K (.tw (.loc q) e.size) h' (.pt (du q) T1)))
    else match px with
    | .tw X z=>jk h X (fun t' l0=>match fL (.aK t') (.aK t) l0 with
     | some l0=>bif Nat.beq z e.size then gd (bB (aL (len (α:=t.T) l0) (len l)) 16777216) (Lm h X (fun h1=>mX (.row t (cat (α:=t.T) l0 l)) h1 (fun q h2=>K (.tw (.loc q) e.size) h2 (.p2 (du q) (iG X) T1)))) else none
     | none=>none)
    | .ts X z 0 n=>jk h X (fun t' l0=>match fL (.aK t') (.aK t) l0 with
     | some l0=>bif Nat.beq z e.size then (match py with
      | .ts _ _ _ _=>gd (bB (aL n (len l)) (len (α:=t.T) l0)) (qF h X t (cat (tk (α:=t.T) n l0) (cat l (dr (α:=t.T) (aL n (len l)) l0))) (fun h1=>K (.ts X z 0 (aL n (len l))) h1 (.wr (iG X::T1))))
      | _=>gd (bB (aL n (len l)) 16777216) (Lm h X (fun h1=>mX (.row t (cat (tk (α:=t.T) n l0) l)) h1 (fun q h2=>K (.tw (.loc q) e.size) h2 (.p2 (du q) (iG X) T1))))) else none
     | none=>none)
    | .tf X z off n=>br (ae (zN n) 0) (gd (bB (len l) 16777216) (mX (.row t l) h (fun q h'=>K (.tw (.loc q) e.size) h' (.pt (du q) T1)))) (jk h X (fun t' l0=>match fL (.aK t') (.aK t) l0 with
     | some l0=>bif Nat.beq z e.size then gd (bf 0 (len l)) (gd (bB (aL n (len l)) 16777216) (mX (.row t (cat (tk n (dr (α:=t.T) off l0)) l)) h (fun q h2=>K (.tw (.loc q) e.size) h2 (.p2 (du q) (iG X) T1)))) else none
     | none=>none))
    | _=>none) else none
   | none=>none
  | none=>none
 | none=>none
theorem iY (t:Ty) (a b:List t.T):(cat a b).flatMap (aA t)=a.flatMap (aA t)++b.flatMap (aA t):=List.flatMap_append
theorem tY (t:Ty) (n:Nat) (l:List t.T):(tk n l).flatMap (aA t)=(l.flatMap (aA t)).take (n*t.size):=by
 have:=iJ t l 0 n
 simpa [tk] using this.symm
theorem tZ (t:Ty) (n:Nat) (l:List t.T):(dr n l).flatMap (aA t)=(l.flatMap (aA t)).drop (n*t.size):=by
 have:=iJ t l n l.length
 rw [za (by rw [List.length_drop,bj];omega),za (by simp)] at this
 exact this.symm
theorem I_ {t:Ty} {X:Ref} {l:List t.T} {h1 h2:H} {T1:List Nat} {pv:A} (hd:∀c,o.op≠.defer c) (hX:Ai X=true) (e1:hp h1=app [.del X.id] (hp h)) (hn:h1.aR=h.aR) (hq:h1.aR<16777216) (hf:(hp h1).fr h1.aR) (e2:hp h2=app [.new h1.aR (gy.row t l).low] (hp h1))
  (k:∀S2,Agree (.p2 (du h1.aR) (iG X) T1) (hp h) S2→S2.fr h1.aR→eX P o ρ S2 ((S2.del X.id).new h1.aR (.cells (l.flatMap (aA t)))) pv):Step P o ρ h h2 (.p2 (du h1.aR) (iG X) T1) pv:=
 .T8 [.del X.id,.new h1.aR (.cells (l.flatMap (aA t)))] (by rw [e2,e1];rfl) (fun u hu=>by
  rcases List.mem_cons.1 hu with rfl | hu
  ·exact bK hX (.tail _ (.head _))
  ·rcases zF.1 hu with rfl;exact aB (o:=h1.aR) hq (.head _)) (fun u hu=>by
  show aI (.wr [du h1.aR,iG X]) u.id=true
  rcases List.mem_cons.1 hu with rfl | hu
  ·exact bK hX (.tail _ (.head _))
  ·rcases zF.1 hu with rfl;exact aB (o:=h1.aR) hq (.head _)) (fun S2 hA=>k S2 hA ((hA _ (aB hq (.head _))).2.2 (by rw [e1] at hf;exact hf))) hd
theorem Hn (hE:bW P E) {T:Nat} {x y:Operand} (ho:o.op = .call { callee:=.builtin .append,args:=#[x,y],argTypes:=#[T,T] }) (hr:LK E T (ρ x) (ρ y) h K=some r):Out P o ρ h K r:=by
 have hd:∀c,o.op≠.defer c:=by rw [ho];intro c e;cases e
 unfold LK at hr
 split at hr
 ·rename_i el he
  have hT:=og hE he
  split at hr
  ·rename_i e ht
   have hk:=hE.dN _ _ ht
   split at hr
   ·rename_i t wx
    have nc:=hk.ts t wx
    obtain ⟨hb,hr⟩:=ah hr
    simp only [zC] at hb
    have h0:=bb hb.1
    have hb:=Nat.le_of_ble_eq_true hb.2
    have EY:∀{n:Nat},n≤16777216→n*e.bytes≤140737488355328∧n≤maxLen:=fun hn=>⟨Nat.le_trans (zW _ hn) hb,by unfold maxLen;omega⟩
    obtain ⟨l,T1,hr,tO⟩:=sS hr
    rw [nc] at tO
    cases rT:tK (ρ x) with
    | true=>
     rw [rT] at hr;simp only [cond_true] at hr
     obtain ⟨h2,hr⟩:=bC hr
     have h2:l.length≤16777216:=h2
     obtain ⟨h',k1,hq,hf,hh⟩:=fP hr
     exact ⟨_,_,_,k1,.T8 _ hh (fun u hu=>by rcases zF.1 hu with rfl;exact aB (o:=h.aR) hq (.head _)) (fun u hu=>by rcases zF.1 hu with rfl;exact aB (l:=[du h.aR]) (w:=false) (s:=[]) (o:=h.aR) hq (.head _))
      (fun S2 hA=>mb ho hT hk.ti (fun g v hv=>hv.Am rT) (tO S2 (hA.mono fun i hi=>.tail _ hi)) ((hA _ (aB hq (.head _))).2.2 hf) (EY h2).1 (EY h2).2) hd⟩
    | false=>
     rw [rT] at hr;simp only [cond_false] at hr
     split at hr
     ·rename_i X z hx
      obtain ⟨t',l0,hr,hX,eY⟩:=eO hr
      split at hr
      ·rename_i Ub hl
       obtain ⟨e',rfl⟩:=cp hl
       cases e'
       obtain ⟨hz,hr⟩:=ah hr
       have hz:=beq_eq hz
       obtain ⟨h2,hr⟩:=bC hr
       have h2:l0.length+l.length≤16777216:=h2
       obtain ⟨h1,hr,_,e1,hn⟩:=yP hr
       obtain ⟨h',k1,hq,hf,hh⟩:=fP hr
       refine ⟨_,_,_,k1,I_ hd hX e1 hn hq hf hh (fun S2 hA nB=>?_)⟩
       have dY:=(hA _ (bK hX (.tail _ (.head _)))).1.trans eY
       have:=qL (P:=P) (n:=l0.length) (m:=l.length) (z:=e.size) ho hT hk.ti h0 dY (fun g w v hI hv=>by
        rw [hx,hz,←nc] at hv
        rcases hv.ql hI (by rw [nc];exact h0) dY with ⟨ad,_,rfl,rfl⟩ | ⟨b,s,cap,d,bO,rfl,k2,k3,k4,k5⟩
        ·exact .inl ⟨ad,rfl,rfl⟩
        ·exact .inr ⟨b,s,cap,d,bO,rfl,k2,k3,k4,by rw [←nc];exact k5⟩) (by rw [bj,nc];exact Nat.le_refl _) (tO S2 (hA.mono fun i hi=>.tail _ (.tail _ hi))) nB (EY h2).1 (EY h2).2
       rw [za (by rw [bj,nc];exact Nat.le_refl _),←iY] at this
       exact this
      ·cases hr
     ·rename_i X z n hx
      obtain ⟨t',l0,hr,hX,eY⟩:=eO hr
      split at hr
      ·rename_i Ub hl
       obtain ⟨e',rfl⟩:=cp hl
       cases e'
       obtain ⟨hz,hr⟩:=ah hr
       have hz:=beq_eq hz
       split at hr
       ·obtain ⟨h2,hr⟩:=bC hr
        have h2:n+l.length≤l0.length:=h2
        obtain ⟨h1,k1,k2⟩:=mJ hX hr
        refine ⟨_,_,_,k1,⟨fun i hi=>k2.1 i (oU (fun j hj=>by rcases zF.1 hj with rfl;exact .head _) hi),fun i hi=>k2.1 i (oU (T:=iG X::T1) (fun j hj=>by rcases zF.1 hj with rfl;exact .head _) (sb hi)),fun S2 hA=>?_⟩⟩
        refine eX.I6 (eX.bq fun g w a hI hv=>?_) hd
        have hv:=hv x (by simp [ho,Op.operands,Call.operands])
        have dY:=(hA _ (bK hX (.head _))).1.trans eY
        have QP:¬(hp h).fr X.id:=fun hf=>by
         have Dm:=(hA _ (bK hX (.head _))).2.2 hf
         have:=hI.fresh _ Dm
         rw [hx] at hv
         generalize a.eval x=vx at hv
         cases hv with
         | se _ _ _ _ ad bO=>rw [bO] at this;cases this
         | ts _ _ _ _ b cap s bO=>rw [bO] at this;cases this
        have e1:=k2.2 QP
        have Mh:aI (.wr (iG X::T1)) X.id=true:=bK hX (.head _)
        rw [e1,ij (fun u hu=>by rcases zF.1 hu with rfl;exact Mh) hA]
        have:=rO (P:=P) (n:=n) (m:=l.length) (X:=X) ho hT hk.ti h0 dY (by rw [hx,hz]) (by rw [bj,nc];exact zW _ h2) (tO S2 (hA.mono fun i hi=>.tail _ hi))
        have e2:put (l0.flatMap (aA t)) (n*e.size) (l.flatMap (aA t))=(cat (tk n l0) (cat l (dr (aL n (len l)) l0))).flatMap (aA t):=by
         rw [iY,iY,tY,tZ,nc]
         unfold put
         rw [bj,nc,←Nat.add_mul];rfl
        rw [e2] at this
        rw [hz]
        exact this
       ·obtain ⟨h2,hr⟩:=bC hr
        have h2:n+l.length≤16777216:=h2
        obtain ⟨h1,hr,_,e1,hn⟩:=yP hr
        obtain ⟨h',k1,hq,hf,hh⟩:=fP hr
        refine ⟨_,_,_,k1,I_ hd hX e1 hn hq hf hh (fun S2 hA nB=>eX.bq fun g0 w0 a0 Q7 KF=>?_)⟩
        have dY:=(hA _ (bK hX (.tail _ (.head _)))).1.trans eY
        have hle:n≤l0.length:=by
         have hv:=KF x (by simp [ho,Op.operands,Call.operands])
         rw [hx,hz,←nc] at hv
         have:=sd Q7 (by rw [nc];exact h0) dY hv
         omega
        have:=qL (P:=P) (n:=n) (m:=l.length) (z:=e.size) ho hT hk.ti h0 dY (fun g w v hI hv=>by
         rw [hx,hz] at hv
         cases hv with
         | se _ _ _ _ ad _ hn=>exact .inl ⟨ad,rfl,by omega⟩
         | ts _ _ _ _ b cap s bO k2 k3 k4 k5 d k6=>
          rw [Nat.zero_add] at k5
          exact .inr ⟨b,s,cap,d,bO,rfl,fun hc=>by rw [k6 hc,Nat.zero_mul],k2,k3,k5⟩) (by rw [bj,nc];exact zW _ hle) (tO S2 (hA.mono fun i hi=>.tail _ (.tail _ hi))) nB (EY h2).1 (EY h2).2
        rw [←nc,←tY,←iY] at this
        rw [←nc]
        exact this
      ·cases hr
     ·rename_i X z off n hx
      rcases ph hr with ⟨Mc,hr⟩ | ⟨_,hr⟩
      ·obtain ⟨h2,hr⟩:=bC hr
       have h2:l.length≤16777216:=h2
       have Mc:n=0:=by have:=of_decide_eq_true Mc;unfold zN at this;omega
       obtain ⟨h',k1,hq,hf,hh⟩:=fP hr
       exact ⟨_,_,_,k1,.T8 _ hh (fun u hu=>by rcases zF.1 hu with rfl;exact aB (o:=h.aR) hq (.head _)) (fun u hu=>by rcases zF.1 hu with rfl;exact aB (l:=[du h.aR]) (w:=false) (s:=[]) (o:=h.aR) hq (.head _))
        (fun S2 hA=>mb ho hT hk.ti (fun g v hv=>by rw [hx,Mc] at hv;cases hv<;>exact ⟨_,rfl⟩) (tO S2 (hA.mono fun i hi=>.tail _ hi)) ((hA _ (aB hq (.head _))).2.2 hf) (EY h2).1 (EY h2).2) hd⟩
      obtain ⟨t',l0,hr,hX,eY⟩:=eO hr
      split at hr
      ·rename_i Ub hl
       obtain ⟨e',rfl⟩:=cp hl
       cases e'
       obtain ⟨hz,hr⟩:=ah hr
       have hz:=beq_eq hz
       obtain ⟨h3,hr⟩:=bC hr
       have h3:0<l.length:=h3
       obtain ⟨h2,hr⟩:=bC hr
       have h2:n+l.length≤16777216:=h2
       obtain ⟨h',k1,hq,hf,hh⟩:=fP hr
       refine ⟨_,_,_,k1,.T8 _ hh (fun u hu=>by rcases zF.1 hu with rfl;exact aB (o:=h.aR) hq (.head _)) (fun u hu=>by rcases zF.1 hu with rfl;exact aB (l:=[du h.aR,iG X]) (w:=false) (s:=[]) (o:=h.aR) hq (.head _)) (fun S2 hA=>eX.bq fun g0 w0 a0 Q7 KF=>?_) hd⟩
       have dY:=(hA _ (bK hX (.tail _ (.head _)))).1.trans eY
       have hle:off+n≤l0.length:=by
        have hv:=KF x (by simp [ho,Op.operands,Call.operands])
        rw [hx,hz,←nc] at hv
        generalize a0.eval x=vx at hv
        cases hv with
        | BJ _ _ _ _ _ _ hn=>omega
        | tf _ _ _ _ b s bO _ hs=>
         rcases Q7.cells _ _ dY with ⟨k1,_⟩ | ⟨b',E9,k1,_⟩
         ·rw [k1] at bO;cases bO
         rw [k1] at bO
         simp only [zI,zU] at bO
         obtain ⟨_,rfl⟩:=bO
         simp only [bj] at hs
         exact Nat.le_of_mul_le_mul_right hs (by rw [nc];exact h0)
       have:=pP (P:=P) (off:=off*e.size) (n:=n) (m:=l.length) (z:=e.size) ho hT hk.ti h0 (fun g w v hI hv=>by
        rw [hx,hz] at hv
        cases hv with
        | BJ _ _ _ _ ad _ hn=>exact .inl ⟨ad,rfl,by omega⟩
        | tf _ _ _ _ b s bO _ _ d k6=>exact .inr ⟨b,s,d,bO,rfl,k6⟩) dY (by rw [bj,nc,←Nat.add_mul];exact zW _ hle) (tO S2 (hA.mono fun i hi=>.tail _ (.tail _ hi))) h3 ((hA _ (aB hq (.head _))).2.2 hf) (EY h2).1 (EY h2).2
       rw [←nc,iJ,←iY] at this
       rw [←nc]
       exact this
      ·cases hr
     ·cases hr
   ·cases hr
  ·cases hr
 ·cases hr
end
end
section
open Go.RowKit
theorem mP {α β:Type} {f:α→List β} {s:Nat} (hf:∀x,(f x).length=s) (l:List α):(l.flatMap f).length=l.length*s:=by
 induction l with
 | nil=>simp
 | cons a l ih=>rw [List.flatMap_cons,zY,ih,hf,zR,Nat.succ_mul,Nat.add_comm]
theorem xk {α β:Type} {f:α→List β} {s:Nat} (hf:∀x,(f x).length=s) (l:List α) (off n:Nat):((l.flatMap f).drop (off*s)).take (n*s)=((l.drop off).take n).flatMap f:=by
 have h1:l.flatMap f=(l.take off).flatMap f++(l.drop off).flatMap f:=by rw [←List.flatMap_append,zP]
 by_cases hl:off≤l.length
 ·have h2:((l.take off).flatMap f).length=off*s:=by rw [mP hf,List.length_take,Nat.min_eq_left hl]
  rw [h1,List.drop_append,List.drop_eq_nil_of_le (by omega),List.nil_append,h2,Nat.sub_self,List.drop_zero]
  generalize l.drop off=k
  have h3:k.flatMap f=(k.take n).flatMap f++(k.drop n).flatMap f:=by rw [←List.flatMap_append,zP]
  by_cases hk:n≤k.length
  ·have h4:((k.take n).flatMap f).length=n*s:=by rw [mP hf,List.length_take,Nat.min_eq_left hk]
   rw [h3,List.take_append_of_le_length (by omega),za (by omega)]
  ·rw [za (by rw [mP hf];exact zW _ (by omega)),za (l:=k) (by omega)]
 ·rw [List.drop_eq_nil_of_le (as:=l) (by omega),List.drop_eq_nil_of_le (by rw [mP hf];exact zW _ (by omega))]
  simp
def pT (ad:Option Addr) (z lo hi c:Nat):Value:=.slice (if c=lo then ad else ad.map (·.add (lo*z))) (hi-lo) (c-lo)
theorem V.wC {g:G} {t:Ty} {f f':Bool} {l:List t.T} {lo hi:Nat} {v:Value} (hv:V g (.tl t f l) v) (h1:lo≤hi) (h2:hi≤l.length) :
  ∃ad cap,v = .slice ad l.length cap∧l.length≤cap∧(f=true→cap=l.length)∧∀c,hi≤c→c≤cap→(f'=true→c=hi)→V g (.tl t f' (tk (hi-lo) (dr lo l))) (pT ad t.size lo hi c):=by
 cases hv with
 | tl _ _ _ _ hd=>
  generalize qb:List.map (cZ t) l=es at hd
  have pa:es.length=l.length:=by rw [←qb,zH]
  have EV:es.flatten=l.flatMap (cZ t):=by rw [←qb,kY]
  cases hd with
  | sV=>
   have:l=[]:=zZ pa.symm
   subst this
   refine ⟨_,0,rfl,Nat.le_refl _,fun _=>rfl,fun c k1 k2 k3=>?_⟩
   have hc:c=0:=by omega
   have hl:lo=0:=by simp at h2;omega
   have hh:hi=0:=by simpa using h2
   subst hc hl hh
   exact .tl t f' _ _ (by rw [show tk (0-0) (dr 0 ([]:List t.T))=[] by simp [tk]];exact .sV _ _ _)
  | sl _ _ _ a cap vs hz hc hf hn hx hl hm ER=>
   rw [pa] at hc hf
   rw [pa]
   refine ⟨_,cap,rfl,hc,hf,fun c k1 k2 k3=>?_⟩
   unfold pT
   by_cases pR:c=lo
   ·have e1:hi-lo=0:=by omega
    rw [if_pos pR,e1,show c-lo=0 by omega]
    exact .tl t f' _ _ (by rw [show tk 0 (dr lo l)=[] by simp [tk]];exact .sV _ _ _)
   ·rw [if_neg pR]
    cases a with
    | none=>have:=hn rfl;omega
    | some p=>
     have hlen:(tk (hi-lo) (dr lo l)).length=hi-lo:=by simp [tk,dr];omega
     have C_:=xk (f:=cZ t) (fun x=>dZ t x) l lo (hi-lo)
     rw [EV] at hl ER
     have e2:((tk (hi-lo) (dr lo l)).map (cZ t)).flatten=((l.flatMap (cZ t)).drop (lo*t.size)).take ((hi-lo)*t.size):=by rw [kY,C_];rfl
     have:=VD.sl (M:=g.mem) t.size f' ((tk (hi-lo) (dr lo l)).map (cZ t)) (some (p.1,p.2+lo*t.size)) (c-lo) ((vs.drop (lo*t.size)).take ((hi-lo)*t.size))
      (fun e he=>by obtain ⟨x,_,rfl⟩:=List.mem_map.1 he;exact dZ t x) (by rw [zH,hlen];omega) (fun h=>by rw [zH,hlen,k3 h]) (fun h=>by cases h) (by omega)
      (by rw [e2];simp only [List.length_take,List.length_drop,hl])
      (fun q j x hq hj=>by
       cases hq
       rw [List.getElem?_take] at hj
       split at hj
       ·rw [List.getElem?_drop] at hj
        have:=hm p _ x rfl hj
        rw [←Nat.add_assoc] at this;exact this
       ·cases hj)
      (fun j d x hj Jm=>by
       rw [e2] at hj
       rw [List.getElem?_take] at hj Jm
       split at hj
       ·rename_i eg
        rw [if_pos eg] at Jm
        rw [List.getElem?_drop] at hj Jm
        exact ER _ d x hj Jm
       ·cases hj)
     rw [zH,hlen] at this
     have e3:Option.map (fun x:Addr=>x.add (lo*t.size)) (Option.map UI (some p))=Option.map UI (some (p.1,p.2+lo*t.size)):=congrArg some (Addr.add_lit _ _ _)
     rw [e3]
     exact .tl t f' _ _ this
section
variable {P:Program} {E:Env} {o:Oper} {ρ:Operand→A} {h:H} {β:Type} {K:A→H→Fp→Option β} {r:β}
def A6 (ox:Option A) (d:Nat) (k:Nat→Option β):Option β:=match ox with
 | none=>k d
 | some (.v (.int _ m))=>gd (bc m) (k (nN m))
 | _=>none
theorem j_ {x:Option Operand} {d:Nat} {k:Nat→Option β} (hr:A6 (x.map ρ) d k=some r):∃n,k n=some r∧Bd ρ d x n:=by
 unfold A6 at hr
 split at hr
 ·rename_i hx
  cases x with
  | none=>exact ⟨d,hr,rfl⟩
  | some y=>cases hx
 ·rename_i kd m hx
  cases x with
  | none=>cases hx
  | some y=>
   obtain ⟨h1,h2⟩:=bC hr
   refine ⟨_,h2,kd,?_⟩
   rw [na h1]
   exact Option.some.inj hx
 ·cases hr
theorem V.It {g:G} {S:Hp} {w:World} (hI:Inv g S w) {X:Ref} {t:Ty} {l:List t.T} (h0:0<t.size) (ho:S.ob X.id=some (.cells (l.flatMap (aA t)))) {v:Value} (hv:V g (.tw X t.size) v) {lo hi:Nat} (h1:lo≤hi) (h2:hi≤l.length) :
  ∃ad cap,v = .slice ad l.length cap∧l.length≤cap∧V g (.ts X t.size lo (hi-lo)) (pT ad t.size lo hi cap)∧V g (.tf X t.size lo (hi-lo)) (pT ad t.size lo hi hi):=by
 have hlen:=bj t l
 rcases hv.ql hI h0 ho with ⟨ad,bO,rfl,rfl⟩ | ⟨b,s,cap,d,bO,rfl,k2,k3,k4,k5⟩
 ·have hh:hi=0:=by simpa using h2
  have hl:lo=0:=by omega
  subst hh hl
  exact ⟨ad,0,rfl,Nat.le_refl _,.se X t.size 0 _ ad bO rfl,.BJ X t.size 0 _ ad bO rfl⟩
 ·have hs:s.1=l.length*t.size:=by
   rcases hI.cells _ _ ho with ⟨k1,_⟩ | ⟨b',E9,k1,_⟩
   ·rw [k1] at bO;cases bO
   rw [k1] at bO
   simp only [zI,zU] at bO
   obtain ⟨_,rfl⟩:=bO
   exact hlen
  have kB:(lo+(hi-lo))*t.size≤s.1:=by rw [hs];exact zW _ (by omega)
  refine ⟨_,cap,rfl,k3,?_,?_⟩
  ·unfold pT
   by_cases hc:cap=lo
   ·rw [if_pos hc]
    refine .ts X t.size lo (hi-lo) b (cap-lo) s bO (by omega) (by omega) kB ?_ d (fun h=>by omega) ?_
    ·rw [show lo+(cap-lo)=cap by omega];exact k5
    ·rw [show lo+(cap-lo)=cap by omega,hs];exact zW _ k3
   ·rw [if_neg hc,Option.map_some,Addr.add_lit]
    have hd:=k2 (by omega)
    refine .ts X t.size lo (hi-lo) b (cap-lo) s bO (by omega) (by omega) kB ?_ _ (fun _=>by omega) ?_
    ·rw [show lo+(cap-lo)=cap by omega];exact k5
    ·rw [show lo+(cap-lo)=cap by omega,hs];exact zW _ k3
  ·unfold pT
   by_cases hc:hi=lo
   ·rw [if_pos hc]
    exact .tf X t.size lo (hi-lo) b s bO (by omega) kB d (fun h=>by omega)
   ·rw [if_neg hc,Option.map_some,Addr.add_lit]
    have hd:=k2 (by omega)
    exact .tf X t.size lo (hi-lo) b s bO (by omega) kB _ (fun _=>by omega)
theorem V.Oi {g:G} {S:Hp} {w:World} (hI:Inv g S w) {X:Ref} {t:Ty} {l:List t.T} (h0:0<t.size) (ho:S.ob X.id=some (.cells (l.flatMap (aA t)))) {off n:Nat} {v:Value} (hv:V g (.ts X t.size off n) v) {lo hi:Nat} (h1:lo≤hi) (h2:off+hi≤l.length) :
  ∃ad cap,v = .slice ad n cap∧hi≤cap∧V g (.ts X t.size (off+lo) (hi-lo)) (pT ad t.size lo hi cap)∧V g (.tf X t.size (off+lo) (hi-lo)) (pT ad t.size lo hi hi):=by
 have hlen:=bj t l
 cases hv with
 | se _ _ _ _ ad bO hn=>
  rcases hI.cells _ _ ho with ⟨_,k2⟩ | ⟨b',E9,k1,_⟩
  ·rw [k2] at hlen
   have hl:l.length=0:=by
    rcases Nat.eq_zero_or_pos l.length with h | h
    ·exact h
    ·have:0<l.length*t.size:=Nat.mul_pos h h0
     simp at hlen;omega
   have hh:hi=0:=by omega
   have hl:lo=0:=by omega
   have hof:off=0:=by omega
   have QM:n=0:=by omega
   subst hh hl hof QM
   exact ⟨ad,0,rfl,Nat.le_refl _,.se X t.size _ _ ad bO rfl,.BJ X t.size _ _ ad bO rfl⟩
  ·rw [k1] at bO;cases bO
 | ts _ _ _ _ b cap s bO hn hx hs hp d hd hq=>
  have KH:s.1=l.length*t.size:=by
   rcases hI.cells _ _ ho with ⟨k1,_⟩ | ⟨b',E9,k1,_⟩
   ·rw [k1] at bO;cases bO
   rw [k1] at bO
   simp only [zI,zU] at bO
   obtain ⟨_,rfl⟩:=bO
   exact hlen
  have aeh:l.length≤off+cap:=by rw [KH] at hq;exact Nat.le_of_mul_le_mul_right hq h0
  have kB:(off+lo+(hi-lo))*t.size≤s.1:=by rw [KH];exact zW _ (by omega)
  refine ⟨_,cap,rfl,by omega,?_,?_⟩
  ·unfold pT
   by_cases hc:cap=lo
   ·rw [if_pos hc]
    refine .ts X t.size (off+lo) (hi-lo) b (cap-lo) s bO (by omega) (by omega) kB ?_ d (fun h=>by omega) ?_
    ·rw [show off+lo+(cap-lo)=off+cap by omega];exact hp
    ·rw [show off+lo+(cap-lo)=off+cap by omega];exact hq
   ·rw [if_neg hc,Option.map_some,Addr.add_lit]
    have hd:=hd (by omega)
    refine .ts X t.size (off+lo) (hi-lo) b (cap-lo) s bO (by omega) (by omega) kB ?_ _ (fun _=>by rw [hd,Nat.add_mul]) ?_
    ·rw [show off+lo+(cap-lo)=off+cap by omega];exact hp
    ·rw [show off+lo+(cap-lo)=off+cap by omega];exact hq
  ·unfold pT
   by_cases hc:hi=lo
   ·rw [if_pos hc]
    exact .tf X t.size (off+lo) (hi-lo) b s bO (by omega) kB d (fun h=>by omega)
   ·rw [if_neg hc,Option.map_some,Addr.add_lit]
    have hd:=hd (by omega)
    exact .tf X t.size (off+lo) (hi-lo) b s bO (by omega) kB _ (fun _=>by rw [hd,Nat.add_mul])
def BO (E:Env) (T:Nat) (px:A) (lo hi mx:Option A) (same:Bool) (h:H) (K:A→H→Fp→Option β):Option β:=match ct E.dN T with
 | some ⟨.slice el,_,_,_,_,_,_⟩=>match ct E.dN el with
  | some e=>match px with
   | .e0=>A6 lo 0 (fun l=>A6 hi 0 (fun n=>gd (bB l n) (gd (bB n 0) (match mx with
    | none=>K .e0 h (.rd [])
    | some _=>bif same && hi.isSome then K .e0 h (.rd []) else none))))
   | .tl t f x=>bif Nat.beq e.size t.size then A6 lo 0 (fun l=>A6 hi (len x) (fun n=>gd (bB l n) (gd (bB n (len x)) (match mx with
    | none=>K (.tl t (f && hi.isNone) (tk (ax n l) (dr l x))) h .no
    | some _=>bif same && hi.isSome then K (.tl t true (tk (ax n l) (dr l x))) h .no else none)))) else none
   | .tw X z=>jk h X (fun t x=>bif Nat.beq z e.size && Nat.beq z t.size && Nat.blt 0 z then A6 lo 0 (fun l=>A6 hi (len x) (fun n=>gd (bB l n) (gd (bB n (len x)) (match mx with
    | none=>K (.ts X z l (ax n l)) h (.rd [iG X])
    | some _=>bif same && hi.isSome then K (.tf X z l (ax n l)) h (.rd [iG X]) else none)))) else none)
   | .ts X z off m=>jk h X (fun t x=>bif Nat.beq z e.size && Nat.beq z t.size && Nat.blt 0 z then A6 lo 0 (fun l=>A6 hi m (fun n=>gd (bB l n) (gd (bB (aL off n) (len x)) (match mx with
    | none=>K (.ts X z (aL off l) (ax n l)) h (.rd [iG X])
    | some _=>bif same && hi.isSome then K (.tf X z (aL off l) (ax n l)) h (.rd [iG X]) else none)))) else none)
   | _=>none
  | none=>none
 | some ⟨.array n el,_,_,_,_,_,_⟩=>match ct E.dN el with
  | some e=>bif lo.isNone && hi.isNone && mx.isNone && Nat.ble n 16777216 then (match px with
   | .tp X π=>K (.aa X π n e.size) h .no
   | .ptr q off=>match h.t.get q with
    | some (.cells cs)=>bif Nat.blt q 16777216 && Nat.ble (off+n*e.size) cs.length then K (.sl q off e.size n) h (.rd [du q]) else none
    | _=>none
   | _=>none) else none
  | none=>none
 | _=>none
theorem isNone_map {x:Option Operand} (h:(x.map ρ).isNone=true):x=none:=by cases x with | none=>rfl | some y=>cases h
theorem isSome_map {x:Option Operand} (h:(x.map ρ).isSome=true):∃y,x=some y:=by cases x with | none=>cases h | some y=>exact ⟨y,rfl⟩
theorem p_ {S:Hp} {T E':TypeId} {x:Operand} {lo hi mx:Option Operand} {z l n d:Nat} {pv pw:A} (ho:o.op = .slice T x lo hi mx) (hT:P.underlying T=some (.slice E')) (hE:eL P E' z) (tQ:Bd ρ 0 lo l) (tR:Bd ρ d hi n) (h1:l≤n)
  (hr:∀g w v,Inv g S w→V g (ρ x) v→∃ad cap,v = .slice ad d cap∧n≤cap∧(mx=none→V g pv (pT ad z l n cap))∧(mx=hi→V g pw (pT ad z l n n))):(mx=none→eX P o ρ S S pv)∧(mx=hi→hi≠none→eX P o ρ S S pw):=
 ⟨fun hm=>by
  subst hm
  exact z8 ho hT hE tQ h1 (fun g w v hI hv=>let ⟨ad,cap,k1,k2,k3,_⟩:=hr g w v hI hv;⟨ad,d,cap,k1,tR,k2,k3 rfl⟩),
 fun hm hn=>by
  subst hm
  cases Jn:mx with
  | none=>exact absurd Jn hn
  | some y=>
   subst Jn
   exact qI (hi:=y) (mx:=y) ho hT hE tQ tR tR h1 (Nat.le_refl _) (fun g w v hI hv=>let ⟨ad,cap,k1,k2,_,k4⟩:=hr g w v hI hv;⟨ad,d,cap,k1,k2,k4 rfl⟩)⟩
theorem sU (hE:bW P E) {T:Nat} {x:Operand} {lo hi mx:Option Operand} {same:Bool} (ho:o.op = .slice T x lo hi mx) (hs:same=true→mx=hi) (hr:BO E T (ρ x) (lo.map ρ) (hi.map ρ) (mx.map ρ) same h K=some r):Out P o ρ h K r:=by
 have hd:∀c,o.op≠.defer c:=by rw [ho];intro c e;cases e
 unfold BO at hr
 split at hr
 ·rename_i el _ _ _ _ _ _ ht
  have hT:=(hE.dN _ _ ht).u
  split at hr
  ·rename_i e he
   have hz:=(hE.dN _ _ he).ti.size
   have fin:∀{T':List Nat} {pv pw:A} {Sx:Hp→Prop},(∀S2,Agree (.rd T') (hp h) S2→(mx=none→eX P o ρ S2 S2 pv)∧(mx=hi→hi≠none→eX P o ρ S2 S2 pw))→(match mx.map ρ with | none=>K pv h (.rd T') | some _=>bif same && (hi.map ρ).isSome then K pw h (.rd T') else none)=some r→Out P o ρ h K r:=fun {T' pv pw Sx} k hr=>by
    cases hm:mx with
    | none=>
     rw [hm] at hr
     exact .read _ hr (fun S2 hA=>(k S2 hA).1 hm) hd
    | some y=>
     rw [hm] at hr
     obtain ⟨h1,hr⟩:=ah hr
     simp only [zC] at h1
     obtain ⟨y',w8⟩:=isSome_map h1.2
     exact .read _ hr (fun S2 hA=>(k S2 hA).2 (hs h1.1) (by rw [w8];intro h;cases h)) hd
   split at hr
   ·rename_i hx
    obtain ⟨l,hr,tQ⟩:=j_ hr
    obtain ⟨n,hr,tR⟩:=j_ hr
    obtain ⟨h1,hr⟩:=bC hr
    obtain ⟨h2,hr⟩:=bC hr
    have h1:l≤n:=h1
    have h2:n≤0:=h2
    have hn:n=0:=by omega
    have hl:l=0:=by omega
    subst hn hl
    exact fin (T':=[]) (Sx:=fun _=>True) (fun S2 _=>p_ (pw:=.e0) ho hT hz tQ tR h1 (fun g w v hI hv=>by
     rw [hx] at hv
     cases hv with
     | e0 ad=>exact ⟨ad,0,rfl,Nat.le_refl _,fun _=>.e0 _,fun _=>.e0 _⟩)) hr
   ·rename_i t f x' hx
    obtain ⟨hq,hr⟩:=ah hr
    have hq:=beq_eq hq
    obtain ⟨l,hr,tQ⟩:=j_ hr
    obtain ⟨n,hr,tR⟩:=j_ hr
    obtain ⟨h1,hr⟩:=bC hr
    obtain ⟨h2,hr⟩:=bC hr
    have h1:l≤n:=h1
    have h2:n≤x'.length:=h2
    refine fin (T':=[]) (Sx:=fun _=>True) (fun S2 _=>p_ ho hT hz tQ tR h1 (fun g w v hI hv=>?_)) hr
    rw [hx] at hv
    obtain ⟨ad,cap,k1,k2,k3,_⟩:=hv.wC (f':=f && (hi.map ρ).isNone) h1 h2
    refine ⟨ad,cap,k1,by omega,fun hm=>?_,fun _=>?_⟩
    ·obtain ⟨ad',Zk,j1,j2,j3,j4⟩:=hv.wC (f':=f && (hi.map ρ).isNone) h1 h2
     rw [k1] at j1;cases j1
     rw [hq]
     refine j4 cap (by omega) (Nat.le_refl _) (fun hf=>?_)
     simp only [zC] at hf
     have hh:=isNone_map hf.2
     subst hh
     have:n=len x':=tR
     rw [k3 hf.1,this];rfl
    ·obtain ⟨ad',Zk,j1,j2,j3,j4⟩:=hv.wC (f':=true) h1 h2
     rw [k1] at j1;cases j1
     rw [hq]
     exact j4 n (Nat.le_refl _) (by omega) (fun _=>rfl)
   ·rename_i X z hx
    obtain ⟨t,x',hr,hX,eY⟩:=eO hr
    obtain ⟨hq,hr⟩:=ah hr
    simp only [zC] at hq
    have Uo:=beq_eq hq.1.1
    have Gx:=beq_eq hq.1.2
    have h0:=bb hq.2
    obtain ⟨l,hr,tQ⟩:=j_ hr
    obtain ⟨n,hr,tR⟩:=j_ hr
    obtain ⟨h1,hr⟩:=bC hr
    obtain ⟨h2,hr⟩:=bC hr
    have h1:l≤n:=h1
    have h2:n≤x'.length:=h2
    refine fin (T':=[iG X]) (Sx:=fun _=>True) (fun S2 hA=>p_ ho hT hz tQ tR h1 (fun g w v hI hv=>?_)) hr
    have dY:=(hA _ (bK hX (.head _))).1.trans eY
    rw [hx,Gx] at hv
    obtain ⟨ad,cap,k1,k2,k3,k4⟩:=hv.It hI (by omega) dY h1 h2
    rw [←Gx] at k3 k4
    rw [←Uo]
    exact ⟨ad,cap,k1,by omega,fun _=>k3,fun _=>k4⟩
   ·rename_i X z off m hx
    obtain ⟨t,x',hr,hX,eY⟩:=eO hr
    obtain ⟨hq,hr⟩:=ah hr
    simp only [zC] at hq
    have Uo:=beq_eq hq.1.1
    have Gx:=beq_eq hq.1.2
    have h0:=bb hq.2
    obtain ⟨l,hr,tQ⟩:=j_ hr
    obtain ⟨n,hr,tR⟩:=j_ hr
    obtain ⟨h1,hr⟩:=bC hr
    obtain ⟨h2,hr⟩:=bC hr
    have h1:l≤n:=h1
    have h2:off+n≤x'.length:=h2
    refine fin (T':=[iG X]) (Sx:=fun _=>True) (fun S2 hA=>p_ ho hT hz tQ tR h1 (fun g w v hI hv=>?_)) hr
    have dY:=(hA _ (bK hX (.head _))).1.trans eY
    rw [hx,Gx] at hv
    obtain ⟨ad,cap,k1,k2,k3,k4⟩:=hv.Oi hI (by omega) dY h1 h2
    rw [←Gx] at k3 k4
    rw [←Uo]
    exact ⟨ad,cap,k1,k2,fun _=>k3,fun _=>k4⟩
   ·cases hr
  ·cases hr
 ·rename_i n el _ _ _ _ _ _ ht
  have hT:=(hE.dN _ _ ht).u
  split at hr
  ·rename_i e he
   have hz:=(hE.dN _ _ he).ti.size
   obtain ⟨h1,gZ⟩:=ah hr
   clear hr
   simp only [zC] at h1
   have e1:=isNone_map h1.1.1.1
   have e2:=isNone_map h1.1.1.2
   have e3:=isNone_map h1.1.2
   have hn:=Nat.le_of_ble_eq_true h1.2
   clear h1
   subst e1 e2 e3
   split at gZ
   ·rename_i X π hx
    exact .pure gZ (fun S2=>m7 ho hT ⟨_,hz⟩ (fun g w v hI hv=>by
     rw [hx] at hv
     cases hv with
     | tp _ _ b s bO hk=>exact ⟨b,_,rfl,.aa X π n e.size b n s bO hk (Nat.le_refl _) (by unfold maxLen;omega)⟩)) hd
   ·rename_i q off hx
    split at gZ
    ·rename_i cs hg
     obtain ⟨h2,gZ⟩:=ah gZ
     simp only [zC] at h2
     have hq:=bb h2.1
     have h3:=Nat.le_of_ble_eq_true h2.2
     have eY:(hp h).ob q=some (.cells cs):=by rw [j5 hq];unfold fH;rw [hg];rfl
     exact .read _ gZ (fun S2 hA=>m7 ho hT ⟨_,hz⟩ (fun g w v hI hv=>by
      rw [hx] at hv
      cases hv with
      | ptr _ _ b s bO=>
       have hs:s.1=cs.length:=by
        rcases hI.cells _ _ ((hA q (aB hq (.head _))).1.trans eY) with ⟨k1,_⟩ | ⟨b',E9,k1,_⟩
        ·rw [k1] at bO;cases bO
        rw [k1] at bO
        simp only [zI,zU] at bO
        obtain ⟨_,rfl⟩:=bO
        rfl
       exact ⟨b,off,rfl,.sl q off e.size n b n s bO (Nat.le_refl _) (by unfold maxLen;omega) (by rw [hs];exact h3)⟩)) hd
    ·cases gZ
   ·cases gZ
  ·cases hr
 ·cases hr
end
end
section
open Go.RowKit
section
variable {P:Program} {E:Env} {o:Oper} {ρ:Operand→A} {h:H} {β:Type} {K:A→H→Fp→Option β} {r:β}
theorem Step.put {h1:H} {X:Ref} {x:Ob} {T1:List Nat} {pv:A} (hd:∀c,o.op≠.defer c) (hX:Ai X=true) (k2:wj h h1 X x) (zp:∀(g:G) (S:Hp) (w:World) (a:Act),Inv g S w→(∀x∈o.op.operands,V g (ρ x) (a.eval x))→g.bq X.id≠none)
  (k:∀S2,Agree (.pt (iG X) T1) (hp h) S2→eX P o ρ S2 (S2.set X.id x) pv):Step P o ρ h h1 (.pt (iG X) T1) pv where
 out:=fun i hi=>k2.1 i (by
  have hi:(false || (iG X::T1).any (Nat.beq (res i)))=false:=hi
  rw [List.any_cons,Bool.or_eq_false_iff,Bool.or_eq_false_iff] at hi
  show (false || [iG X].any (Nat.beq (res i)))=false
  rw [List.any_cons,hi.2.1];rfl)
 rd:=fun i hi=>k2.1 i (by simpa [wt,aI,Fp.pt,Fp.wr] using hi)
 ok:=fun S2 hA=>by
  refine eX.I6 (eX.bq fun g w a hI hv=>?_) hd
  have Mh:aI (.pt (iG X) T1) X.id=true:=bK hX (.head _)
  have QP:¬(hp h).fr X.id:=fun hf=>zp g S2 w a hI hv (hI.fresh _ ((hA _ Mh).2.2 hf))
  rw [k2.2 QP,ij (fun u hu=>by rcases zF.1 hu with rfl;exact Mh) hA]
  exact k S2 hA
theorem V.atw {g:G} {X:Ref} {z:Nat} {v:Value} (hv:V g (.tw X z) v):g.bq X.id≠none:=by cases hv<;>simp_all
theorem V.ats {g:G} {X:Ref} {z off n:Nat} {v:Value} (hv:V g (.ts X z off n) v):g.bq X.id≠none:=by cases hv<;>simp_all
def D5 (E:Env) (T:Nat) (px py:A) (h:H) (K:A→H→Fp→Option β):Option β:=match w5 E T with
 | some el=>match ct E.dN el with
  | some e=>match e.t,px with
   | some t,.tw X z=>bif Nat.blt 0 e.size then wE h t py (fun l T1=>jk h X (fun t' l0=>match fL (.aK t') (.aK t) l0 with
    | some l0=>bif Nat.beq z e.size then gd (bf 0 (len (α:=t.T) l0)) (gd (bB (len l) (len (α:=t.T) l0)) (qF h X t (cat l (dr (α:=t.T) (len l) l0)) (fun h1=>K (.v (.int .i64 (zN (len l)))) h1 (.pt (iG X) T1)))) else none
    | none=>none)) else none
   | _,_=>none
  | none=>none
 | none=>none
theorem D4 (hE:bW P E) {T T':Nat} {x y:Operand} (ho:o.op = .call { callee:=.builtin .copy,args:=#[x,y],argTypes:=#[T,T'] }) (hr:D5 E T (ρ x) (ρ y) h K=some r):Out P o ρ h K r:=by
 have hd:∀c,o.op≠.defer c:=by rw [ho];intro c e;cases e
 unfold D5 at hr
 split at hr
 ·rename_i el he
  split at hr
  ·rename_i e ht
   have hk:=hE.dN _ _ ht
   split at hr
   ·rename_i t X z wx hx
    have nc:=hk.ts t wx
    obtain ⟨h0,hr⟩:=ah hr
    have h0:=bb h0
    obtain ⟨l,T1,hr,tO⟩:=sS hr
    obtain ⟨t',l0,hr,hX,eY⟩:=eO hr
    split at hr
    ·rename_i Ub hl
     obtain ⟨e',rfl⟩:=cp hl
     cases e'
     obtain ⟨hz,hr⟩:=ah hr
     have hz:=beq_eq hz
     obtain ⟨h1,hr⟩:=bC hr
     have h1:0<l0.length:=h1
     obtain ⟨h2,hr⟩:=bC hr
     have h2:l.length≤l0.length:=h2
     obtain ⟨h',k1,k2⟩:=mJ hX hr
     refine ⟨_,_,_,k1,.put hd hX k2 (fun g S w a hI hv=>?_) (fun S2 hA=>?_)⟩
     ·have hv:=hv x (by simp [ho,Op.operands,Call.operands])
      rw [hx] at hv
      exact hv.atw
     ·have dY:=(hA _ (bK hX (.head _))).1.trans eY
      have:=Cp (P:=P) (ρ:=ρ) (n:=l0.length) (m:=l.length) (off:=0) (z:=e.size) ho (og hE he) hk.ti.size (fun g w v hI hv=>by
       rw [hx,hz,←nc] at hv
       rcases hv.ql hI (by rw [nc];exact h0) dY with ⟨ad,_,rfl,rfl⟩ | ⟨b,s,cap,d,bO,rfl,k2,k3,k4,k5⟩
       ·simp at h1
       ·exact ⟨b,s,cap,d,bO,rfl,fun _=>k2 (by omega)⟩) dY (by rw [bj,nc];omega) (by have:=tO S2 (hA.mono fun i hi=>.tail _ hi);rwa [nc] at this) h2
      have e2:put (l0.flatMap (aA t)) 0 (l.flatMap (aA t))=(cat l (dr (len l) l0)).flatMap (aA t):=by
       rw [iY,tZ]
       unfold put
       rw [bj,List.take_zero,List.nil_append,Nat.zero_add];rfl
      rw [e2] at this
      exact this
    ·cases hr
   ·cases hr
  ·cases hr
 ·cases hr
def Ly (E:Env) (T:Nat) (px:A) (h:H) (K:A→H→Fp→Option β):Option β:=match w5 E T with
 | some el=>match ct E.dN el with
  | some e=>match e.t,px with
   | some t,.ts X z off n=>bif Nat.blt 0 e.size then jk h X (fun t' l0=>match fL (.aK t') (.aK t) l0 with
    | some l0=>bif Nat.beq z e.size then gd (bf 0 n) (qF h X t (cat (tk (α:=t.T) off l0) (cat (rep n t.cK) (dr (α:=t.T) (aL off n) l0))) (fun h1=>K .cF h1 (.wr [iG X]))) else none
    | none=>none) else none
   | _,_=>none
  | none=>none
 | none=>none
theorem He (hE:bW P E) {T:Nat} {x:Operand} (ho:o.op = .call { callee:=.builtin .clear,args:=#[x],argTypes:=#[T] }) (hr:Ly E T (ρ x) h K=some r):Out P o ρ h K r:=by
 have hd:∀c,o.op≠.defer c:=by rw [ho];intro c e;cases e
 unfold Ly at hr
 split at hr
 ·rename_i el he
  split at hr
  ·rename_i e ht
   have hk:=hE.dN _ _ ht
   split at hr
   ·rename_i t X z off n wx hx
    have nc:=hk.ts t wx
    obtain ⟨h0,hr⟩:=ah hr
    have h0:=bb h0
    obtain ⟨t',l0,hr,hX,eY⟩:=eO hr
    split at hr
    ·rename_i Ub hl
     obtain ⟨e',rfl⟩:=cp hl
     cases e'
     obtain ⟨hz,hr⟩:=ah hr
     have hz:=beq_eq hz
     obtain ⟨h1,hr⟩:=bC hr
     have h1:0<n:=h1
     obtain ⟨h',k1,k2⟩:=mJ hX hr
     refine ⟨_,_,_,k1,.put hd hX k2 (fun g S w a hI hv=>?_) (fun S2 hA=>eX.bq fun g0 w0 a0 Q7 KF=>?_)⟩
     ·have hv:=hv x (by simp [ho,Op.operands,Call.operands])
      rw [hx] at hv
      exact hv.ats
     ·have dY:=(hA _ (bK hX (.head _))).1.trans eY
      have hle:off+n≤l0.length:=by
       have hv:=KF x (by simp [ho,Op.operands,Call.operands])
       rw [hx,hz,←nc] at hv
       exact sd Q7 (by rw [nc];exact h0) dY hv
      have:=Ad (P:=P) (ρ:=ρ) (n:=n) (off:=off*e.size) (z:=e.size) ho (og hE he) hk.ti h0 (hk.tz t wx) (fun g w v hI hv=>by
       rw [hx,hz] at hv
       cases hv with
       | se _ _ _ _ _ _ hn=>omega
       | ts _ _ _ _ b cap s bO hn _ _ _ d mY=>exact ⟨b,s,cap,d,bO,rfl,fun _=>mY (by omega)⟩) h1 dY (by rw [bj,nc,←Nat.add_mul];exact zW _ hle)
      have e2:put (l0.flatMap (aA t)) (off*e.size) (oY n (aA t t.cK))=(cat (tk off l0) (cat (rep n t.cK) (dr (aL off n) l0))).flatMap (aA t):=by
       rw [iY,iY,tY,tZ,uQ,nc]
       unfold put
       rw [jV,bN,nc,←Nat.add_mul];rfl
      rw [e2] at this
      exact this
    ·cases hr
   ·cases hr
  ·cases hr
 ·cases hr
def L4 (mx:Bool) (px py:A) (h:H) (K:A→H→Fp→Option β):Option β:=match px,py with
 | .v (.int k m),.v (.int k' n)=>if k=k' then K (.v (.int k (bif mx then imax m n else lA m n))) h .no else none
 | _,_=>none
theorem Gf {Ts:Array TypeId} {x y:Operand} (ho:o.op = .call { callee:=.builtin .max,args:=#[x,y],argTypes:=Ts }) (hr:L4 true (ρ x) (ρ y) h K=some r):Out P o ρ h K r:=by
 unfold L4 at hr
 split at hr
 ·rename_i k m k' n hx hy
  split at hr
  ·rename_i hk;subst hk
   exact .pure hr (fun S2=>FN ho hx hy) (by rw [ho];intro c e;cases e)
  ·cases hr
 ·cases hr
theorem Ge {Ts:Array TypeId} {x y:Operand} (ho:o.op = .call { callee:=.builtin .min,args:=#[x,y],argTypes:=Ts }) (hr:L4 false (ρ x) (ρ y) h K=some r):Out P o ρ h K r:=by
 unfold L4 at hr
 split at hr
 ·rename_i k m k' n hx hy
  split at hr
  ·rename_i hk;subst hk
   exact .pure hr (fun S2=>FM ho hx hy) (by rw [ho];intro c e;cases e)
  ·cases hr
 ·cases hr
def Qr (f:FuncId) (fi ca:List A) (h:H) (K:A→H→Fp→Option β):Option β:=K (.fn f fi ca) h .no
theorem Gh {f:FuncId} {fi ca:Array Operand} (ho:o.op = .makeFunc (.func f) fi ca) (hr:Qr f (fi.toList.map ρ) (ca.toList.map ρ) h K=some r):Out P o ρ h K r:=
 .pure hr (fun S2=>tq ho) (by rw [ho];intro c e;cases e)
end
end
section
open Go.RowKit
section
variable {P:Program} {E:Env} {o:Oper} {ρ:Operand→A} {S:Hp}
def Aq (es:List (A×A)) (n:Nat) (v:A):List (A×A):=es.modify n fun e=>(e.1,v)
theorem Co (hE:bW P E) {T K T2:Nat} {X:Ref} {x y z:Operand} {e:cS} {es:List (A×A)} {vz:A} {n:Nat} {TZ:A} (ho:o.op = .mapUpdate T x y z) (hT:P.underlying T=some (.map K T2)) (he:ct E.dN K=some e) (ht:lM E e.d=true) {b:Bool} (hs:iW E K e.d (ρ y) (ρ y)=some b)
  (hx:ρ x = .mp X) (hm:S.ob X.id=some (.cL (.map es))) (L6:∀g v,V g (ρ z) v→V g vz v) (hr:kZ (iW E K e.d (ρ y)) es 0=some (some (n,TZ)))
  (WN:∀g v q v',es[n]?=some q→V g (ρ y) v→V g q.1 v'→v'=v∧Instr.sameBits 10000 v v=true):eX P o ρ S (S.set X.id (.cL (.map (Aq es n vz)))) .cF:=by
 intro g w a next Q hI hv K'
 have e1:=hx▸hv x (by simp [ho,Op.operands])
 have e2:=hv y (by simp [ho,Op.operands])
 have e3:=hv z (by simp [ho,Op.operands])
 obtain ⟨Bo,s,jq,clock,h1,h2,h3,h4⟩:=e1.tD hI hm
 have hc:=mR hE w false he ht hs e2
 rcases h4.find (w:=w) hE he e2 hr with ⟨hh,_⟩ | ⟨n',p,x',hh,nK,_,hn,hf⟩
 ·cases hh
 cases hh
 obtain ⟨q,hq⟩:∃q,es[n]?=some q:=⟨_,zD hn⟩
 obtain ⟨k1,k2⟩:=WN g _ q _ hq e2 (h4.2 n x' q nK hq).1
 have Dn:ry g (jq.modify n fun e=>{ e with key:=a.eval y,val:=a.eval z }) (Aq es n vz):=by
  refine ⟨by simp [Aq,h4.1],fun m c r hy hz=>?_⟩
  unfold Aq at hz
  rw [List.getElem?_modify] at hz
  rw [Array.getElem?_modify] at hy
  by_cases hmn:n=m
  ·subst hmn
   simp only [if_true,nK,hq,Option.map_some,Option.map_eq_map,zI] at hy hz
   subst hy hz
   exact ⟨by rw [←k1];exact (h4.2 n x' q nK hq).1,L6 _ _ e3⟩
  ·simp only [if_neg hmn,Option.map_eq_map,Option.map_id'] at hy hz
   exact h4.2 m c r hy hz
 obtain ⟨q1,q2⟩:=hI.sW (mw:=clock) hm h2 h3 Dn
 have yy:(Instr.keyThatStays (((jq[n]?).map (·.key)).getD (a.eval y)) (a.eval y)).run P w = .ok (a.eval y) w:=by
  rw [nK]
  simp only [Option.map_some,Option.getD_some,k1]
  simp [Instr.keyThatStays,k2]
 have eQ:(Instr.mapUpdate T (.map (some Bo)) (a.eval y) (a.eval z)).run P w = .ok () { w with heap:=w.heap.setIfInBounds Bo (.map (jq.modify n fun e=>{ e with key:=a.eval y,val:=a.eval z }) clock) }:=by
  simp only [Instr.mapUpdate,Sem.run_bind,run_underlying hT,Result.andThen_ok,MapKept.run_getObj_map h3,hc,hf,yy,MapKept.run_setObj_map _ h3]
 unfold Oper.wp
 simp only [execOp,ho,h1,Sem.run_bind,eQ,Result.andThen_ok,Sem.run_pure]
 exact K' _ g _ (.cF _) q1 q2
end
def sF {β:Type} (f:A→Option Bool):List (A×A)→Nat→(Option (Nat×A)→Option β)→Option β
 | [],_,K=>K none
 | (k,v)::r,i,K=>match f k with
  | some b=>br b (K (some (i,v))) (sF f r (i+1) K)
  | none=>none
theorem oB {β:Type} {f:A→Option Bool} {r:β}:∀(es:List (A×A)) (i:Nat) (K:Option (Nat×A)→Option β),sF f es i K=some r→∃x,K x=some r∧kZ f es i=some x
 | [],i,K,h=>⟨none,h,rfl⟩
 | (k,v)::es,i,K,h=>by
  unfold sF at h
  split at h
  ·rename_i b hb
   rcases ph h with ⟨rfl,h1⟩ | ⟨rfl,h1⟩
   ·exact ⟨_,h1,by unfold kZ;rw [hb]⟩
   ·obtain ⟨x,k1,k2⟩:=oB es (i+1) K h1
    exact ⟨x,k1,by unfold kZ;rw [hb];exact k2⟩
  ·cases h
def sH:(t:Ty)→t.T→t.T→Bool
 | .int _,x,y=>ae x y
 | .pair a b,x,y=>sH a x.1 y.1 && sH b x.2 y.2
 | _,_,_=>false
def EM {κ α:Type} (p:κ→Bool):List (κ×α)→Nat→Option (Nat×α)
 | [],_=>none
 | (k,v)::r,i=>bif p k then some (i,v) else EM p r (i+1)
def Ko {κ α:Type} (l:List (κ×α)) (n:Nat) (v:α):List (κ×α):=l.modify n fun e=>(e.1,v)
def Kr {κ α:Type} (l:List (κ×α)) (n:Nat):List (κ×α):=l.eraseIdx n
def mf (E:Env) (T:Nat) (k:IntKind):Bool:=match ct E.dN T with
 | some ⟨.int k',1,_,_,_,_,_⟩=>if k'=k then true else false
 | _=>false
def cd (E:Env):List Field→Nat→Ty→Bool
 | [fd],i,.int k=>Nat.beq fd.offset i && mf E fd.type k
 | fd::fs,i,.pair (.int k) t=>Nat.beq fd.offset i && mf E fd.type k && cd E fs (i+1) t
 | _,_,_=>false
def CP (E:Env) (K:Nat) (e:cS) (ka:Bool) (t:Ty):Bool:=match e.d with
 | .int k=>!ka && (match t with
  | .int k'=>if k'=k then true else false
  | _=>false)
 | .struct fs=>ka && E.eqs.any (Nat.beq K) && cd E fs.toList 0 t
 | _=>false
theorem o7 {E:Env} {T:Nat} {k:IntKind} (h:mf E T k=true):∃e,ct E.dN T=some e∧e.d = .int k∧e.size=1:=by
 unfold mf at h
 split at h
 ·rename_i k' _ _ _ _ _ ht
  split at h
  ·rename_i hk;subst hk;exact ⟨_,ht,rfl,rfl⟩
  ·cases h
 ·cases h
theorem yJ {E:Env} {T:Nat} {k:IntKind} {m n:Int} (h:mf E T k=true) (f:Nat):uD E (f+1) T [.v (.int k m)] [.v (.int k n)]=some (ae m n):=by
 obtain ⟨e,h1,h2,_⟩:=o7 h
 unfold uD
 rw [h1]
 simp only [h2,if_true]
theorem yk {E:Env} (f:Nat):∀(fs:List Field) (i:Nat) (t:Ty),cd E fs i t=true→∀(p q:List A) (x y:t.T),p.length=i→q.length=i→G5 E (uD E (f+1)) fs (p++aA t x) (q++aA t y)=some (sH t x y)
 | [],_,_,h=>by simp [cd] at h
 | [fd],i,.int k,h=>fun p q x y hp hq=>by
  simp only [cd,zC] at h
  have h1:=beq_eq h.1
  obtain ⟨e,e1,e2,e3⟩:=o7 h.2
  unfold G5
  rw [e1]
  simp only [e3,h1]
  rw [←hp,List.drop_left,hp,←hq,List.drop_left]
  have:=yJ (m:=x) (n:=y) h.2 f
  simp only [aA,List.take_succ_cons,List.take_zero,this,G5]
  simp [sH,aX]
 | fd::fs,i,.pair (.int k) t,h=>fun p q x y hp hq=>by
  have h:(Nat.beq fd.offset i && mf E fd.type k && cd E fs (i+1) t)=true:=by
   cases fs<;>exact h
  simp only [zC] at h
  have h1:=beq_eq h.1.1
  obtain ⟨e,e1,e2,e3⟩:=o7 h.1.2
  unfold G5
  rw [e1]
  simp only [e3,h1]
  have ih:=yk f fs (i+1) t h.2 (p++[A.v (.int k x.1)]) (q++[A.v (.int k y.1)]) x.2 y.2 (by simp [hp]) (by simp [hq])
  have ex:∀(p:List A) (x:(Ty.pair (.int k) t).T),p++aA (.pair (.int k) t) x=p++[A.v (.int k x.1)]++aA t x.2:=fun p x=>by
   show p++([A.v (.int k x.1)]++aA t x.2)=_
   rw [List.append_assoc]
  rw [ex,ex,ih]
  have W2:((p++[A.v (.int k x.1)]++aA t x.2).drop i).take 1=[A.v (.int k x.1)]:=by rw [←hp,List.append_assoc,List.drop_left];rfl
  have hd2:((q++[A.v (.int k y.1)]++aA t y.2).drop i).take 1=[A.v (.int k y.1)]:=by rw [←hq,List.append_assoc,List.drop_left];rfl
  rw [W2,hd2]
  exact congrArg (fun z:Option Bool=>match z,some (sH t x.2 y.2) with
   | some a,some b=>some (aX a b)
   | _,_=>none) (yJ (m:=x.1) (n:=y.1) h.1.2 f)
 | [_],_,.bool,h=>by simp [cd] at h
 | _::_::_,_,.bool,h=>by simp [cd] at h
 | _::_::_,_,.int _,h=>by simp [cd] at h
 | _::_,_,.unit,h=>by simp [cd] at h
 | _::_,_,.pair .bool _,h=>by simp [cd] at h
 | _::_,_,.pair .unit _,h=>by simp [cd] at h
 | _::_,_,.pair (.pair _ _) _,h=>by simp [cd] at h
 | _::_,_,.pair (.arr _ _) _,h=>by simp [cd] at h
 | _::_,_,.pair (.aK _) _,h=>by simp [cd] at h
 | _::_,_,.pair (.ptr _) _,h=>by simp [cd] at h
 | _::_,_,.pair (.dO _) _,h=>by simp [cd] at h
 | _::_,_,.pair (.jU _ _) _,h=>by simp [cd] at h
 | _::_,_,.pair (.oM _ _) _,h=>by simp [cd] at h
 | _::_,_,.pair (.mp _) _,h=>by simp [cd] at h
 | _::_,_,.arr _ _,h=>by simp [cd] at h
 | _::_,_,.aK _,h=>by simp [cd] at h
 | _::_,_,.ptr _,h=>by simp [cd] at h
 | _::_,_,.dO _,h=>by simp [cd] at h
 | _::_,_,.jU _ _,h=>by simp [cd] at h
 | _::_,_,.oM _ _,h=>by simp [cd] at h
 | _::_,_,.mp _,h=>by simp [cd] at h
theorem tF {E:Env} {K:Nat} {e:cS} {ka:Bool} {t:Ty} (he:ct E.dN K=some e) (h:CP E K e ka t=true) (x y:t.T):iW E K e.d (bZ ka t x) (bZ ka t y)=some (sH t x y):=by
 unfold CP at h
 split at h
 ·rename_i k hd
  cases ka with
  | true=>simp at h
  | false=>
   simp only [Bool.not_false,Bool.true_and] at h
   split at h
   ·split at h
    ·rename_i k' hk
     subst hk
     unfold iW bZ
     simp only [hd,cond_false,aA,if_true]
     rfl
    ·cases h
   ·cases h
 ·rename_i fs hd
  simp only [zC] at h
  obtain ⟨⟨rfl,hq⟩,hs⟩:=h
  have h1:=yk 0 fs.toList 0 t hs [] [] x y rfl rfl
  simp only [List.nil_append] at h1
  unfold iW bZ
  simp only [hd,cond_true,iq,Bool.and_self,A.cells]
  show uD E 2 K (aA t x) (aA t y)=some (sH t x y)
  unfold uD
  rw [he]
  simp only [hd,hq,cond_true]
  exact h1
 ·cases h
theorem ko {E:Env} {K:Nat} {e:cS} {ka va:Bool} {t tv:Ty} (he:ct E.dN K=some e) (h:CP E K e ka t=true) (x:t.T):∀(es:List (t.T×tv.T)) (i:Nat),
  kZ (iW E K e.d (bZ ka t x)) (es.map fun e=>(bZ ka t e.1,bZ va tv e.2)) i=some ((EM (sH t x) es i).map fun p=>(p.1,bZ va tv p.2))
 | [],i=>rfl
 | (k,v)::es,i=>by
  rw [List.map_cons]
  unfold kZ EM
  simp only [tF he h x k]
  cases sH t x k with
  | true=>rfl
  | false=>exact ko he h x es (i+1)
theorem tM {a b:Int} (h:ae a b=true):a=b:=by unfold ae at h;exact of_decide_eq_true h
theorem sw {E:Env}:∀(fs:List Field) (i:Nat) (t:Ty),cd E fs i t=true→∀x y:t.T,sH t x y=true→x=y
 | [],_,_,h=>by simp [cd] at h
 | [_],_,.int _,_=>fun _ _ e=>tM e
 | fd::fs,i,.pair (.int k) t,h=>fun x y e=>by
  have h:(Nat.beq fd.offset i && mf E fd.type k && cd E fs (i+1) t)=true:=by
   cases fs<;>exact h
  simp only [zC] at h
  have e:(ae x.1 y.1 && sH t x.2 y.2)=true:=e
  simp only [zC] at e
  exact Prod.ext (tM e.1) (sw fs (i+1) t h.2 _ _ e.2)
 | [_],_,.bool,h=>by simp [cd] at h
 | _::_::_,_,.bool,h=>by simp [cd] at h
 | _::_::_,_,.int _,h=>by simp [cd] at h
 | _::_,_,.unit,h=>by simp [cd] at h
 | _::_,_,.pair .bool _,h=>by simp [cd] at h
 | _::_,_,.pair .unit _,h=>by simp [cd] at h
 | _::_,_,.pair (.pair _ _) _,h=>by simp [cd] at h
 | _::_,_,.pair (.arr _ _) _,h=>by simp [cd] at h
 | _::_,_,.pair (.aK _) _,h=>by simp [cd] at h
 | _::_,_,.pair (.ptr _) _,h=>by simp [cd] at h
 | _::_,_,.pair (.dO _) _,h=>by simp [cd] at h
 | _::_,_,.pair (.jU _ _) _,h=>by simp [cd] at h
 | _::_,_,.pair (.oM _ _) _,h=>by simp [cd] at h
 | _::_,_,.pair (.mp _) _,h=>by simp [cd] at h
 | _::_,_,.arr _ _,h=>by simp [cd] at h
 | _::_,_,.aK _,h=>by simp [cd] at h
 | _::_,_,.ptr _,h=>by simp [cd] at h
 | _::_,_,.dO _,h=>by simp [cd] at h
 | _::_,_,.jU _ _,h=>by simp [cd] at h
 | _::_,_,.oM _ _,h=>by simp [cd] at h
 | _::_,_,.mp _,h=>by simp [cd] at h
theorem wJ (n:Nat) (k:IntKind) (m:Int):Instr.sameBits n (.int k m) (.int k m)=true:=by cases n<;>simp [Instr.sameBits]
theorem sy {E:Env}:∀(fs:List Field) (i:Nat) (t:Ty),cd E fs i t=true→∀(x:t.T) (g:G) (vs:List Value),Vs g (aA t x) vs→(∀g' E8,Vs g' (aA t x) E8→E8=vs)∧∀n,((vs.zip vs).all fun (a,b)=>Instr.sameBits n a b)=true
 | [],_,_,h=>by simp [cd] at h
 | [_],_,.int k,_=>fun x g vs hv=>by
  obtain ⟨v,rfl,h1,_⟩:=Vs.mW (show Vs g [.v (.int k x)] vs from hv)
  cases h1
  refine ⟨fun g' E8 wv=>?_,fun n=>?_⟩
  ·obtain ⟨v',rfl,Xe,_⟩:=Vs.mW (show Vs g' [.v (.int k x)] E8 from wv)
   cases Xe;rfl
  ·exact (Bool.and_true _).trans (wJ n k x)
 | fd::fs,i,.pair (.int k) t,h=>fun x g vs hv=>by
  have h:(Nat.beq fd.offset i && mf E fd.type k && cd E fs (i+1) t)=true:=by
   cases fs<;>exact h
  simp only [zC] at h
  obtain ⟨v1,v2⟩:=Vs.split (show Vs g (aA (.int k) x.1++aA t x.2) vs from hv)
  obtain ⟨r1,r2⟩:=sy fs (i+1) t h.2 x.2 g _ v2
  obtain ⟨v,e1,h1,_⟩:=Vs.mW (show Vs g [.v (.int k x.1)] _ from v1)
  cases h1
  have Bg:vs=Value.int k x.1::vs.drop (aA (.int k) x.1).length:=by
   have:=zP (aA (.int k) x.1).length vs
   rw [e1] at this
   exact this.symm
  refine ⟨fun g' E8 wv=>?_,fun n=>?_⟩
  ·obtain ⟨v1',v2'⟩:=Vs.split (show Vs g' (aA (.int k) x.1++aA t x.2) E8 from wv)
   obtain ⟨v',e1',Xe,_⟩:=Vs.mW (show Vs g' [.v (.int k x.1)] _ from v1')
   cases Xe
   have Wh:E8=Value.int k x.1::E8.drop (aA (.int k) x.1).length:=by
    have:=zP (aA (.int k) x.1).length E8
    rw [e1'] at this
    exact this.symm
   rw [Wh,Bg,r1 _ _ v2']
  ·rw [Bg,List.zip_cons_cons,List.all_cons,r2 n]
   exact (Bool.and_true _).trans (wJ n k x.1)
 | [_],_,.bool,h=>by simp [cd] at h
 | _::_::_,_,.bool,h=>by simp [cd] at h
 | _::_::_,_,.int _,h=>by simp [cd] at h
 | _::_,_,.unit,h=>by simp [cd] at h
 | _::_,_,.pair .bool _,h=>by simp [cd] at h
 | _::_,_,.pair .unit _,h=>by simp [cd] at h
 | _::_,_,.pair (.pair _ _) _,h=>by simp [cd] at h
 | _::_,_,.pair (.arr _ _) _,h=>by simp [cd] at h
 | _::_,_,.pair (.aK _) _,h=>by simp [cd] at h
 | _::_,_,.pair (.ptr _) _,h=>by simp [cd] at h
 | _::_,_,.pair (.dO _) _,h=>by simp [cd] at h
 | _::_,_,.pair (.jU _ _) _,h=>by simp [cd] at h
 | _::_,_,.pair (.oM _ _) _,h=>by simp [cd] at h
 | _::_,_,.pair (.mp _) _,h=>by simp [cd] at h
 | _::_,_,.arr _ _,h=>by simp [cd] at h
 | _::_,_,.aK _,h=>by simp [cd] at h
 | _::_,_,.ptr _,h=>by simp [cd] at h
 | _::_,_,.dO _,h=>by simp [cd] at h
 | _::_,_,.jU _ _,h=>by simp [cd] at h
 | _::_,_,.oM _ _,h=>by simp [cd] at h
 | _::_,_,.mp _,h=>by simp [cd] at h
theorem CO {E:Env} {K:Nat} {e:cS} {ka:Bool} {t:Ty} (h:CP E K e ka t=true) {x y:t.T} (hxy:sH t x y=true) {g:G} {v v':Value} (h1:V g (bZ ka t x) v) (h2:V g (bZ ka t y) v'):v'=v∧Instr.sameBits 10000 v v=true:=by
 unfold CP at h
 split at h
 ·rename_i k hd
  cases ka with
  | true=>simp at h
  | false=>
   simp only [Bool.not_false,Bool.true_and] at h
   split at h
   ·split at h
    ·have:=tM hxy
     subst this
     cases h1;cases h2
     exact ⟨rfl,wJ _ _ _⟩
    ·cases h
   ·cases h
 ·rename_i fs hd
  simp only [zC] at h
  obtain ⟨⟨rfl,hq⟩,hs⟩:=h
  have:=sw _ _ _ hs _ _ hxy
  subst this
  have c1:=h1.cells rfl
  have c2:=h2.cells rfl
  obtain ⟨us,rfl⟩:=h1.wa rfl
  obtain ⟨us',rfl⟩:=h2.wa rfl
  obtain ⟨r1,r2⟩:=sy _ _ _ hs x g _ c1
  have e:=r1 _ _ c2
  have e:us'=us:=Array.ext' e
  subst e
  refine ⟨rfl,?_⟩
  have:=r2 9999
  simp only [Value.cells] at this
  rw [show (10000:Nat)=9999+1 from rfl,Instr.sameBits]
  simp only [this,Bool.and_true,beq_self_eq_true]
 ·cases h
end
section
variable {α β σ ρ:Type}
theorem xE {x:Option α} {f:α→Option β} {a:α} (h:x=some a):bd x f=f a:=by rw [h];rfl
theorem I5 {x:Option α} {n:Option β} {s:α→Option β} {a:α} (h:x=some a):opt x n s=s a:=by rw [h];rfl
theorem I4 {x:Option α} {n:Option β} {s:α→Option β} (h:x=none):opt x n s=n:=by rw [h];rfl
theorem Zm {b:Bool} {x y:Option α} (h:b=true):br b x y=x:=by rw [h];rfl
theorem Zn {b:Bool} {x y:Option α} (h:b=false):br b x y=y:=by rw [h];rfl
theorem vI {p:Prop} {inst:Decidable p} {x:Option α} (h:p):@gd α p inst x=x:=if_pos h
theorem dH {a b:Int} {x y:Option α} (h:a<b):br (a_ a b) x y=x:=by unfold a_;rw [decide_eq_true h];rfl
theorem dm {a b:Int} {x y:Option α} (h:¬a<b):br (a_ a b) x y=y:=by unfold a_;rw [decide_eq_false h];rfl
theorem dI {a b:Int} {x y:Option α} (h:a≤b):br (ck a b) x y=x:=by unfold ck;rw [decide_eq_true h];rfl
theorem dJ {a b:Int} {x y:Option α} (h:¬a≤b):br (ck a b) x y=y:=by unfold ck;rw [decide_eq_false h];rfl
theorem bo {a b:Int} {x y:Option α} (h:a=b):br (ae a b) x y=x:=by unfold ae;rw [decide_eq_true h];rfl
theorem bp {a b:Int} {x y:Option α} (h:¬a=b):br (ae a b) x y=y:=by unfold ae;rw [decide_eq_false h];rfl
theorem gM {a:Int} {x:Option α}:gd (bc a) x=br (ck 0 a) x none:=by unfold ck;by_cases h:0≤a<;>simp [gd,bc,h,br]
theorem gI {a b:Nat} {x:Option α}:gd (bf a b) x=br (a_ a b) x none:=by unfold a_;by_cases h:a<b<;>simp [gd,bf,h,br]
theorem gJ {a b:Nat} {x:Option α}:gd (bB a b) x=br (ck a b) x none:=by unfold ck;by_cases h:a≤b<;>simp [gd,bB,h,br]
theorem gK {a b:Nat} {x:Option α}:gd (neq a b) x=br (ae a b) x none:=by
 unfold ae
 by_cases h:a=b
 ·simp [gd,neq,h,br]
 ·have h2:¬(a:Int)=b:=by omega
  simp [gd,neq,h,h2,br]
theorem gN {a b:Int} {x:Option α}:gd (Gs a b) x=br (ae a b) x none:=by unfold ae;by_cases h:a=b<;>simp [gd,Gs,h,br]
theorem gL {a:Int} {x:Option α}:gd (EN a) x=br (ae a 0) none x:=by unfold ae;by_cases h:a=0<;>simp [gd,EN,h,br]
theorem dG {b:Bool} {x y:Option α}:br (aw b) x y=br b y x:=by cases b<;>rfl
theorem LF {a b:Bool} {x y:Option α}:br (aX a b) x y=br a (br b x y) y:=by cases a<;>cases b<;>rfl
theorem wrap_i64 (n:Int):IntKind.i64.wrap n=(n+9223372036854775808)%18446744073709551616-9223372036854775808:=by
 simp [IntKind.wrap,IntKind.bits,IntKind.signed]
 split<;>omega
theorem wrap_u64 (n:Int):IntKind.u64.wrap n=n%18446744073709551616:=by simp [IntKind.wrap,IntKind.bits,IntKind.signed]
theorem aS {a b:Int} (h : -9223372036854775808≤a+b∧a+b≤9223372036854775807):af .i64 a b=a+b:=by unfold af;rw [wrap_i64];omega
theorem bM {a b:Int} (h : -9223372036854775808≤a-b∧a-b≤9223372036854775807):aD .i64 a b=a-b:=by unfold aD;rw [wrap_i64];omega
theorem de {a b:Int} (h : -9223372036854775808≤a*b∧a*b≤9223372036854775807):dF .i64 a b=a*b:=by unfold dF;rw [wrap_i64];omega
theorem fT {a:Int} (h : -9223372036854775808≤a∧a≤9223372036854775807):dt .i64 a=a:=by unfold dt;rw [wrap_i64];omega
theorem gD {a:Int} (h:0≤a∧a≤18446744073709551615):dt .u64 a=a:=by unfold dt;rw [wrap_u64];omega
theorem cM {a b:Int} (h:0≤a):dq a b=a%b:=Int.tmod_eq_emod_of_nonneg h
theorem JQ {a b:Int} (h:0≤a):a.tdiv b=a / b:=Int.tdiv_eq_ediv_of_nonneg h
theorem d_ {a b:Int} (h:0≤a∧a≤9223372036854775807∧0<b):Aw .i64 a b=a / b:=by
 unfold Aw
 rw [JQ h.1,wrap_i64]
 have h1:0≤a / b:=Int.ediv_nonneg h.1 (by omega)
 have h2:a / b≤a:=Int.ediv_le_self b h.1
 omega
theorem jm (n:Nat):nN (n:Int)=n:=zE n
theorem fM (n:Nat):zN n=(n:Int):=rfl
theorem cJ (a:Int):nN a=a.toNat:=rfl
theorem bn (a:Int):bc a=(0≤a):=rfl
theorem bA (a b:Nat):bf a b=(a<b):=rfl
theorem dh (a b:Nat):bB a b=(a≤b):=rfl
theorem fE {d:α} {l:List α} {i:Nat} (h:i<l.length):nth d l i=l[i]:=by unfold nth;rw [zA,zD h];rfl
theorem bF {d x:α} {l:List α} {i:Nat} (h:l[i]?=some x):nth d l i=x:=by unfold nth;rw [zA,h];rfl
theorem FY {d x:α} {l:List α} {i j:Nat}:nth d (aU l i x) j=if i=j∧j<l.length then x else nth d l j:=by
 unfold nth aU
 rw [zA,zA,List.getElem?_set]
 by_cases h:i=j
 ·subst h
  by_cases h1:i<l.length
  ·simp [h1]
  ·simp [h1]
 ·simp [h]
theorem BX {l:List (Option (List α))} {j:Nat} {r:List α}:aY l j=some r↔l[j]?=some (some r):=by
 unfold aY
 rw [zA]
 cases h:l[j]? with
 | none=>simp
 | some x=>simp
theorem oW {l:List (Option (List α))} {j:Nat} {r:List α} (h:aY l j=some r):j<l.length:=(zB.1 (BX.1 h)).1
theorem xT {l:List (Option (List α))} {i j:Nat} {x:Option (List α)} (h:i<l.length):aY (aU l i x) j=if i=j then x else aY l j:=by
 unfold aY aU
 rw [zA,zA,List.getElem?_set]
 by_cases e:i=j
 ·subst e;simp [h]
 ·simp [e]
theorem cg {l:List (Option (List α))} {j:Nat} {r:List α} {x:Option (List α)} (h:aY l j=some r):aY (aU l j x) j=x:=by rw [xT (oW h),if_pos rfl]
theorem vj {d x:α} {l:List α} {i:Nat} (h:i<l.length):nth d (aU l i x) i=x:=by rw [FY,if_pos ⟨rfl,h⟩]
theorem xU {l:List (Option (List α))} {j:Nat} {x:Option (List α)}:aY (cat l [x]) j=if j=l.length then x else aY l j:=by
 unfold aY cat
 rw [zA,zA]
 by_cases e:j=l.length
 ·subst e;simp
 ·rw [if_neg e]
  by_cases h1:j<l.length
  ·rw [zK h1]
  ·rw [zb (by simp;omega),zb (by omega)]
theorem FZ {d x:α} {l:List α} {j:Nat}:nth d (cat l [x]) j=if j=l.length then x else nth d l j:=by
 unfold nth cat
 rw [zA,zA]
 by_cases e:j=l.length
 ·subst e;simp
 ·rw [if_neg e]
  by_cases h1:j<l.length
  ·rw [zK h1]
  ·rw [zb (by simp;omega),zb (by omega)]
theorem gE {l:List (Option (List α))} {x:Option (List α)}:aY (cat l [x]) l.length=x:=by rw [xU,if_pos rfl]
theorem vk {d x:α} {l:List α}:nth d (cat l [x]) l.length=x:=by rw [FZ,if_pos rfl]
theorem np {n:Nat} {l:List α}:(tk n l).length=min n l.length:=List.length_take
theorem nF {n:Nat} {l:List α}:(dr n l).length=l.length-n:=List.length_drop
theorem ll {n:Nat} {x:α}:(rep n x).length=n:=List.length_replicate
theorem iR {d:α} {l:List α} {n:Nat} {x:α}:(aU l n x).length=l.length:=zM
theorem wX {l k:List α}:(cat l k).length=l.length+k.length:=zY
theorem aF (l:List α):len l=l.length:=rfl
theorem DY {S R B:List α} {i m m' k:Nat} (hi:i<S.length) (hk:k=S.length-(i+1)) (hm:m=i+k) (KN:m'=i+k):tk m (cat (tk m' (cat (tk i S) (cat (tk k (dr (i+1) S)) R))) B)=S.eraseIdx i:=by
 have e1:tk k (dr (i+1) S)=S.drop (i+1):=za (by simp [dr];omega)
 rw [e1]
 unfold tk cat
 have hl:(S.take i++S.drop (i+1)).length=i+k:=by simp;omega
 have h2:List.take m' (List.take i S++(List.drop (i+1) S++R))=List.take i S++List.drop (i+1) S:=by
  rw [←List.append_assoc];exact List.take_left' (hl.trans KN.symm)
 rw [h2]
 exact (List.take_left' (hl.trans hm.symm)).trans (List.eraseIdx_eq_take_drop_succ _ _).symm
def Bp (f:(σ→Option α)→σ→Option α) (s:σ) (x:Option α) (k:Nat):Prop:=∀n,k<n→iter f n s=x
theorem Bp.stop {f:(σ→Option α)→σ→Option α} {s:σ} {x:Option α} (k:Nat) (h:∀g,f g s=x):Bp f s x k:=fun n hn=>by
 cases n with
 | zero=>omega
 | succ n=>exact h _
theorem Bp.step {f:(σ→Option α)→σ→Option α} {s s':σ} {x:Option α} {k:Nat} (h:Bp f s' x k) (e:∀g:σ→Option α,f g s=g s'):Bp f s x (k+1):=fun n hn=>by
 cases n with
 | zero=>omega
 | succ n=>exact (e _).trans (h n (by omega))
theorem Bp.loop {f:(σ→Option α)→σ→Option α} {s:σ} {x:Option α} {k:Nat} (h:Bp f s x k) (hk:k<lQ):Go.Bm.loop f s=x:=by rw [qa];exact h lQ hk
theorem Jb {f:(σ→Option α)→σ→Option α} {s:σ}:Go.Bm.loop f s=f (fun s=>f (fun s=>f (iter f 9223372036854775805) s) s) s:=by rw [qa];rfl
theorem lx {f:(σ→Option α)→σ→Option α} (mk:Nat→σ) (res:Nat→Option α) (N:Nat) (hN:N<lQ) (he:∀g,f g (mk N)=res N) (h:∀k,k<N→(∀g,f g (mk k)=res k)∨(res k=res (k+1)∧∀g,f g (mk k)=g (mk (k+1)))):Go.Bm.loop f (mk 0)=res 0:=by
  have key:∀m k:Nat,k+m=N→Bp f (mk k) (res k) m:=by
    intro m
    induction m with
    | zero=>
              intro k hk;obtain rfl:k=N:=by omega
              exact .stop 0 he
    | succ m ih=>
      intro k hk
      rcases h k (by omega) with h1 | ⟨h1,h2⟩
      · exact .stop _ h1
      · rw [h1];exact .step (ih (k+1) (by omega)) (fun g=>h2 g)
  exact (key N 0 (by omega)).loop hN
end
theorem bits_mask (a:Int) (j:Nat) (hj:j<63):bits .and .i64 a (2^j-1)=a%2^j:=by
 have h1:(BitVec.ofInt 64 (2^j-1)).toNat=2^j-1:=by
  rw [BitVec.toNat_ofInt]
  have h2:(2:Int)^j<2^64:=by
   have:(2:Nat)^j<2^64:=Nat.pow_lt_pow_right (by omega) (by omega)
   exact_mod_cast this
  have h3:(0:Int)<2^j:=by
   have:0<(2:Nat)^j:=Nat.pow_pos (by omega)
   exact_mod_cast this
  rw [Int.emod_eq_of_lt (by omega) (by simpa using (by omega:(2:Int)^j-1<2^64))]
  have:((2:Int)^j-1)=(((2:Nat)^j-1:Nat):Int):=by
   have:0<(2:Nat)^j:=Nat.pow_pos (by omega)
   rw [Int.natCast_sub (by omega)];simp
  rw [this];simp
 have h4:((BitVec.ofInt 64 a).toNat &&& (2^j-1))=(BitVec.ofInt 64 a).toNat%2^j:=Nat.and_two_pow_sub_one_eq_mod _ _
 have h5:(((BitVec.ofInt 64 a).toNat%2^j:Nat):Int)=a%2^j:=by
  rw [BitVec.toNat_ofInt]
  have hd:(2:Int)^j ∣ 2^64:=⟨2^(64-j),by rw [←Int.pow_add];congr 1;omega⟩
  rw [Int.natCast_emod,Int.toNat_of_nonneg (Int.emod_nonneg _ (by decide))]
  have:=Int.emod_emod_of_dvd a hd
  simpa using this
 have h6:0≤a%2^j:=Int.emod_nonneg _ (by
  have:0<(2:Nat)^j:=Nat.pow_pos (by omega)
  have:(0:Int)<2^j:=by exact_mod_cast this
  omega)
 have h7:a%2^j<9223372036854775808:=by
  have hp:(0:Int)<2^j:=by
   have:0<(2:Nat)^j:=Nat.pow_pos (by omega)
   exact_mod_cast this
  have h8:=Int.emod_lt_of_pos a hp
  have h9:(2:Int)^j≤2^63:=by
   have:(2:Nat)^j≤2^63:=Nat.pow_le_pow_right (by omega) (by omega)
   exact_mod_cast this
  omega
 have Xd:(BitVec.ofInt 64 a &&& BitVec.ofInt 64 (2^j-1)).toNat=(BitVec.ofInt 64 a).toNat%2^j:=by rw [BitVec.toNat_and,h1,h4]
 show IntKind.i64.wrap ((BitVec.ofInt 64 a &&& BitVec.ofInt 64 (2^j-1)).toNat:Int)=_
 rw [Xd,h5]
 exact (by rw [wrap_i64];omega)
theorem su {n:Nat} {a:Int} (h0:0≤a) (h1:a<2^n):(BitVec.ofInt n a).toNat=a.toNat:=by
 rw [BitVec.toNat_ofInt,Int.emod_eq_of_lt h0 (by exact_mod_cast h1)]
theorem v7 {a b:Int} (ha:0≤a∧a<9223372036854775808) (hb:0≤b∧b<9223372036854775808):bits .or .i64 a b=((a.toNat ||| b.toNat:Nat):Int):=by
 show IntKind.i64.wrap ((BitVec.ofInt 64 a ||| BitVec.ofInt 64 b).toNat:Int)=_
 rw [BitVec.toNat_or,su ha.1 (by omega),su hb.1 (by omega)]
 have:a.toNat ||| b.toNat<2^63:=Nat.or_lt_two_pow (by omega) (by omega)
 exact (by rw [wrap_i64];omega)
theorem kr {a m:Int} (j:Nat) (hj:j<63) (hm:m=2^j-1):bits .and .i64 a m=a%2^j:=by rw [hm,bits_mask a j hj]
theorem ya {a b:Int} (ha:0≤a∧a<9223372036854775808) (hb:0≤b∧b<9223372036854775808):dq (bits .or .i64 a b) 8=0↔a%8=0∧b%8=0:=by
 rw [v7 ha hb,cM (by omega)]
 obtain ⟨x,rfl⟩:=Int.eq_ofNat_of_zero_le ha.1
 obtain ⟨y,rfl⟩:=Int.eq_ofNat_of_zero_le hb.1
 have h:(x ||| y)%8=(x%8) ||| (y%8):=by
  have:=Nat.or_mod_two_pow (a:=x) (b:=y) (n:=3)
  simpa using this
 have h2:(x ||| y)%8=0↔x%8=0∧y%8=0:=by rw [h];exact Nat.or_eq_zero_iff
 simp only [zE]
 omega
theorem BS : ∀ k : Fin 64, 3 ≤ k.val → (7#64)[k.val]'k.isLt = false := by decide
theorem Hq {a:Int} (ha:0≤a∧a<9223372036854775808):bits .andNot .i64 a 7=a-a%8:=by
 obtain ⟨x,rfl⟩:=Int.eq_ofNat_of_zero_le ha.1
 have h1:(BitVec.ofInt 64 (x:Int) &&& ~~~ BitVec.ofInt 64 7).toNat=x-x%8:=by
  have hx:x<2^64:=by omega
  have e:BitVec.ofInt 64 (x:Int) &&& ~~~ BitVec.ofInt 64 7=(BitVec.ofNat 64 x >>> 3) <<< 3:=by
   rw [BitVec.ofInt_natCast]
   ext i hi
   simp only [BitVec.getElem_and,BitVec.getElem_not,BitVec.getElem_shiftLeft]
   by_cases h3:i<3
   ·have:i=0∨i=1∨i=2:=by omega
    rcases this with rfl | rfl | rfl<;>simp<;>decide
   ·have h7:(BitVec.ofInt 64 7)[i]=false:=by
     have:BitVec.ofInt 64 7=7#64:=rfl
     rw [this]
     exact BS ⟨i,hi⟩ (by simpa using h3)
    rw [h7]
    simp [h3]
    congr 1
    omega
  rw [e]
  simp only [BitVec.toNat_shiftLeft,BitVec.toNat_ushiftRight,BitVec.toNat_ofNat,Nat.mod_eq_of_lt hx,Nat.shiftRight_eq_div_pow,Nat.shiftLeft_eq]
  omega
 show IntKind.i64.wrap ((BitVec.ofInt 64 (x:Int) &&& ~~~ BitVec.ofInt 64 7).toNat:Int)=_
 rw [h1,wrap_i64];omega
end Go.Bm
namespace Go.oQ
open Go.Bm
abbrev ux:=Int×Int×Int×Int
abbrev Xt:=Int×Int
abbrev pA:=Int×Bool
abbrev oK:=Int×Int×Int
abbrev Hnd:=Int×Int×Int
abbrev mE:=Int×Int×Int×Int
abbrev lS:=Int×Int×Int×Int×Int×Int×Int
def within (a lo hi:Int):Bool:=decide (lo≤a) && decide (a≤hi)
theorem ku {a lo hi:Int}:within a lo hi=true↔lo≤a∧a≤hi:=by simp [within]
def eM (p:mE):Bool:=within p.1 1 8 && (within p.2.1 1 4 && (within p.2.2.1 0 2048 && (within p.2.2.2 0 8192 && (decide (p.2.2.1%8=0) && decide (p.2.2.2%8=0)))))
theorem fa {p:mE}:eM p=true↔(1≤p.1∧p.1≤8)∧(1≤p.2.1∧p.2.1≤4)∧(0≤p.2.2.1∧p.2.2.1≤2048)∧(0≤p.2.2.2∧p.2.2.2≤8192)∧p.2.2.1%8=0∧p.2.2.2%8=0:=by
 simp [eM,ku]
def HD (n:Int):Int:=n+7-(n+7)%8
def fG (c:ux):Bool:=within c.2.2.2 0 16777215 && (if c.1=0∨c.1=1 then decide (c.2.1=0) && decide (c.2.2.1 = -1) else if c.1=2 then within c.2.1 1 7 && within c.2.2.1 (-1) 7 else if c.1=3 then decide (c.2.1=0) && within c.2.2.1 (-1) 7 else false)
def xA:ux:=(0,0,0,0)
def rf (c:ux) (fr:Int):ux×Int:=
 if fG c=false∨within fr 0 7=false then (xA,1)
 else if c.1=0 then (xA,11)
 else if c.1=3 then (xA,10)
 else if c.1=1 then ((2,c.2.1+1,fr,c.2.2.2),0)
 else if c.2.2.1≠fr then (xA,15)
 else if c.2.1=7 then (xA,16)
 else ((c.1,c.2.1+1,c.2.2.1,c.2.2.2),0)
def lO (c:ux) (s:Int):Int:=if fG c=false then 1 else if c.1≠s then 11 else 0
def re (c:ux):ux×Int:=if lO c 2≠0 then (xA,lO c 2) else if c.2.1=1 then ((3,0,c.2.2.1,c.2.2.2),0) else ((c.1,c.2.1-1,c.2.2.1,c.2.2.2),0)
def sv (e:Int):Int:=(e+1)%16777216
def uc (c:ux):ux×Int:=if lO c 3≠0 then (xA,lO c 3) else ((1,0,-1,sv c.2.2.2),0)
def LJ (l:List pA):Int:=match l.getLast? with
 | some e=>e.1
 | none=>0
def k_:List pA→Int→Option Nat
 | [],_=>none
 | e::l,s=>if e=(s,true) then some 0 else (k_ l s).map (· + 1)
def reach (l:List pA) (s:Int):Bool:=decide (s=0) || (k_ l s).isSome
def parent (l:List pA) (s:Int):Int:=match k_ l s with
 | some i=>LJ (l.take i)
 | none=>-1
def uq (l:List pA) (s:Int):Nat→Int→Bool
 | 0,_=>false
 | n+1,b=>if b=s then true else uq l s n (parent l b)
def JG (l:List pA) (s b:Int):Bool:=decide (s=0) || uq l s 9 b
def pb (jS bytes:Int):Int×Int:=if within jS 0 6=false∨within bytes 0 512=false then (0,1) else (2+jS+(bytes+7) / 8,0)
end Go.oQ
namespace Go.Bm
section
variable {α β σ ρ:Type}
def Ok (x:Option α) (P:α→Prop):Prop:=∃a,x=some a∧P a
theorem Ok.some {a:α} {P:α→Prop} (h:P a):Ok (some a) P:=⟨a,rfl,h⟩
theorem Ok.mono {x:Option α} {P Q:α→Prop} (h:Ok x P) (k:∀a,P a→Q a):Ok x Q:=let ⟨a,e,h⟩:=h;⟨a,e,k a h⟩
theorem Ok.bd {x:Option α} {f:α→Option β} {Q:α→Prop} {P:β→Prop} (h:Ok x Q) (k:∀a,Q a→Ok (f a) P):Ok (Go.Bm.bd x f) P:=by
 obtain ⟨a,rfl,h⟩:=h
 exact k a h
theorem Ok.gC {x:Option α} {f:α→Option β} {a:α} {P:β→Prop} (h:x=Option.some a) (k:Ok (f a) P):Ok (Go.Bm.bd x f) P:=by rw [xE h];exact k
theorem Ok.br {c:Bool} {x y:Option α} {P:α→Prop} (h1:c=true→Ok x P) (h2:c=false→Ok y P):Ok (Go.Bm.br c x y) P:=by
 cases c with
 | true=>exact h1 rfl
 | false=>exact h2 rfl
theorem Ok.gd {p:Prop} {inst:Decidable p} {x:Option α} {P:α→Prop} (h:p) (k:Ok x P):Ok (@Go.Bm.gd α p inst x) P:=by rw [vI h];exact k
theorem Ok.gG {o:Option α} {a:α} {n:Option β} {s:α→Option β} {P:β→Prop} (h:o=Option.some a) (k:Ok (s a) P):Ok (opt o n s) P:=by rw [I5 h];exact k
theorem Ok.zx {o:Option α} {n:Option β} {s:α→Option β} {P:β→Prop} (h:o=none) (k:Ok n P):Ok (opt o n s) P:=by rw [I4 h];exact k
theorem Ok.opt {o:Option α} {n:Option β} {s:α→Option β} {P:β→Prop} (h:o=none→Ok n P) (k:∀a,o=Option.some a→Ok (s a) P):Ok (Go.Bm.opt o n s) P:=by
 cases o with
 | none=>exact h rfl
 | some a=>exact k a rfl
theorem Ok.jn {f:(σ→Option ρ)→Option ρ} {K:σ→Option ρ} {P:ρ→Prop} (h:Ok (f K) P):Ok (Go.Bm.jn f K) P:=by rw [gH];exact h
theorem Ok.l7 {f:(σ→Option ρ)→Option ρ} {K:σ→Option ρ} {P:ρ→Prop} (Q:σ→Prop) (hK:∀s,Q s→Ok (K s) P) (h:∀k,(∀s,Q s→Ok (k s) P)→Ok (f k) P):Ok (Go.Bm.jn f K) P:=by rw [gH];exact h K hK
theorem Ok.loop {f:(σ→Option α)→σ→Option α} {P:α→Prop} (I:Nat→σ→Prop) (h:∀m s g,I m s→(∀m' s',m' < m→I m' s'→Ok (g s') P)→Ok (f g s) P) {N:Nat} {s0:σ} (hN:N<lQ) (h0:I N s0):Ok (Go.Bm.loop f s0) P:=by
 have key:∀m n s,m<n→I m s→Ok (iter f n s) P:=by
  intro m
  induction m using Nat.strongRecOn with
  | _ m ih=>
   intro n s hn hs
   cases n with
   | zero=>omega
   | succ n=>exact h m s (iter f n) hs (fun m' s' hm Ay=>ih m' hm n s' (by omega) Ay)
 rw [qa]
 exact key N lQ s0 hN h0
theorem dX {a b:Int}:a_ a b=true↔a<b:=decide_eq_true_iff
theorem od {a b:Int}:ck a b=true↔a≤b:=decide_eq_true_iff
theorem cU {a b:Int}:ae a b=true↔a=b:=decide_eq_true_iff
theorem iV {a b:Int}:a_ a b=false↔¬a<b:=decide_eq_false_iff_not
theorem dR {a b:Int}:ck a b=false↔¬a≤b:=decide_eq_false_iff_not
theorem cY {a b:Int}:ae a b=false↔¬a=b:=decide_eq_false_iff_not
theorem pF {a:Bool}:aw a=true↔a=false:=by cases a<;>simp [aw]
theorem hO {a:Bool}:aw a=false↔a=true:=by cases a<;>simp [aw]
end
section
open Go.RowKit
section
variable {P:Program} {E:Env} {o:Oper} {ρ:Operand→A} {h:H} {β:Type} {K:A→H→Fp→Option β} {r:β}
def w6:A→Bool
 | .agg _=>true
 | _=>false
theorem V.sc1 {g:G} {p:A} {v:Value} {cs:List A} (hv:V g p v) (ha:w6 p=false) (hc:p.cells=some cs):v.oneCell'=true:=by
 cases hv with
 | v x=>
  unfold A.cells at hc
  cases hx:v.oneCell' with
  | true=>rfl
  | false=>simp only [hx,cond_false] at hc;cases hc
 | agg=>cases ha
 | jz=>cases hc
 | un=>cases hc
 | cF=>cases hc
 | op r o v h0 h1=>exact V.Ah (.op r o v h0 h1)
 | os r z o v h0 h1=>exact V.Ah (.os r z o v h0 h1)
 | om r o v h0 h1=>exact V.Ah (.om r o v h0 h1)
 | tl t f l v hd=>exact hd.one
 | _=>rfl
def kR (a:Bool) (t:Ty) (p:A):Option t.T:=bif a then (match p with
 | .agg cs=>oN t cs
 | _=>none) else bif w6 p then none else (match p.cells with
 | some cs=>bif Nat.beq t.size 1 then oN t cs else none
 | none=>none)
theorem jY {a:Bool} {t:Ty} {p:A} {x:t.T} (hx:kR a t p=some x) {g:G} {v:Value} (hv:V g p v):V g (bZ a t x) v:=by
 unfold kR at hx
 unfold bZ
 cases a with
 | true=>
  simp only [cond_true] at hx ⊢
  split at hx
  ·rename_i cs
   obtain ⟨us,rfl⟩:=hv.wa rfl
   exact Vs.agg ((jg (g:=g) t cs x hx).2 _ (hv.cells rfl))
  ·cases hx
 | false=>
  simp only [cond_false] at hx ⊢
  cases ha:w6 p with
  | true=>rw [ha] at hx;cases hx
  | false=>
   rw [ha] at hx;simp only [cond_false] at hx
   split at hx
   ·rename_i cs hc
    obtain ⟨h1,hx⟩:=ah hx
    have h1:=beq_eq h1
    have L8:=(jg (g:=g) t cs x hx).2 _ (hv.cells hc)
    rw [ss (hv.sc1 ha hc)] at L8
    have hl:(aA t x).length=1:=by rw [bN];exact h1
    match he:aA t x,hl with
    | [c],_=>
     rw [he] at L8
     exact (L8.2 0 c v rfl rfl).1
   ·cases hx
theorem eX.conv {S S':Hp} {ρ':Operand→A} {pv:A} (hc:∀x∈o.op.operands,∀g v,V g (ρ x) v→V g (ρ' x) v) (k:eX P o ρ' S S' pv):eX P o ρ S S' pv:=
 fun g w a next Q hI hv K=>k g w a next Q hI (fun x hx=>hc x hx g _ (hv x hx)) K
def told (ρ:Operand→A) (y:Operand) (p:A):Operand→A:=fun z=>open Classical in if z=y then p else ρ z
theorem fY {ρ:Operand→A} {y:Operand} {p:A}:told ρ y p y=p:=if_pos rfl
theorem nS {ρ:Operand→A} {y z:Operand} {p:A} (h:z≠y):told ρ y p z=ρ z:=if_neg h
theorem oV {ρ:Operand→A} {y:Operand} {p:A} (h:∀g v,V g (ρ y) v→V g p v):∀(x:Operand) (g:G) (v:Value),V g (ρ x) v→V g (told ρ y p x) v:=fun x g v hv=>by
 by_cases hx:x=y
 ·subst hx;rw [fY];exact h g v hv
 ·rw [nS hx];exact hv
def Qp (h:H) (r j:Nat) (k:(ka:Bool)→(tk:Ty)→(va:Bool)→(tv:Ty)→List (tk.T×tv.T)→Option β):Option β:=match bw h.rg r with
 | some ⟨_,.map ka tk va tv,c⟩=>bif Nat.blt r 64 then k ka tk va tv (nth (α:=List (tk.T×tv.T)) [] c j) else none
 | _=>none
def ib (ka:Bool) (tk:Ty) (va:Bool) (tv:Ty) (es:List (tk.T×tv.T)):List (A×A):=es.map fun e=>(bZ ka tk e.1,bZ va tv e.2)
theorem zh {ka va:Bool} {tk tv:Ty} {c:List (List (tk.T×tv.T))} {j:Nat} (h:j<c.length):dP (.map ka tk va tv) c j=some (.cL (.map (ib ka tk va tv (nth [] c j)))):=by
 show (match kW (α:=List (tk.T×tv.T)) c j with | some es=>some (Ob.cL (.map (ib ka tk va tv es))) | none=>none)=_
 have e:kW c j=some (nth [] c j):=by simp [kW,nth,zA,zD h]
 rw [e]
theorem wR {q j:Nat} {k:(ka:Bool)→(tk:Ty)→(va:Bool)→(tv:Ty)→List (tk.T×tv.T)→Option β} (hr:Qp h q j k=some r):∃(ka:Bool) (tk:Ty) (va:Bool) (tv:Ty) (es:List (tk.T×tv.T)),k ka tk va tv es=some r∧q<64∧(∃x:Rg,bw h.rg q=some x∧∃c:List (List (tk.T×tv.T)),x=⟨x.r,.map ka tk va tv,c⟩∧es=nth [] c j) ∧
  ∀g S (w:World) b s,Inv g S w→S.ob (fj q j)=(hp h).ob (fj q j)→(S.fr (fj q j)↔(hp h).fr (fj q j))→g.bq (fj q j)=some (some b,s)→S.ob (fj q j)=some (.cL (.map (ib ka tk va tv es))):=by
 unfold Qp at hr
 split at hr
 ·rename_i rr ka tk va tv c hf
  obtain ⟨h1,h2⟩:=ah hr
  have h3:q<64:=bb h1
  refine ⟨ka,tk,va,tv,_,h2,h3,⟨_,hf,c,rfl,rfl⟩,fun g S w b s hI e e2 hg=>?_⟩
  have eg:j<List.length (α:=List (tk.T×tv.T)) c:=by
   rcases Nat.lt_or_ge j (List.length (α:=List (tk.T×tv.T)) c) with eg | uC
   ·exact eg
   ·have:S.fr (fj q j):=e2.2 (by rw [gm.2,fU h3 hf];exact uC)
    have:=hI.fresh _ this
    rw [this] at hg;cases hg
  rw [e,gm.1,kO h3 hf]
  exact zh eg
 ·cases hr
def As (ok:Bool) (z:A) (res:Option (Nat×A)) (h:H) (T:Fp) (K:A→H→Fp→Option β):Option β:=bif ok then K (.jz [y7 z res,.v (.bool res.isSome)]) h T else BL (y7 z res) (fun v=>K v h T)
theorem yj {ok:Bool} {z:A} {res:Option (Nat×A)} {T:List Nat} (hd:∀c,o.op≠.defer c) (hr:As ok z res h (.rd T) K=some r) (k:∀S2,Agree (.rd T) (hp h) S2→eX P o ρ S2 S2 (bif ok then .jz [y7 z res,.v (.bool res.isSome)] else y7 z res)):Out P o ρ h K r:=by
 unfold As at hr
 cases ok with
 | true=>exact .read T hr k hd
 | false=>exact .sp hr (.read _ k hd)
def Kt (E:Env) (T:Nat) (ok:Bool) (px py:A) (h:H) (K:A→H→Fp→Option β):Option β:=match ct E.dN T with
 | some ⟨.map KT VT,_,_,_,_,_,_⟩=>match ct E.dN KT,ct E.dN VT with
  | some e,some e2=>match Bu e2.zero with
   | some z=>match px with
    | .mp (.loc q)=>match h.t.get q with
     | some (.cL (.map es))=>match iW E KT e.d py py with
      | some _=>bif lM E e.d && Nat.blt q 16777216 then sF (iW E KT e.d py) es 0 (fun res=>As ok z res h (.rd [du q]) K) else none
      | none=>none
     | _=>none
    | .mp (.eG q j)=>Qp h q j (fun ka tk va tv es=>bif CP E KT e ka tk && lM E e.d then (match kR ka tk py with
     | some x=>opt (EM (sH tk x) es 0) (As ok z none h (.rd [ic q]) K) (fun p=>As ok z (some (p.1,bZ va tv p.2)) h (.rd [ic q]) K)
     | none=>none) else none)
    | _=>none
   | none=>none
  | _,_=>none
 | _=>none
theorem Gi (hE:bW P E) {T:Nat} {x y:Operand} {ok:Bool} (ho:o.op = .lookup T x y ok) (hr:Kt E T ok (ρ x) (ρ y) h K=some r):Out P o ρ h K r:=by
 have hd:∀c,o.op≠.defer c:=by rw [ho];intro c e;cases e
 unfold Kt at hr
 split at hr
 ·rename_i KT VT _ _ _ _ _ _ ht
  have hT:=(hE.dN _ _ ht).u
  split at hr
  ·rename_i e e2 he QZ
   obtain ⟨i,t1,t2,t3,t4,t5,t6⟩:=(hE.dN _ _ QZ).ti
   split at hr
   ·rename_i z hz
    have hzz:=Bt hz t6
    split at hr
    ·rename_i q hx
     split at hr
     ·rename_i es hg
      split at hr
      ·rename_i b hs
       obtain ⟨h1,hr⟩:=ah hr
       simp only [zC] at h1
       have hq:=bb h1.2
       obtain ⟨res,k1,k2⟩:=oB _ _ _ hr
       have eY:(hp h).ob q=some (.cL (.map es)):=by rw [j5 hq];unfold fH;rw [hg];rfl
       exact yj hd k1 (fun S2 hA=>qJ hE ho hT he QZ h1.1 hs hx ((hA q (aB hq (.head _))).1.trans eY) k2 hzz)
      ·cases hr
     ·cases hr
    ·rename_i q j hx
     obtain ⟨ka,tk,va,tv,es,hr,hq,_,eY⟩:=wR hr
     obtain ⟨h1,hr⟩:=ah hr
     simp only [zC] at h1
     split at hr
     ·rename_i kx qU
      have ki:x≠y:=fun e=>by
       rw [←e,hx] at qU
       unfold kR at qU
       cases ka with
       | true=>cases qU
       | false=>
        simp only [cond_false,w6,A.cells] at qU
        obtain ⟨_,qU⟩:=ah qU
        have hs:=h1.1
        unfold CP at hs
        split at hs
        ·simp only [Bool.not_false,Bool.true_and] at hs
         split at hs
         ·simp [oN] at qU
         ·cases hs
        ·simp at hs
        ·cases hs
      have main:∀res,EM (sH tk kx) es 0=res→As ok z (res.map fun p=>(p.1,bZ va tv p.2)) h (.rd [ic q]) K=some r→Out P o ρ h K r:=fun res hm hr=>by
       refine yj hd hr (fun S2 hA=>eX.bq fun g w a hI hv=>?_)
       have uB:=hv x (by simp [ho,Op.operands])
       rw [hx] at uB
       have ha:=hA (fj q j) (b9 (r:=q) (j:=j) hq (.head _))
       have vC:∃b s,g.bq (fj q j)=some (some b,s):=by
        generalize a.eval x=vx at uB
        cases uB with
        | mp _ b s bO=>exact ⟨b,s,bO⟩
       obtain ⟨b,s,bO⟩:=vC
       have dY:=eY g S2 w b s hI ha.1 ha.2 bO
       refine eX.conv (ρ':=told ρ y (bZ ka tk kx)) (fun x _ g v hv=>oV (fun g v hv=>jY qU hv) x g v hv) ?_
       have hf:=ko (va:=va) (tv:=tv) he h1.1 kx es 0
       rw [hm] at hf
       exact qJ (X:=.eG q j) (es:=ib ka tk va tv es) hE ho hT he QZ h1.2 (b:=sH tk kx kx) (by rw [fY];exact tF he h1.1 kx kx) (by rw [nS ki,hx]) dY (by rw [fY];exact hf) hzz
      rcases ik hr with ⟨e,hr⟩ | ⟨p,e,hr⟩
      ·exact main none e hr
      ·exact main (some p) e hr
     ·cases hr
    ·cases hr
   ·cases hr
  ·cases hr
 ·cases hr
def Qq (h:H) (K:A→H→Fp→Option β):Option β:=mX (.cL (.map [])) h (fun q h'=>K (.mp (.loc q)) h' (.wr [du q]))
theorem Gg {T:Nat} (ho:o.op = .makeMap T none) (hr:Qq h K=some r):Out P o ρ h K r:=by
 have hd:∀c,o.op≠.defer c:=by rw [ho];intro c e;cases e
 obtain ⟨h',k1,hq,hf,hh⟩:=fP hr
 exact ⟨_,_,_,k1,.of _ hh rfl (fun u hu=>by rcases zF.1 hu with rfl;exact aB (o:=h.aR) hq (.head _)) (fun S2 hA=>ve ho ((hA _ (aB hq (.head _))).2.2 hf)) hd⟩
def zn (h:H) (q j:Nat) (ka:Bool) (tk:Ty) (va:Bool) (tv:Ty) (es:List (tk.T×tv.T)) (k:H→Option β):Option β:=bif vr h (ic q) then none else match bw h.rg q with
 | some ⟨_,.map V6 TN UM TL,c⟩=>if ka=V6∧va=UM then (match fL (.aK (.pair tk tv)) (.aK (.pair TN TL)) es with
  | some nL=>k { h with rg:=jh h.rg q (.map V6 TN UM TL) (aU (α:=List (TN.T×TL.T)) c j nL) }
  | none=>none) else none
 | _=>none
theorem qz {ka va:Bool} {tk tv:Ty} {c:List (List (tk.T×tv.T))} {j:Nat} {es:List (tk.T×tv.T)} (hj:j<c.length) (i:Nat):dP (.map ka tk va tv) (aU c j es) i=if i=j then some (.cL (.map (ib ka tk va tv es))) else dP (.map ka tk va tv) c i:=by
 show (match kW (α:=List (tk.T×tv.T)) (aU c j es) i with | some es=>some (Ob.cL (.map (ib ka tk va tv es))) | none=>none)=if i=j then some (.cL (.map (ib ka tk va tv es))) else (match kW (α:=List (tk.T×tv.T)) c i with | some es=>some (Ob.cL (.map (ib ka tk va tv es))) | none=>none)
 rw [ou]
 by_cases h:i=j
 ·rw [if_pos ⟨h,hj⟩,if_pos h]
 ·rw [if_neg (fun k=>h k.1),if_neg h]
theorem td {q j:Nat} {ka:Bool} {tk:Ty} {va:Bool} {tv:Ty} {es:List (tk.T×tv.T)} {k:H→Option β} (h3:q<64) (hr:zn h q j ka tk va tv es k=some r):∃h',k h'=some r∧wj h h' (.eG q j) (.cL (.map (ib ka tk va tv es))):=by
 obtain ⟨_,hr⟩:=jb hr
 split at hr
 ·rename_i rr V6 TN UM TL c hf
  split at hr
  ·rename_i e
   obtain ⟨rfl,rfl⟩:=e
   split at hr
   rotate_left
   ·cases hr
   rename_i nL qb
   obtain ⟨e,qb⟩:=cp qb
   cases e
   obtain rfl:es=nL:=qb
   refine ⟨_,hr,fun i hi=>?_,fun nB=>?_⟩
   ·have hn:=qm h3 hi
    have:=lB (h:=h) (k:=.map ka tk va tv) (c:=aU (α:=List (tk.T×tv.T)) c j es) hf i
    rw [if_neg hn,if_neg hn] at this
    exact this
   ·have eg:j<List.length (α:=List (tk.T×tv.T)) c:=by
     rcases Nat.lt_or_ge j (List.length (α:=List (tk.T×tv.T)) c) with eg | uC
     ·exact eg
     ·exact absurd (by rw [show (Ref.eG q j).id=fj q j from rfl,gm.2,fU h3 hf];exact uC) nB
    exact qS (j:=j) (u:=.set (fj q j) _) h3 hf (pW (α:=List (tk.T×tv.T)) c j _) (fun i hi=>by rw [qz (c:=c) eg,if_neg hi]) rfl (by rw [qz (c:=c) eg,if_pos rfl];exact wH) rfl
  ·cases hr
 ·cases hr
def yg (E:Env) (T:Nat) (ins ne:Bool) (px py pz:A) (h:H) (K:A→H→Fp→Option β):Option β:=match ct E.dN T with
 | some ⟨.map KT _,_,_,_,_,_,_⟩=>match ct E.dN KT with
  | some e=>match px with
   | .mp (.loc q)=>match h.t.get q with
    | some (.cL (.map es))=>match iW E KT e.d py py with
     | some _=>bif lM E e.d && Nat.blt q 16777216 && !(vr h (du q)) then sF (iW E KT e.d py) es 0 (fun res=>match res with
      | none=>ff h.t q (some (.cL (.map (es++[(py,pz)])))) (fun t1=>K .cF { h with t:=t1 } (.wr [du q]))
      | some _=>none) else none
     | none=>none
    | _=>none
   | .mp (.eG q j)=>Qp h q j (fun ka tk va tv es=>bif CP E KT e ka tk && lM E e.d && ne then (match kR ka tk py,kR va tv pz with
    | some x,some y=>opt (EM (sH tk x) es 0) (zn h q j ka tk va tv (cat es [(x,y)]) (fun h'=>K .cF h' (.wr [ic q])))
     (fun p=>bif ins then none else zn h q j ka tk va tv (Ko es p.1 y) (fun h'=>K .cF h' (.wr [ic q])))
    | _,_=>none) else none)
   | _=>none
  | none=>none
 | _=>none
theorem vo {κ α:Type} {p:κ→Bool}:∀(l:List (κ×α)) (i n:Nat) (v:α),EM p l i=some (n,v)→∃m k,n=i+m∧l[m]?=some (k,v)∧p k=true
 | [],_,_,_,h=>by cases h
 | (k,v)::l,i,n,v',h=>by
  unfold EM at h
  cases hk:p k with
  | true=>rw [hk] at h;cases h;exact ⟨0,k,rfl,rfl,hk⟩
  | false=>
   rw [hk] at h
   obtain ⟨m,k',h1,h2,h3⟩:=vo l (i+1) n v' h
   exact ⟨m+1,k',by omega,h2,h3⟩
theorem V.Gd {g:G} {X:Ref} {v:Value} (hv:V g (.mp X) v):∃b s,g.bq X.id=some (some b,s):=by
 cases hv with
 | mp _ b s bO=>exact ⟨b,s,bO⟩
theorem uY {E:Env} {K:Nat} {e:cS} {ka:Bool} {tk:Ty} {X:Ref} {kx:tk.T} (hs:CP E K e ka tk=true) (qU:kR ka tk (.mp X)=some kx):False:=by
 unfold kR at qU
 cases ka with
 | true=>cases qU
 | false=>
  simp only [cond_false,w6,A.cells] at qU
  obtain ⟨_,qU⟩:=ah qU
  unfold CP at hs
  split at hs
  ·simp only [Bool.not_false,Bool.true_and] at hs
   split at hs
   ·simp [oN] at qU
   ·cases hs
  ·simp at hs
  ·cases hs
theorem vm (hE:bW P E) {T:Nat} {x y z:Operand} {ins ne:Bool} (hzy:ne=true→z≠y) (ho:(ins=false∧o.op = .mapUpdate T x y z)∨(ins=true∧o.op = .insert T x y z)) (hr:yg E T ins ne (ρ x) (ρ y) (ρ z) h K=some r):Out P o ρ h K r:=by
 have hd:∀c,o.op≠.defer c:=by rcases ho with ⟨_,ho⟩ | ⟨_,ho⟩<;>(rw [ho];intro c e;cases e)
 have De:o.op = .mapUpdate T x y z∨o.op = .insert T x y z:=by rcases ho with ⟨_,ho⟩ | ⟨_,ho⟩<;>simp [ho]
 have nA:x∈o.op.operands:=by rcases De with ho | ho<;>simp [ho,Op.operands]
 unfold yg at hr
 split at hr
 ·rename_i KT VT _ _ _ _ _ _ ht
  have hT:=(hE.dN _ _ ht).u
  split at hr
  ·rename_i e he
   split at hr
   ·rename_i q hx
    split at hr
    ·rename_i es hg
     split at hr
     ·rename_i b hs
      obtain ⟨h1,hr⟩:=ah hr
      simp only [zC] at h1
      have hq:=bb h1.1.2
      obtain ⟨res,k1,k2⟩:=oB _ _ _ hr
      have eY:(hp h).ob q=some (.cL (.map es)):=by rw [j5 hq];unfold fH;rw [hg];rfl
      split at k1
      ·obtain ⟨_,t1,k3,k4⟩:=bu k1
       exact ⟨_,_,_,k3,.of [.set q (.cL (.map (es++[(ρ y,ρ z)])))] (o_ (x:=.cL (.map (es++[(ρ y,ρ z)]))) hq k4) rfl (fun u hu=>by rcases zF.1 hu with rfl;exact aB (o:=q) hq (.head _))
        (fun S2 hA=>yd hE De hT he h1.1.1 hs hx ((hA q (aB hq (.head _))).1.trans eY) (fun g v hv=>hv) (fun g v hv=>hv) k2) hd⟩
      ·cases k1
     ·cases hr
    ·cases hr
   ·rename_i q j hx
    obtain ⟨ka,tk,va,tv,es,hr,hq,_,eY⟩:=wR hr
    obtain ⟨h1,hr⟩:=ah hr
    simp only [zC] at h1
    split at hr
    ·rename_i kx vy qU Wf
     have ki:x≠y:=fun e=>by rw [←e,hx] at qU;exact uY h1.1.1 qU
     have hX:Ai (.eG q j)=true:=by show Nat.blt q 64=true;simpa using hq
     have zp:∀(g:G) (S:Hp) (w:World) (a:Act),Inv g S w→(∀x∈o.op.operands,V g (ρ x) (a.eval x))→g.bq (Ref.eG q j).id≠none:=fun g S w a hI hv=>by
      have uB:=hv x nA
      rw [hx] at uB
      obtain ⟨b,s,bO⟩:=uB.Gd
      rw [bO];intro h;cases h
     have here:∀S2,Agree (.wr (iG (.eG q j)::[])) (hp h) S2→∀{S':Hp} {pv:A},(S2.ob (fj q j)=some (.cL (.map (ib ka tk va tv es)))→eX P o ρ S2 S' pv)→eX P o ρ S2 S' pv:=fun S2 hA _ _ k=>eX.bq fun g w a hI hv=>by
      have uB:=hv x nA
      rw [hx] at uB
      obtain ⟨b,s,bO⟩:=uB.Gd
      have ha:=hA (fj q j) (b9 (r:=q) (j:=j) hq (.head _))
      exact k (eY g S2 w b s hI ha.1 ha.2 bO)
     have Ui:told ρ y (bZ ka tk kx) x = .mp (.eG q j):=by rw [nS ki,hx]
     have L6:∀g v,V g (told ρ y (bZ ka tk kx) z) v→V g (bZ va tv vy) v:=fun g v hv=>by
      rw [nS (hzy h1.2)] at hv;exact jY Wf hv
     have conv:=fun {S S':Hp} {pv:A}=>eX.conv (P:=P) (o:=o) (ρ:=ρ) (ρ':=told ρ y (bZ ka tk kx)) (S:=S) (S':=S') (pv:=pv) (fun x _ g v hv=>oV (fun g v hv=>jY qU hv) x g v hv)
     have hs:iW E KT e.d (told ρ y (bZ ka tk kx) y) (told ρ y (bZ ka tk kx) y)=some (sH tk kx kx):=by rw [fY];exact tF he h1.1.1 kx kx
     have hf:=ko (va:=va) (tv:=tv) he h1.1.1 kx es 0
     rcases ik hr with ⟨e1,hr⟩ | ⟨p,e1,hr⟩
     ·obtain ⟨h',k1,k2⟩:=td hq hr
      refine ⟨_,_,_,k1,.put hd hX k2 zp (fun S2 hA=>here S2 hA fun dY=>?_)⟩
      have e2:ib ka tk va tv (cat es [(kx,vy)])=ib ka tk va tv es++[(bZ ka tk kx,bZ va tv vy)]:=by simp [ib,cat]
      rw [e2]
      rw [e1] at hf
      exact conv (yd (X:=.eG q j) hE De hT he h1.1.2 hs Ui dY (fun g v hv=>by rw [fY] at hv;exact hv) L6 (by rw [fY];exact hf))
     ·cases hi:ins with
      | true=>rw [hi] at hr;cases hr
      | false=>
       rw [hi] at hr;simp only [cond_false] at hr
       obtain ⟨h',k1,k2⟩:=td hq hr
       refine ⟨_,_,_,k1,.put hd hX k2 zp (fun S2 hA=>here S2 hA fun dY=>?_)⟩
       have e2:ib ka tk va tv (Ko es p.1 vy)=Aq (ib ka tk va tv es) p.1 (bZ va tv vy):=by
        unfold ib Ko Aq
        apply List.ext_getElem?
        intro m
        simp only [zL,List.getElem?_modify]
        cases es[m]? with
        | none=>rfl
        | some u=>
         by_cases hm:p.1=m
         ·simp [hm]
         ·simp [hm]
       rw [e2]
       rw [e1] at hf
       obtain ⟨m,kk,m1,m2,m3⟩:=vo es 0 p.1 p.2 e1
       have hmu:o.op = .mapUpdate T x y z:=by
        rcases ho with ⟨_,ho⟩ | ⟨hh,_⟩
        ·exact ho
        ·rw [hi] at hh;cases hh
       refine conv (Co (X:=.eG q j) (n:=p.1) hE hmu hT he h1.1.2 hs Ui dY L6 (by rw [fY];exact hf) (fun g v u v' hu hv wv=>?_))
       rw [fY] at hv
       have vw:(ib ka tk va tv es)[p.1]?=some (bZ ka tk kk,bZ va tv p.2):=by
        rw [m1,Nat.zero_add]
        unfold ib
        rw [zL,m2];rfl
       rw [vw] at hu
       cases hu
       exact CO h1.1.1 m3 hv wv
    ·cases hr
   ·cases hr
  ·cases hr
 ·cases hr
end
end
section
open Go.RowKit
section
variable {P:Program} {E:Env} {o:Oper} {ρ:Operand→A} {h:H} {β:Type} {K:A→H→Fp→Option β} {r:β}
def CJ (E:Env) (T:Nat) (px py:A) (h:H) (K:A→H→Fp→Option β):Option β:=match ct E.dN T with
 | some ⟨.map KT _,_,_,_,_,_,_⟩=>match ct E.dN KT with
  | some e=>match px with
   | .mp (.loc q)=>match h.t.get q with
    | some (.cL (.map es))=>match iW E KT e.d py py with
     | some _=>bif lM E e.d && Nat.blt q 16777216 && !(vr h (du q)) then sF (iW E KT e.d py) es 0 (fun res=>ff h.t q (some (.cL (.map (DN es res)))) (fun t1=>K .cF { h with t:=t1 } (.wr [du q]))) else none
     | none=>none
    | _=>none
   | .mp (.eG q j)=>Qp h q j (fun ka tk va tv es=>bif CP E KT e ka tk && lM E e.d then (match kR ka tk py with
    | some x=>opt (EM (sH tk x) es 0) (zn h q j ka tk va tv es (fun h'=>K .cF h' (.wr [ic q])))
     (fun p=>zn h q j ka tk va tv (Kr es p.1) (fun h'=>K .cF h' (.wr [ic q])))
    | none=>none) else none)
   | _=>none
  | none=>none
 | _=>none
theorem DQ {ka:Bool} {tk:Ty} {va:Bool} {tv:Ty} (es:List (tk.T×tv.T)) (p:Option (Nat×tv.T)) :
  ib ka tk va tv (match p with | some p=>Kr es p.1 | none=>es)=DN (ib ka tk va tv es) (p.map fun p=>(p.1,bZ va tv p.2)):=by
 cases p with
 | none=>rfl
 | some p=>
  show (es.eraseIdx p.1).map _=(es.map _).eraseIdx p.1
  generalize p.1=n
  induction es generalizing n with
  | nil=>rfl
  | cons a es ih=>cases n with
   | zero=>rfl
   | succ n=>simp only [List.map_cons,List.eraseIdx_cons_succ,List.map_cons,ih n]
theorem CI (hE:bW P E) {T:Nat} {x y:Operand} {Ts:Array TypeId} (ho:o.op = .call { callee:=.builtin .delete,args:=#[x,y],argTypes:=Ts }) (h0:Ts[0]?=some T) (hr:CJ E T (ρ x) (ρ y) h K=some r):Out P o ρ h K r:=by
 have hd:∀c,o.op≠.defer c:=by rw [ho];intro c e;cases e
 have nA:x∈o.op.operands:=by simp [ho,Op.operands,Call.operands]
 unfold CJ at hr
 split at hr
 ·rename_i KT VT _ _ _ _ _ _ ht
  have hT:=(hE.dN _ _ ht).u
  split at hr
  ·rename_i e he
   split at hr
   ·rename_i q hx
    split at hr
    ·rename_i es hg
     split at hr
     ·rename_i b hs
      obtain ⟨h1,hr⟩:=ah hr
      simp only [zC] at h1
      have hq:=bb h1.1.2
      obtain ⟨res,k1,k2⟩:=oB _ _ _ hr
      have eY:(hp h).ob q=some (.cL (.map es)):=by rw [j5 hq];unfold fH;rw [hg];rfl
      obtain ⟨_,t1,k3,k4⟩:=bu k1
      exact ⟨_,_,_,k3,.of [.set q (.cL (.map (DN es res)))] (o_ (x:=.cL (.map (DN es res))) hq k4) rfl (fun u hu=>by rcases zF.1 hu with rfl;exact aB (o:=q) hq (.head _))
       (fun S2 hA=>qK hE ho h0 hT he h1.1.1 hs hx ((hA q (aB hq (.head _))).1.trans eY) k2) hd⟩
     ·cases hr
    ·cases hr
   ·rename_i q j hx
    obtain ⟨ka,tk,va,tv,es,hr,hq,_,eY⟩:=wR hr
    obtain ⟨h1,hr⟩:=ah hr
    simp only [zC] at h1
    split at hr
    ·rename_i kx qU
     have ki:x≠y:=fun e=>by rw [←e,hx] at qU;exact uY h1.1 qU
     have hX:Ai (.eG q j)=true:=by show Nat.blt q 64=true;simpa using hq
     have zp:∀(g:G) (S:Hp) (w:World) (a:Act),Inv g S w→(∀x∈o.op.operands,V g (ρ x) (a.eval x))→g.bq (Ref.eG q j).id≠none:=fun g S w a hI hv=>by
      have uB:=hv x nA
      rw [hx] at uB
      obtain ⟨b,s,bO⟩:=uB.Gd
      rw [bO];intro h;cases h
     have here:∀S2,Agree (.wr (iG (.eG q j)::[])) (hp h) S2→∀{S':Hp} {pv:A},(S2.ob (fj q j)=some (.cL (.map (ib ka tk va tv es)))→eX P o ρ S2 S' pv)→eX P o ρ S2 S' pv:=fun S2 hA _ _ k=>eX.bq fun g w a hI hv=>by
      have uB:=hv x nA
      rw [hx] at uB
      obtain ⟨b,s,bO⟩:=uB.Gd
      have ha:=hA (fj q j) (b9 (r:=q) (j:=j) hq (.head _))
      exact k (eY g S2 w b s hI ha.1 ha.2 bO)
     have Ui:told ρ y (bZ ka tk kx) x = .mp (.eG q j):=by rw [nS ki,hx]
     have conv:=fun {S S':Hp} {pv:A}=>eX.conv (P:=P) (o:=o) (ρ:=ρ) (ρ':=told ρ y (bZ ka tk kx)) (S:=S) (S':=S') (pv:=pv) (fun x _ g v hv=>oV (fun g v hv=>jY qU hv) x g v hv)
     have hs:iW E KT e.d (told ρ y (bZ ka tk kx) y) (told ρ y (bZ ka tk kx) y)=some (sH tk kx kx):=by rw [fY];exact tF he h1.1 kx kx
     have hf:=ko (va:=va) (tv:=tv) he h1.1 kx es 0
     have main:∀p,EM (sH tk kx) es 0=p→zn h q j ka tk va tv (match p with | some p=>Kr es p.1 | none=>es) (fun h'=>K .cF h' (.wr [ic q]))=some r→Out P o ρ h K r:=fun p Db hr=>by
      obtain ⟨h',k1,k2⟩:=td hq hr
      refine ⟨_,_,_,k1,.put hd hX k2 zp (fun S2 hA=>here S2 hA fun dY=>?_)⟩
      rw [Db] at hf
      rw [DQ]
      exact conv (qK (X:=.eG q j) hE ho h0 hT he h1.2 hs Ui dY (by rw [fY];exact hf))
     rcases ik hr with ⟨e1,hr⟩ | ⟨p,e1,hr⟩
     ·exact main none e1 hr
     ·exact main (some p) e1 hr
    ·cases hr
   ·cases hr
  ·cases hr
 ·cases hr
def xb:List (Nat×Nat)→Nat→Option Nat
 | [],_=>none
 | (t,r)::l,T=>bif Nat.beq t T then some r else xb l T
def Cc (h:H) (q:Nat) (t:Ty) (x:t.T) (k:Nat→H→Option β):Option β:=bif vr h (ic q) then none else match bw h.rg q with
 | some ⟨_,.box t',c⟩=>match fL t t' x with
  | some x'=>bif Nat.blt q 64 then k (len (α:=t'.T) c) { h with rg:=jh h.rg q (.box t') (cat (α:=t'.T) c [x']) } else none
  | none=>none
 | _=>none
theorem uX {q:Nat} {t:Ty} {x:t.T} {k:Nat→H→Option β} (hr:Cc h q t x k=some r):∃h' j,k j h'=some r∧q<64∧(hp h).fr (fj q j)∧hp h'=app [.new (fj q j) (.cells (aA t x))] (hp h):=by
 obtain ⟨_,hr⟩:=jb hr
 split at hr
 ·rename_i rr t' c hf
  split at hr
  ·rename_i x' hx
   obtain ⟨e,hx⟩:=cp hx
   subst e
   obtain rfl:x=x':=hx
   obtain ⟨h1,hr⟩:=ah hr
   have h3:q<64:=bb h1
   refine ⟨_,_,hr,h3,?_,?_⟩
   ·rw [gm.2,fU h3 hf];exact Nat.le_refl _
   ·exact oi (k:=.box t) (c:=cat (α:=t.T) c [x]) (n:=List.length (α:=t.T) c) h3 hf rfl (oe (α:=t.T) c _) (fun j=>qB (c:=c) (x:=x) j)
  ·cases hr
 ·cases hr
theorem V.FB {g:G} {q j:Nat} {v:Value} (hv:V g (.ptr (fj q j) 0) v):V g (.tp (.eG q j) []) v:=by
 cases hv with
 | ptr _ _ b s hb=>exact .tp (.eG q j) [] b s hb trivial
def LL (E:Env) (hm:List (Nat×Nat)) (T:Nat) (h:H) (K:A→H→Fp→Option β):Option β:=match xb hm T with
 | some q=>match ct E.dN T with
  | some e=>match e.t with
   | some t=>Cc h q t t.cK (fun j h'=>K (.tp (.eG q j) []) h' (.wr [ic q]))
   | none=>none
  | none=>none
 | none=>LM E T h K
theorem Hr (hE:bW P E) {hm:List (Nat×Nat)} {T:Nat} (ho:o.op = .alloc T) (hr:LL E hm T h K=some r):Out P o ρ h K r:=by
 have hd:∀c,o.op≠.defer c:=by rw [ho];intro c e;cases e
 unfold LL at hr
 split at hr
 ·rename_i q _
  split at hr
  ·rename_i e ht
   have hk:=hE.dN _ _ ht
   obtain ⟨i,t1,t2,t3,t4,t5,t6⟩:=hk.ti
   split at hr
   ·rename_i t wx
    obtain ⟨h',j,k1,hq,hf,hh⟩:=uX hr
    exact ⟨_,_,_,k1,Step.Bw (.of _ hh rfl (fun u hu=>by rcases zF.1 hu with rfl;exact b9 (r:=q) (j:=j) hq (.head _)) (fun S2 hA=>nv ho t1 t2 (hk.tz t wx) ((hA _ (b9 (r:=q) (j:=j) hq (.head _))).2.2 hf)) hd) (fun g v hv=>hv.FB)⟩
   ·cases hr
  ·cases hr
 ·exact Hs hE ho hr
def LC (E:Env) (hm:List (Nat×Nat)) (T:Nat) (px:A) (h:H) (K:A→H→Fp→Option β):Option β:=match xb hm T with
 | some q=>match ct E.dN T,px.cells with
  | some e,some ps=>match e.t with
   | some t=>match fixC 64 t ps h with
    | some (tg,h1,T1)=>match oN t tg with
     | some x=>Cc h1 q t x (fun j h'=>K (.tp (.eG q j) []) h' (.wr (ic q::T1)))
     | none=>none
    | none=>none
   | none=>none
  | _,_=>none
 | none=>Ec E T px h K
theorem Step.V0 {T1:List Nat} {h1 h2:H} {us:List Up} {x:Ob} {pv:A} {q j:Nat} (c1:hp h1=app us (hp h)) (c2:∀u∈us,aI (.wr T1) u.id=true) (hq:q<64) (hf:(hp h1).fr (fj q j)) (hh:hp h2=app [.new (fj q j) x] (hp h1)) (hd:∀c,o.op≠.defer c)
  (k:∀S2 g w a,Agree (.wr T1) (hp h) S2→(app us S2).fr (fj q j)→Inv g S2 w→(∀x∈o.op.operands,V g (ρ x) (a.eval x))→sa P o S2 ((app us S2).new (fj q j) x) pv g w a):Step P o ρ h h2 (.wr (ic q::T1)) pv:=
 .of (us++[.new (fj q j) x]) (by rw [iy,←c1,hh]) rfl (fun u hu=>by
  rcases zX.1 hu with hu | hu
  ·exact eZ (fun i hi=>.tail _ hi) (c2 u hu)
  ·rcases zF.1 hu with rfl;exact b9 (r:=q) (j:=j) hq (.head _)) (fun S2 hA g w a next Q hI hv K'=>by
  have nB:(app us S2).fr (fj q j):=by
   have:=Agree.app us hA
   rw [←c1] at this
   exact (this (fj q j) (b9 hq (.head _))).2.2 hf
  have e:=iy us [.new (fj q j) x] S2
  rw [e] at K'
  exact k S2 g w a (hA.mono fun i hi=>.tail _ hi) nB hI hv next Q K') hd
theorem Hi {S:Hp} {T:TypeId} {x:Operand} {qs:List A} {q:Nat} {g:G} {w:World} {a:Act} (ho:o.op = .box T x) (hI:Inv g S w) (e2:Vs g qs (a.eval x).cells.toList) (hf:S.fr q):sa P o S (S.new q (.cells qs)) (.ptr q 0) g w a:=by
 intro next Q K
 obtain ⟨h1,h2⟩:=hI.lG hf (cs:=qs) (vs:=(a.eval x).cells) T (by have:=e2.1;simp at this ⊢;omega) e2.all
 unfold Oper.wp
 simp only [execOp,ho,Instr.box,Sem.run_bind,Result.andThen_ok,Sem.run_pure,newVar,newRow,run_newObj]
 exact K _ _ _ (.ptr _ _ w.heap.size _ cl) h1 h2
theorem Hg {hm:List (Nat×Nat)} {T:Nat} {x:Operand} (ho:o.op = .box T x) (hr:LC E hm T (ρ x) h K=some r):Out P o ρ h K r:=by
 have hd:∀c,o.op≠.defer c:=by rw [ho];intro c e;cases e
 unfold LC at hr
 split at hr
 ·rename_i q _
  split at hr
  ·rename_i e ps ht rS
   split at hr
   ·rename_i t wx
    split at hr
    ·rename_i tg h1 T1 hf
     split at hr
     ·rename_i y hy
      obtain ⟨us,c1,c2,c3⟩:=oz _ _ _ _ _ _ _ hf
      obtain ⟨h',j,k1,hq,nB,hh⟩:=uX hr
      refine ⟨_,_,_,k1,Step.Bw (pv:=.ptr (fj q j) 0) (.V0 c1 c2 hq nB hh hd (fun S2 g w a hA hf hI hv=>?_)) (fun g v hv=>?_)⟩
      ·obtain ⟨g1,q1,q2,q3⟩:=c3 g S2 w _ hI hA ((hv x (by simp [ho,Op.operands])).cells rS)
       refine sa.pre ?_ q2
       exact Hi ho q1 ((jg t tg y hy).2 _ q3) hf
      ·cases hv with
       | ptr _ _ b s h0=>exact .tp (.eG q j) [] b s h0 trivial
     ·cases hr
    ·cases hr
   ·cases hr
  ·cases hr
 ·exact Eb ho hr
end
end
section
variable {P:Program} {E:Env} {o:Oper} {ρ:Operand→A} {h:H} {β:Type} {K:A→H→Fp→Option β} {r:β}
def Xh (E:Env) (T f:Nat) (px:A) (h:H) (K:A→H→Fp→Option β):Option β:=match px with
 | .agg cs=>match ct E.dN T with
  | some ⟨.struct fs,_,_,_,_,_,_⟩=>match fs[f]? with
   | some fd=>match ct E.dN fd.type with
    | some e=>bif jG e.d then K (.agg ((cs.drop fd.offset).take e.size)) h .no else (match (cs.drop fd.offset).take e.size with
     | [p]=>BL p (fun v=>K v h .no)
     | _=>none)
    | none=>none
   | none=>none
  | _=>none
 | _=>none
theorem V.TC {g:G} {cs:List A} {u:Value} (h:V g (.agg cs) u):∃vs,u = .agg vs∧Vs g cs vs.toList:=by
 cases h with
 | agg _ vs hl h1 hh=>
  refine ⟨vs,rfl,by simpa using hl,fun j c x a b=>?_⟩
  have b':vs[j]?=some x:=by simpa using b
  exact ⟨hh j c x a b',h1 x (zG b)⟩
theorem K0 (hE:bW P E) {T f:Nat} {x:Operand} (ho:o.op = .field T x f) (hr:Xh E T f (ρ x) h K=some r):Out P o ρ h K r:=by
 have hd:∀c,o.op≠.defer c:=by rw [ho];intro c e;cases e
 unfold Xh at hr
 split at hr
 ·rename_i cs hx
  split at hr
  ·rename_i fs _ _ _ _ t _ ht
   split at hr
   ·rename_i fd hf
    split at hr
    ·rename_i e he
     have key:∀{S2:Hp} {v:A},(∀g xs,Vs g ((cs.drop fd.offset).take e.size) xs→∃u,valOf e.d xs u∧V g v u)→eX P o ρ S2 S2 v:=fun {S2 v} hk=>.value fun g w a _ hv=>by
      have e1:=hv x (by simp [ho,Op.operands])
      rw [hx] at e1
      obtain ⟨vs,e2,e3⟩:=e1.TC
      obtain ⟨u,h1,h2⟩:=hk g _ (e3.part fd.offset e.size)
      refine ⟨u,?_,h2⟩
      simp only [execOp,ho,e2,Sem.run_bind,Instr.field,run_underlying (hE.dN _ _ ht).u,Result.andThen_ok,hf,asAgg,Sem.run_pure,nX (hE.dN _ _ he) h1 w]
     cases ha:jG e.d with
     | true=>
      rw [ha] at hr
      refine .pure hr (fun S2=>key fun g xs w9=>⟨.agg xs.toArray,by simp [valOf,ha],?_⟩) hd
      exact .agg _ _ (by simpa using w9.1) (fun v hm=>by
       obtain ⟨j,hj⟩:=List.getElem?_of_mem hm
       simp only [List.toList_toArray] at hj
       have eg:j<((cs.drop fd.offset).take e.size).length:=by
        have:=(zB.1 hj).1;have:=w9.1;omega
       exact (w9.2 j _ v (zD eg) hj).2) (fun i c y h1 h2=>(w9.2 i c y h1 (by simpa using h2)).1)
     | false=>
      rw [ha] at hr
      simp only [cond_false] at hr
      split at hr
      ·rename_i p hp
       refine .sp hr (.pure (fun S2=>key fun g xs w9=>?_) hd)
       rw [hp] at w9
       obtain ⟨z,e1,e2⟩:=w9.single
       exact ⟨z,by simp [valOf,ha,e1],e2⟩
      ·cases hr
    ·cases hr
   ·cases hr
  ·cases hr
 ·cases hr
def isNil (py:A):Bool:=match py with
 | .v (.slice none 0 0)=>true
 | _=>false
theorem C1 {py:A} (h:isNil py=true):py = .v (.slice none 0 0):=by
 unfold isNil at h
 split at h
 ·rfl
 ·cases h
def DO (E:Env) (op:BinOp) (T:Nat) (X:Ref) (z:Nat) (h:H) (K:A→H→Fp→Option β):Option β:=bif isEq op then (match ct E.dN T with
  | some e=>match e.d with
   | .slice _=>jk h X (fun t l=>bif Nat.beq z t.size && Nat.blt 0 z then gd (bf 0 (len l)) (K (.v (.bool (An op false))) h (.rd [iG X])) else none)
   | _=>none
  | none=>none) else none
def Lb (E:Env) (op:BinOp) (T:Nat) (px py:A) (h:H) (K:A→H→Fp→Option β):Option β:=match px with
 | .tw X z=>bif isNil py then DO E op T X z h K else Ee E op T px py h K
 | .os r z o=>bif isNil py then opt o none (fun j=>DO E op T (.eG r j) z h K) else Ee E op T px py h K
 | _=>Ee E op T px py h K
theorem FP {S:Hp} {op:BinOp} {T T' E:TypeId} {x y:Operand} (ho:o.op = .binOp op T x y T') (hT:P.underlying T=some (.slice E)) (mg:op = .eql∨op = .neq)
  (hy:ρ y = .v (.slice none 0 0)) (hx:∀g w v,Inv g S w→V g (ρ x) v→∃a n c,v = .slice (some a) n c):eX P o ρ S S (.v (.bool (if op = .eql then false else !false))):=
 .value fun g w a hI hv=>by
  have e2:=hv y (by simp [ho,Op.operands])
  rw [hy] at e2
  have e2:=e2.gh
  obtain ⟨A,n,c,h1⟩:=hx g w _ hI (hv x (by simp [ho,Op.operands]))
  have eQ:=xV (P:=P) w hT (some A) n c
  refine ⟨.bool (if op = .eql then false else !false),?_,.v _⟩
  have j6:(eqGuard op T x y (.slice (some A) n c) (.slice none 0 0)).run P w = .ok () w:=by
   rcases mg with rfl | rfl<;>rfl
  rcases mg with rfl | rfl
  ·have hb:(binOp .eql T (.slice (some A) n c) (.slice none 0 0)).run P w = .ok (.bool false) w:=by
    simp only [binOp];simp [Op.equal,Op.maxDepth,eQ]
   simp only [execOp,ho,h1,e2,Sem.run_bind,j6,Result.andThen_ok,if_true,hb,Sem.run_pure]
  ·have hb:(binOp .neq T (.slice (some A) n c) (.slice none 0 0)).run P w = .ok (.bool (!false)) w:=by
    simp only [binOp];simp [Op.equal,Op.maxDepth,eQ]
   simp only [execOp,ho,h1,e2,Sem.run_bind,j6,Result.andThen_ok,hb,Sem.run_pure]
   rfl
theorem yI (hE:bW P E) {op:BinOp} {T T':TypeId} {x y:Operand} {X:Ref} {z:Nat} (ho:o.op = .binOp op T x y T') (hn:isNil (ρ y)=true) (hx:∀g v,V g (ρ x) v→V g (.tw X z) v) (hr:DO E op T X z h K=some r):Out P o ρ h K r:=by
 have hd:∀c,o.op≠.defer c:=by rw [ho];intro c e;cases e
 have hy:=C1 hn
 unfold DO at hr
 obtain ⟨hq,hr⟩:=ah hr
 split at hr
 ·rename_i e ht
  split at hr
  ·rename_i el Bk
   obtain ⟨t,l,hr,hX,eY⟩:=eO hr
   obtain ⟨hz,hr⟩:=ah hr
   simp only [zC] at hz
   have QD:=beq_eq hz.1
   have h0:=bb hz.2
   obtain ⟨hl,hr⟩:=bC hr
   have hl:0<l.length:=hl
   refine .read _ hr (fun S2 hA=>?_) hd
   have dY:=(hA _ (bK hX (.head _))).1.trans eY
   rw [oa _ hq]
   refine FP ho (by rw [(hE.dN _ _ ht).u,Bk]) (lz hq) hy (fun g w v hI hv=>?_)
   have hv:=hx _ _ hv
   rw [QD] at hv
   rcases hv.ql hI (by omega) dY with ⟨ad,_,rfl,rfl⟩ | ⟨b,s,cap,d,_,rfl,_⟩
   ·cases hl
   ·exact ⟨_,_,_,rfl⟩
  ·cases hr
 ·cases hr
theorem G4 (hE:bW P E) {op:BinOp} {T T':TypeId} {x y:Operand} (ho:o.op = .binOp op T x y T') (hr:Lb E op T (ρ x) (ρ y) h K=some r):Out P o ρ h K r:=by
 unfold Lb at hr
 split at hr
 ·rename_i X z hx
  cases hn:isNil (ρ y) with
  | true=>
   rw [hn] at hr
   exact yI hE ho hn (fun g v hv=>by rwa [hx] at hv) hr
  | false=>
   rw [hn] at hr
   exact ug hE ho hr
 ·rename_i ri z oo hx
  cases hn:isNil (ρ y) with
  | true=>
   rw [hn] at hr
   rcases ik (show opt oo none (fun j=>DO E op T (.eG ri j) z h K)=some r from hr) with ⟨_,h2⟩ | ⟨j,h1,h2⟩
   ·cases h2
   ·exact yI hE ho hn (fun g v hv=>by
     rw [hx] at hv
     cases hv with
     | os _ _ _ _ _ k1=>exact k1 j h1) h2
  | false=>
   rw [hn] at hr
   exact ug hE ho hr
 ·exact ug hE ho hr
end
section
open Go.RowKit
section
variable {P:Program} {E:Env} {o:Oper} {ρ:Operand→A} {h:H} {β:Type} {K:A→H→Fp→Option β} {r:β}
structure sM (P:Program) (f:FuncId) (aa:List A) (h h':H) (T:Fp) (pv:A):Prop where
 out:∀i,aI T i=false→(hp h').ob i=(hp h).ob i∧((hp h').fr i↔(hp h).fr i)
 rd:∀i,wt T i=false→(hp h').ob i=(hp h).ob i∧((hp h').fr i↔(hp h).fr i)
 fn:uw P f
 ok:∀S2,Agree T (hp h) S2→PC P f aa S2 (iU T (hp h') S2) pv
def RC (P:Program) (y:A) (aa:List A) (S S':Hp) (r:A):Prop:=
 ∀g w u (vs:List Value),Inv g S w→V g y u→aa.length=vs.length→(∀(i:Nat) (p:A) (v:Value),aa[i]?=some p→vs[i]?=some v→V g p v) →
  ∃(b:Nat) (rr:Loop),u = .func (.yield b) #[] #[]∧w.heap[b]?=some (.loop rr)∧rr.params.size=vs.length ∧
   RoundIn (FR none) 0 P b rr.fn ((rr.params.zip vs.toArray).foldl (fun tmps (t,a)=>tmps.setIfInBounds t a) rr.tmps) rr.assign rr.body w (fun e w'=>∃v g',e = .returned v∧V g' r v∧Inv g' S' w'∧Ext S g w S' g' w')
structure JH (P:Program) (y:A) (aa:List A) (h h':H) (T:Fp) (pv:A):Prop where
 out:∀i,aI T i=false→(hp h').ob i=(hp h).ob i∧((hp h').fr i↔(hp h).fr i)
 rd:∀i,wt T i=false→(hp h').ob i=(hp h).ob i∧((hp h').fr i↔(hp h).fr i)
 ok:∀S2,Agree T (hp h) S2→RC P y aa S2 (iU T (hp h') S2) pv
theorem Ag {y:A} {x:Operand} {xs:Array Operand} {ts:Array TypeId} {S S':Hp} {r:A} (ho:o.op = .call { callee:=.value x,args:=xs,argTypes:=ts }) (hx:ρ x=y) (h:RC P y (xs.toList.map ρ) S S' r):A_ P o ρ S S' r:=by
 intro ro g w a next Q hI hv K
 have e1:=hx▸hv x (by simp [ho,Op.operands,Call.operands])
 obtain ⟨b,rr,hu,h1,h2,h3⟩:=h g w (a.eval x) (xs.toList.map a.eval) hI e1 (by simp) (fun i p v k1 k2=>by
  simp only [zL,Option.map_eq_some_iff,Array.getElem?_toList] at k1 k2
  obtain ⟨y,hy,rfl⟩:=k1
  obtain ⟨y',w8,rfl⟩:=k2
  rw [hy] at w8
  obtain rfl:=Option.some.inj w8
  exact hv y (by simp only [ho,Op.operands,Call.operands];exact Array.mem_append.2 (.inr (Array.mem_of_getElem? hy))))
 refine ⟨fun f _=>trivial,?_⟩
 rw [Oper.semAt_eq _ _ _ (by rw [ho];intro c h;cases h)]
 have ea : #[]++Array.map a.eval xs=(xs.toList.map a.eval).toArray:=by apply Array.ext';simp
 have e:(execOp a.eval o).run P w = .ok (.round b rr.fn ((rr.params.zip (xs.toList.map a.eval).toArray).foldl (fun tmps (t,a)=>tmps.setIfInBounds t a) rr.tmps) rr.assign rr.body) w:=by
  simp only [execOp,ho,resolve,hu,Deferred.ofValue,pure_bind,invoke]
  rw [ea]
  exact run_yield h1 (by simp [h2])
 rw [e]
 refine ⟨fun h=>by simp [FR,Fence.wide] at h,RoundIn.mono (F:=FR ro) h3 ?_⟩
 rintro e w' ⟨v,g',rfl,k1,k2,k3⟩
 exact K v g' w' k1 k2 k3
structure Cx where
 call:(β:Type)→FuncId→List A→H→(A→H→Fp→Option β)→Option β
 hm:List (Nat×Nat)
 rA:(β:Type)→A→List A→H→(A→H→Fp→Option β)→Option β
structure ld (P:Program) (cx:Cx):Prop where
 call:∀(β:Type) (f:FuncId) (aa:List A) (h:H) (K:A→H→Fp→Option β) (r:β),cx.call β f aa h K=some r→∃pv h' T,K pv h' T=some r∧sM P f aa h h' T pv
 rA:∀(β:Type) (y:A) (aa:List A) (h:H) (K:A→H→Fp→Option β) (r:β),cx.rA β y aa h K=some r→∃pv h' T,K pv h' T=some r∧JH P y aa h h' T pv
def D_ (cx:Cx) (px:A) (aa:List A) (h:H) (K:A→H→Fp→Option β):Option β:=match px with
 | .fn f fi ca=>cx.call β f (fi++aa++ca) h K
 | .rA _ _ _ _ _ _ _=>cx.rA β px aa h K
 | _=>none
theorem D9 {cx:Cx} (hx:ld P cx) {x:Operand} {xs:Array Operand} {ts:Array TypeId} (ho:o.op = .call { callee:=.value x,args:=xs,argTypes:=ts }) (hr:D_ cx (ρ x) (xs.toList.map ρ) h K=some r):Out P o ρ h K r:=by
 have hd:∀c,o.op≠.defer c:=by rw [ho];intro c e;cases e
 unfold D_ at hr
 split at hr
 ·rename_i f fi ca Db
  obtain ⟨pv,h',T,k1,k2⟩:=hx.call β f _ h K r hr
  exact ⟨pv,h',T,k1,⟨k2.out,k2.rd,fun S2 hA=>(Ae ho k2.fn Db (k2.ok S2 hA)).I6 hd⟩⟩
 ·rename_i Db
  obtain ⟨pv,h',T,k1,k2⟩:=hx.rA β _ _ h K r hr
  exact ⟨pv,h',T,k1,⟨k2.out,k2.rd,fun S2 hA=>Ag ho Db (Db▸k2.ok S2 hA)⟩⟩
 ·cases hr
def xS:Operand→Operand→Bool
 | .tmp i,.tmp j=>Nat.beq i j
 | .const (.int .i64 (.ofNat a)),.const (.int .i64 (.ofNat b))=>Nat.beq a b
 | _,_=>false
theorem uI {x y:Operand} (h:xS x y=true):x=y:=by
 unfold xS at h
 split at h
 ·rw [beq_eq h]
 ·rw [beq_eq h]
 ·cases h
def T_:Operand→Operand→Bool
 | .tmp i,.tmp j=>!(Nat.beq i j)
 | .tmp _,.const _=>true
 | .const _,.tmp _=>true
 | _,_=>false
theorem CE {x y:Operand} (h:T_ x y=true):y≠x:=by
 rintro rfl
 cases y<;>simp [T_] at h
def uJ:Option Operand→Option Operand→Bool
 | some x,some y=>xS x y
 | _,_=>false
theorem BU {x y:Option Operand} (h:uJ x y=true):x=y:=by
 unfold uJ at h
 split at h
 ·rw [uI h]
 ·cases h
def LG (E:Env) (b:Builtin) (xs:List Operand) (ts:List TypeId) (ρ:Operand→A) (h:H) (K:A→H→Fp→Option β):Option β:=match b,xs,ts with
 | .append,[x,y],[T,T']=>bif Nat.beq T T' then LK E T (ρ x) (ρ y) h K else none
 | .len,[x],[T]=>Ku E T (ρ x) h K
 | .min,[x,y],_=>L4 false (ρ x) (ρ y) h K
 | .max,[x,y],_=>L4 true (ρ x) (ρ y) h K
 | .copy,[x,y],[T,_]=>D5 E T (ρ x) (ρ y) h K
 | .clear,[x],[T]=>Ly E T (ρ x) h K
 | .delete,[x,y],T::_=>CJ E T (ρ x) (ρ y) h K
 | _,_,_=>none
theorem Hj (hE:bW P E) {b:Builtin} {xs:Array Operand} {ts:Array TypeId} (ho:o.op = .call { callee:=.builtin b,args:=xs,argTypes:=ts }) (hr:LG E b xs.toList ts.toList ρ h K=some r):Out P o ρ h K r:=by
 obtain ⟨xs⟩:=xs
 obtain ⟨ts⟩:=ts
 simp only at hr
 unfold LG at hr
 split at hr
 ·obtain ⟨hT,hk⟩:=ah hr
  clear hr
  obtain rfl:=beq_eq hT
  exact Hn hE ho hk
 ·exact Gj hE ho hr
 ·exact Ge ho hr
 ·exact Gf ho hr
 ·exact D4 hE ho hr
 ·exact He hE ho hr
 ·exact CI hE ho rfl hr
 ·cases hr
theorem A_.Zj {P:Program} {Qj:Op} {ρ:Operand→A} {S S':Hp} {v:A} (hd:∀c,o.op≠.defer c) (mY:∀c,Qj≠.defer c) (hs:∀x∈Qj.operands,x∈o.op.operands) (he:∀(g:G) (a:Act),(∀x∈o.op.operands,V g (ρ x) (a.eval x))→execOp a.eval o=execOp a.eval { o with op:=Qj }) (h:A_ P { o with op:=Qj } ρ S S' v):A_ P o ρ S S' v:=by
 intro r g w a next Q hI hv K
 have h1:=h r g w a next Q hI (fun x hx=>hv x (hs x hx)) K
 refine ⟨fun f _=>trivial,?_⟩
 have h2:=h1.2
 rw [Oper.semAt_eq _ _ _ mY] at h2
 rw [Oper.semAt_eq _ _ _ hd,he g a hv]
 exact h2
def Ky (E:Env) (T:Nat) (X:Ref) (z:Nat) (lo hi mx:Option A) (h:H) (K:A→H→Fp→Option β):Option β:=match ct E.dN T with
 | some ⟨.slice el,_,_,_,_,_,_⟩=>match ct E.dN el with
  | some e=>jk h X (fun t x=>bif Nat.beq z e.size && Nat.beq z t.size && Nat.blt 0 z then A6 lo 0 (fun l=>A6 hi 0 (fun n=>A6 mx 0 (fun m=>gd (bB l n) (gd (bB n m) (gd (bB m (len x)) (K .cF h (.rd [iG X]))))))) else none)
  | none=>none
 | _=>none
theorem Gp (hE:bW P E) {T:Nat} {X:Ref} {z:Nat} {x lo hi mx:Operand} (ho:o.op = .slice T x (some lo) (some hi) (some mx)) (hx:ρ x = .tw X z) (hr:Ky E T X z (some (ρ lo)) (some (ρ hi)) (some (ρ mx)) h K=some r):Out P o ρ h K r:=by
 have hd:∀c,o.op≠.defer c:=by rw [ho];intro c e;cases e
 unfold Ky at hr
 split at hr
 ·rename_i el _ _ _ _ _ _ ht
  have hT:=(hE.dN _ _ ht).u
  split at hr
  ·rename_i e he
   have hz:=(hE.dN _ _ he).ti.size
   obtain ⟨t,x',hr,hX,eY⟩:=eO hr
   obtain ⟨hq,hr⟩:=ah hr
   simp only [zC] at hq
   have Uo:=beq_eq hq.1.1
   have Gx:=beq_eq hq.1.2
   have h0:=bb hq.2
   obtain ⟨l,hr,tQ⟩:=j_ (x:=some lo) hr
   obtain ⟨n,hr,tR⟩:=j_ (x:=some hi) hr
   obtain ⟨m,hr,Us⟩:=j_ (x:=some mx) hr
   obtain ⟨h1,hr⟩:=bC hr
   obtain ⟨h2,hr⟩:=bC hr
   obtain ⟨h3,hr⟩:=bC hr
   have h1:l≤n:=h1
   have h2:n≤m:=h2
   have h3:m≤x'.length:=h3
   refine .read [iG X] hr (fun S2 hA=>qI ho hT hz tQ tR Us h1 h2 (fun g w v hI hv=>?_)) hd
   have dY:=(hA _ (bK hX (.head _))).1.trans eY
   rw [hx,Gx] at hv
   obtain ⟨ad,cap,k1,k2,_,_⟩:=hv.It (lo:=l) (hi:=n) hI (by omega) dY h1 (by omega)
   exact ⟨ad,_,cap,k1,by omega,.cF _⟩
  ·cases hr
 ·cases hr
def QC:A→Bool
 | .tw _ _=>true
 | _=>false
def JS (E:Env) (T:Nat) (px:A) (lo hi mx:Option A) (same:Bool) (h:H) (K:A→H→Fp→Option β):Option β:=bif same then BO E T px lo hi mx true h K else bif QC px && lo.isSome && mx.isSome && hi.isSome then (match px with
 | .tw X z=>Ky E T X z lo hi mx h K
 | _=>none) else (match mx,hi with
 | some (.v (.int k m)),some (.v (.int k' n))=>if k=k' then gd (Gs m n) (BO E T px lo hi hi true h K) else none
 | mx,hi=>BO E T px lo hi mx false h K)
theorem Fj (hE:bW P E) {T:Nat} {x:Operand} {lo hi mx:Option Operand} (ho:o.op = .slice T x lo hi mx) (hr:JS E T (ρ x) (lo.map ρ) (hi.map ρ) (mx.map ρ) (uJ mx hi) h K=some r):Out P o ρ h K r:=by
 unfold JS at hr
 cases hb:uJ mx hi with
 | true=>rw [hb] at hr;exact sU hE ho (fun _=>BU hb) hr
 | false=>
  rw [hb] at hr
  simp only [cond_false] at hr
  cases ht:(QC (ρ x) && (lo.map ρ).isSome && (mx.map ρ).isSome && (hi.map ρ).isSome) with
  | true=>
   rw [ht] at hr
   simp only [cond_true] at hr
   simp only [zC] at ht
   obtain ⟨lo',rfl⟩:=isSome_map ht.1.1.2
   obtain ⟨mx',rfl⟩:=isSome_map ht.1.2
   obtain ⟨Jn,rfl⟩:=isSome_map ht.2
   split at hr
   ·rename_i X z hx
    exact Gp hE ho hx hr
   ·cases hr
  | false=>
  rw [ht] at hr
  simp only [cond_false] at hr
  split at hr
  ·rename_i k m k' n hm hn
   split at hr
   ·rename_i hk
    subst hk
    obtain ⟨he,KI⟩:=bC hr
    clear hr
    have he:m=n:=he
    subst he
    cases hi with
    | none=>cases hn
    | some hi=>
    cases mx with
    | none=>cases hm
    | some mx=>
    have hn:ρ hi = .v (.int k m):=Option.some.inj hn
    have hm:ρ mx = .v (.int k m):=Option.some.inj hm
    obtain ⟨pv,h',T',k1,k2⟩:=sU (o:={ o with op:=.slice T x lo (some hi) (some hi) }) hE rfl (fun _=>rfl) KI
    refine ⟨pv,h',T',k1,k2.out,k2.rd,fun S2 hA=>A_.Zj (Qj:=.slice T x lo (some hi) (some hi)) (by rw [ho];intro c e;cases e) (fun c e=>by cases e) (fun y hy=>?_) (fun g a hv=>?_) (k2.ok S2 hA)⟩
    ·rw [ho]
     simp only [Op.operands,Array.mem_append] at hy ⊢
     rcases hy with (hy | hy) | hy
     ·exact .inl (.inl hy)
     ·exact .inl (.inr hy)
     ·exact .inl (.inr hy)
    ·have e1:=hv mx (by rw [ho];simp [Op.operands])
     have e2:=hv hi (by rw [ho];simp [Op.operands])
     rw [hm] at e1
     rw [hn] at e2
     have e3:=e1.gh.trans e2.gh.symm
     simp only [execOp,ho,Option.map_some,e3]
   ·cases hr
  ·exact sU hE ho (fun h=>by cases h) hr
def VY (E:Env) (cx:Cx) (op:Op) (ρ:Operand→A) (h:H) (K:A→H→Fp→Option β):Option β:=match op with
 | .move x=>mvK (ρ x) h K
 | .assign x=>mvK (ρ x) h K
 | .pick c x y=>Cj (ρ c) (ρ x) (ρ y) h K
 | .extract x i=>La (ρ x) i h K
 | .binOp op T x y _=>Lb E op T (ρ x) (ρ y) h K
 | .unOp op _ x=>UN op (ρ x) h K
 | .convert s d x=>YS E s d (ρ x) h K
 | .nilCheck x=>Qn (ρ x) h K
 | .fieldAddr T x f=>K5 E T f (ρ x) h K
 | .field T x f=>Xh E T f (ρ x) h K
 | .indexAddr T x y=>V9 E T (ρ x) y (ρ y) h K
 | .load T x=>Kw E T (ρ x) h K
 | .store T x y=>VI E T (ρ x) (ρ y) h K
 | .alloc T=>LL E cx.hm T h K
 | .box T x=>LC E cx.hm T (ρ x) h K
 | .build T ps=>LI E T ρ ps.toList h K
 | .buildSlice T n ps=>LD E T n ρ ps.toList h K
 | .makeSlice T x y=>V2 E T (xS x y) (ρ x) h K
 | .slice T x lo hi mx=>JS E T (ρ x) (lo.map ρ) (hi.map ρ) (mx.map ρ) (uJ mx hi) h K
 | .makeFunc (.func f) fi ca=>Qr f (fi.toList.map ρ) (ca.toList.map ρ) h K
 | .makeMap _ none=>Qq h K
 | .lookup T x y ok=>Kt E T ok (ρ x) (ρ y) h K
 | .mapUpdate T x y z=>yg E T false (T_ y z) (ρ x) (ρ y) (ρ z) h K
 | .insert T x y z=>yg E T true (T_ y z) (ρ x) (ρ y) (ρ z) h K
 | .call c=>match c.callee with
  | .value x=>D_ cx (ρ x) (c.args.toList.map ρ) h K
  | .builtin b=>LG E b c.args.toList c.argTypes.toList ρ h K
  | _=>none
 | _=>none
theorem Km (hE:bW P E) {cx:Cx} (hx:ld P cx) (hr:VY E cx o.op ρ h K=some r):Out P o ρ h K r:=by
 generalize ho:o.op=op at hr
 have nd:∀{op:Op},o.op=op→(∀c,op≠.defer c)→∀c,o.op≠.defer c:=fun e k=>by rw [e];exact k
 unfold VY at hr
 split at hr
 ·exact .pure hr (fun S2=>vd ho) (nd ho (fun c e=>by cases e))
 ·exact .pure hr (fun S2=>wP ho) (nd ho (fun c e=>by cases e))
 ·exact Ci ho hr
 ·exact G3 ho hr
 ·exact G4 hE ho hr
 ·exact JO ho hr
 ·exact Ln hE ho hr
 ·exact Gb ho hr
 ·exact GW hE ho hr
 ·exact K0 hE ho hr
 ·exact Kz hE ho hr
 ·exact Kv hE ho hr
 ·exact JR hE ho hr
 ·exact Hr hE ho hr
 ·exact Hg ho hr
 ·exact Hk hE ho hr
 ·exact Hh hE ho hr
 ·exact Kq hE ho uI hr
 ·exact Fj hE ho hr
 ·exact Gh ho hr
 ·exact Gg ho hr
 ·exact Gi hE ho hr
 ·exact vm hE CE (.inl ⟨rfl,ho⟩) hr
 ·exact vm hE CE (.inr ⟨rfl,ho⟩) hr
 ·rename_i c
  obtain ⟨Ea,xs,ts⟩:=c
  simp only at hr
  split at hr
  ·exact D9 hx ho hr
  ·exact Hj hE ho hr
  ·cases hr
 ·cases hr
end
end
section
open Go.RowKit
def Fp.cat (T U:Fp):Fp:=⟨T.all || U.all,T.rs++U.rs,T.w || U.w,T.ws++U.ws⟩
theorem iF (T U:Fp) (i:Nat):aI (T.cat U) i=(aI T i || aI U i):=by
 unfold aI Fp.cat
 simp only [List.any_append]
 cases T.all<;>cases U.all<;>cases T.rs.any (Nat.beq (res i))<;>cases U.rs.any (Nat.beq (res i))<;>rfl
theorem qf {T U:Fp} {i:Nat} (h:wt (T.cat U) i=false):wt T i=false∧wt U i=false:=by
 have h:((T.w || U.w) && (T.ws++U.ws).any (Nat.beq (res i)))=false:=h
 show (T.w && T.ws.any (Nat.beq (res i)))=false∧(U.w && U.ws.any (Nat.beq (res i)))=false
 rw [List.any_append] at h
 generalize T.ws.any (Nat.beq (res i))=a at h ⊢
 generalize U.ws.any (Nat.beq (res i))=b at h ⊢
 generalize T.w=c at h ⊢
 generalize U.w=d at h ⊢
 revert h
 cases a<;>cases b<;>cases c<;>cases d<;>decide
theorem Fp.jN (T U V:Fp):(T.cat U).cat V=T.cat (U.cat V):=by
 unfold Fp.cat
 simp [Bool.or_assoc]
theorem Fp.o5 (T:Fp):Fp.no.cat T=T:=by cases T;rfl
theorem Fp.rk (T:Fp):T.cat .no=T:=by cases T;simp [Fp.cat,Fp.no]
structure nI (h h':H) (T:Fp):Prop where
 out:∀i,aI T i=false→(hp h').ob i=(hp h).ob i∧((hp h').fr i↔(hp h).fr i)
 rd:∀i,wt T i=false→(hp h').ob i=(hp h).ob i∧((hp h').fr i↔(hp h).fr i)
theorem nI.refl (h:H):nI h h .no:=⟨fun _ _=>⟨rfl,Iff.rfl⟩,fun _ _=>⟨rfl,Iff.rfl⟩⟩
theorem nI.trans {h h1 h2:H} {T U:Fp} (a:nI h h1 T) (b:nI h1 h2 U):nI h h2 (T.cat U) where
 out:=fun i hi=>by
  rw [iF,Bool.or_eq_false_iff] at hi
  have e1:=a.out i hi.1
  have e2:=b.out i hi.2
  exact ⟨e2.1.trans e1.1,e2.2.trans e1.2⟩
 rd:=fun i hi=>by
  obtain ⟨h1,h2⟩:=qf hi
  have e1:=a.rd i h1
  have e2:=b.rd i h2
  exact ⟨e2.1.trans e1.1,e2.2.trans e1.2⟩
theorem Agree.left {T U:Fp} {S S2:Hp} (h:Agree (T.cat U) S S2):Agree T S S2:=fun i hi=>h i (by rw [iF,hi];rfl)
theorem Agree.right {h h1:H} {T U:Fp} {S2:Hp} (f:nI h h1 T) (k:Agree (T.cat U) (hp h) S2):Agree U (hp h1) (iU T (hp h1) S2):=fun i hi=>by
 show (if aI T i=true then (hp h1).ob i else S2.ob i)=(hp h1).ob i∧((if aI T i=true then (hp h1).fr i else S2.fr i)↔(hp h1).fr i)
 cases ht:aI T i with
 | true=>exact ⟨if_pos rfl,by rw [if_pos rfl]⟩
 | false=>
  have e:=f.out i ht
  have k:=k i (by rw [iF,hi];simp)
  rw [if_neg (by simp),if_neg (by simp)]
  exact ⟨k.1.trans e.1.symm,k.2.trans e.2.symm⟩
theorem gW {h1 h2:H} {T U:Fp} {S2:Hp} (f:nI h1 h2 U):iU U (hp h2) (iU T (hp h1) S2)=iU (T.cat U) (hp h2) S2:=by
 refine Hp.ext' (fun i=>?_) (fun i=>?_)
 ·show (if aI U i=true then (hp h2).ob i else (if aI T i=true then (hp h1).ob i else S2.ob i))=(if aI (T.cat U) i=true then (hp h2).ob i else S2.ob i)
  rw [iF]
  cases hu:aI U i with
  | true=>simp
  | false=>
   cases ht:aI T i with
   | true=>simp [(f.out i hu).1]
   | false=>simp
 ·show (if aI U i=true then (hp h2).fr i else (if aI T i=true then (hp h1).fr i else S2.fr i))↔(if aI (T.cat U) i=true then (hp h2).fr i else S2.fr i)
  rw [iF]
  cases hu:aI U i with
  | true=>simp
  | false=>
   cases ht:aI T i with
   | true=>simp [(f.out i hu).2]
   | false=>simp
theorem pZ {h h':H} {T:Fp} (f:nI h h' T):iU T (hp h') (hp h)=hp h':=Hp.ext' (fun i=>by
 show (if aI T i=true then _ else _)=_
 split
 ·rfl
 ·rename_i hi;exact (f.out i (by simpa using hi)).1.symm) (fun i=>by
 show (if aI T i=true then _ else _)↔_
 split
 ·exact Iff.rfl
 ·rename_i hi;exact (f.out i (by simpa using hi)).2.symm)
theorem qH (S S2:Hp):iU .no S S2=S2:=Hp.ext' (fun i=>rfl) (fun i=>Iff.rfl)
def fI (n:Nat) (F:Tr A) (ds:List Nat) (S:Hp):St:=⟨bl F.get,n,ds,S⟩
def yc (n:Nat) (F:Tr A):Operand→A
 | .tmp i=>bif Nat.blt i n then bl F.get i else .cF
 | .const v=>.v v
 | .global _=>.cF
 | .func f=>.fn f [] []
theorem wV {a b:Nat} (h:a<b):Nat.blt a b=true:=by simpa using h
theorem tA {a b:Nat} (h:¬a<b):Nat.blt a b=false:=by
 cases hx:Nat.blt a b with
 | false=>rfl
 | true=>exact absurd (bb hx) h
theorem oZ (n:Nat) (F:Tr A) (ds:List Nat) (S:Hp):yc n F=(fI n F ds S).uA 0:=by
 funext x
 cases x with
 | tmp i=>
  show (bif Nat.blt i n then bl F.get i else .cF)=(if i<n then bl F.get i else .cF)
  by_cases h:i<n
  ·rw [if_pos h,wV h];rfl
  ·rw [if_neg h,tA h];rfl
 | _=>rfl
def Yz {β:Type} (v:Value) (k:Value→β):β:=match v with
 | .int a n=>k (.int a n)
 | .bool b=>k (.bool b)
 | v=>k v
theorem K9 {β:Type} (v:Value) (k:Value→β):Yz v k=k v:=by unfold Yz;split<;>rfl
def UD {β:Type} (p:A) (k:A→β):β:=match p with
 | .v x=>Yz x (fun x=>k (.v x))
 | .ptr o off=>k (.ptr o off)
 | .tp x π=>k (.tp x π)
 | .tw x z=>k (.tw x z)
 | .tl t f l=>k (.tl t f l)
 | .op r o=>k (.op r o)
 | p=>k p
theorem DM {β:Type} (p:A) (k:A→β):UD p k=k p:=by unfold UD;split<;>first | exact K9 _ _ | rfl
def K_ {β:Type}:List A→(List A→β)→β
 | [],k=>k []
 | c::cs,k=>UD c (fun c=>K_ cs (fun cs=>k (c::cs)))
theorem q9 {β:Type}:∀(l:List A) (k:List A→β),K_ l k=k l
 | [],_=>rfl
 | c::cs,k=>by unfold K_;rw [DM];exact q9 cs _
def Mi {β:Type} (p:A) (k:A→β):β:=match p with
 | .agg cs=>K_ cs (fun cs=>k (.agg cs))
 | .jz cs=>K_ cs (fun cs=>k (.jz cs))
 | .fn f fi ca=>K_ fi (fun fi=>K_ ca (fun ca=>k (.fn f fi ca)))
 | p=>UD p k
theorem xq {β:Type} (p:A) (k:A→β):Mi p k=k p:=by
 unfold Mi
 split
 ·exact q9 _ _
 ·exact q9 _ _
 ·rw [q9,q9]
 ·exact DM _ _
def te {β:Type} (F:Tr A) (d:Option Nat) (p:A) (k:Tr A→Option β):Option β:=match d with
 | none=>k F
 | some d=>Mi p (fun p=>ff F d (some p) k)
def Kp (l:List Nat) (F F':Tr A):Prop:=∀i,i∉l→bl F'.get i=bl F.get i
theorem Kp.refl (l:List Nat) (F:Tr A):Kp l F F:=fun _ _=>rfl
theorem Kp.trans {l k m:List Nat} {F F1 F2:Tr A} (a:Kp l F F1) (b:Kp k F1 F2) (hl:∀i∈l,i∈m) (hk:∀i∈k,i∈m):Kp m F F2:=fun i hi=>(b i (fun h=>hi (hk i h))).trans (a i (fun h=>hi (hl i h)))
theorem Kp.mono {l m:List Nat} {F F1:Tr A} (a:Kp l F F1) (hl:∀i∈l,i∈m):Kp m F F1:=fun i hi=>a i (fun h=>hi (hl i h))
theorem Kp.of {l:List Nat} {n:Nat} {F F':Tr A} (h:∀ds S,fI n F' ds S=fI n F ds S):Kp l F F':=fun i _=>congrFun (congrArg St.t (h [] ⟨fun _=>none,fun _=>False⟩)) i
theorem pY {β:Type} {F:Tr A} {d:Option Nat} {p:A} {k:Tr A→Option β} {r:β} (h:te F d p k=some r):∃F',k F'=some r∧Kp d.toList F F'∧∀(n:Nat) (ds:List Nat) (S S':Hp),((fI n F ds S).put d p).to S'=fI n F' ds S':=by
 cases d with
 | none=>exact ⟨F,h,.refl _ F,fun n ds S S'=>rfl⟩
 | some d=>
  have h:Mi p (fun p=>ff F d (some p) k)=some r:=h
  rw [xq] at h
  obtain ⟨_,F',k1,k2⟩:=bu h
  refine ⟨F',k1,fun i hi=>by
   simp only [bl,k2]
   rw [if_neg (fun e=>hi (by rw [e];exact .head _))],fun n ds S S'=>?_⟩
  have e:(fun i=>if i=d then p else bl F.get i)=bl F'.get:=by
   funext i
   simp only [bl,k2]
   by_cases hi:i=d
   ·rw [if_pos hi,if_pos hi]
   ·rw [if_neg hi,if_neg hi]
  simp only [St.put,St.to,fI,e]
def GR {β:Type} (l0:List Oper) (n:Nat) (F:Tr A) (j:Nat) (want:Bool) (k:Tr A→Bool→Option β):Option β:=match (l0[j]?).bind (·.dst) with
 | some d=>match yc n F (.tmp d) with
  | .v (.bool b)=>br b (ff F d (some (.v (.bool true))) (fun F'=>k F' want)) (ff F d (some (.v (.bool false))) (fun F'=>k F' (!want)))
  | .un=>k F false
  | _=>none
 | none=>none
theorem yb {n:Nat} {F:Tr A} {d:Nat} {p:A} (h:yc n F (.tmp d)=p) (hp:p≠.cF):bl F.get d=p:=by
 have h:(bif Nat.blt d n then bl F.get d else .cF)=p:=h
 cases hb:Nat.blt d n with
 | true=>rw [hb] at h;exact h
 | false=>rw [hb] at h;exact absurd h.symm hp
theorem yB {β:Type} {l0:List Oper} {n:Nat} {F:Tr A} {j:Nat} {want:Bool} {k:Tr A→Bool→Option β} {r:β} (h:GR l0 n F j want k=some r):∃F' b,k F' b=some r∧(∀ds S,fI n F' ds S=fI n F ds S)∧∀ds S,mi l0.toArray (fI n F ds S) j want=some b:=by
 unfold GR at h
 split at h
 ·rename_i d hd
  have gv:∀(b:Bool) (ds:List Nat) (S:Hp),((match yc n F (.tmp d) with | .v (.bool b)=>some (b == want) | .un=>some false | _=>none):Option Bool)=some b→mi l0.toArray (fI n F ds S) j want=some b:=fun b ds S hb=>by
   unfold mi
   rw [List.getElem?_toArray,←oZ,hd]
   exact hb
  split at h
  ·rename_i b hb
   have same:∀(F':Tr A) (c:Bool),b=c→F'.get=(fun m=>if m=d then some (.v (.bool c)) else F.get m)→∀ds S,fI n F' ds S=fI n F ds S:=fun F' c hc e ds S=>by
    have:bl F'.get=bl F.get:=by
     funext i
     by_cases hi:i=d
     ·subst hi
      rw [yb hb (by intro h;cases h),hc]
      unfold bl
      rw [e];simp
     ·unfold bl
      rw [e];simp [hi]
    unfold fI
    rw [this]
   rcases ph h with ⟨rfl,h1⟩ | ⟨rfl,h1⟩
   ·obtain ⟨_,F',k1,k2⟩:=bu h1
    exact ⟨F',want,k1,same F' true rfl k2,fun ds S=>gv _ ds S (by rw [hb];cases want<;>rfl)⟩
   ·obtain ⟨_,F',k1,k2⟩:=bu h1
    exact ⟨F',!want,k1,same F' false rfl k2,fun ds S=>gv _ ds S (by rw [hb];cases want<;>rfl)⟩
  ·rename_i hb
   exact ⟨F,false,h,fun ds S=>rfl,fun ds S=>gv _ ds S (by rw [hb])⟩
  ·cases h
 ·cases h
def F6 (p:A):A:=match p with
 | .op r (some j)=>.tp (.eG r j) []
 | .op _ none=>.v (.pointer none)
 | .os r z (some j)=>.tw (.eG r j) z
 | .os _ _ none=>.e0
 | .om r (some j)=>.mp (.eG r j)
 | .om _ none=>.v (.map none)
 | p=>p
theorem F5 {p:A} {g:G} {v:Value} (h:V g p v):V g (F6 p) v:=by
 unfold F6
 split
 ·cases h with | op _ _ _ _ h1=>exact h1 _ rfl
 ·cases h with | op _ _ _ h0 _=>rw [h0 rfl];exact .v _
 ·cases h with | os _ _ _ _ _ h1=>exact h1 _ rfl
 ·cases h with | os _ _ _ _ h0 _=>exact h0 rfl
 ·cases h with | om _ _ _ _ h1=>exact h1 _ rfl
 ·cases h with | om _ _ _ h0 _=>rw [h0 rfl];exact .v _
 ·exact h
def opn (n:Nat) (F:Tr A) (l:List Nat) (x:Operand):A:=match x with
 | .tmp i=>bif l.any (Nat.beq i) then F6 (yc n F (.tmp i)) else yc n F (.tmp i)
 | x=>yc n F x
theorem Kj {n:Nat} {F:Tr A} {l:List Nat} {x:Operand} {g:G} {v:Value} (h:V g (yc n F x) v):V g (opn n F l x) v:=by
 cases x with
 | tmp i=>
  show V g (bif l.any (Nat.beq i) then F6 (yc n F (.tmp i)) else yc n F (.tmp i)) v
  cases l.any (Nat.beq i) with
  | true=>exact F5 h
  | false=>exact h
 | _=>exact h
def qn {β:Type}:List Nat→Tr A→(Tr A→Option β)→Option β
 | [],F,k=>k F
 | i::l,F,k=>match bl F.get i with
  | .op r v=>opt v (ff F i (some (.op r none)) (fun F=>qn l F k)) (fun j=>ff F i (some (.op r (some j))) (fun F=>qn l F k))
  | .os r z v=>opt v (ff F i (some (.os r z none)) (fun F=>qn l F k)) (fun j=>ff F i (some (.os r z (some j))) (fun F=>qn l F k))
  | .om r v=>opt v (ff F i (some (.om r none)) (fun F=>qn l F k)) (fun j=>ff F i (some (.om r (some j))) (fun F=>qn l F k))
  | _=>qn l F k
theorem sT {β:Type} {r:β}:∀(l:List Nat) (F:Tr A) (k:Tr A→Option β),qn l F k=some r→∃F',k F'=some r∧bl F'.get=bl F.get
 | [],F,k,h=>⟨F,h,rfl⟩
 | i::l,F,k,h=>by
  have same:∀(p:A),bl F.get i=p→ff F i (some p) (fun F=>qn l F k)=some r→∃F',k F'=some r∧bl F'.get=bl F.get:=fun p hp h=>by
   obtain ⟨_,F1,k1,k2⟩:=bu h
   obtain ⟨F2,k3,k4⟩:=sT l F1 k k1
   refine ⟨F2,k3,k4.trans ?_⟩
   funext m
   unfold bl at hp ⊢
   rw [k2]
   by_cases hm:m=i
   ·subst hm;simp only [if_true];exact hp.symm
   ·simp only [if_neg hm]
  unfold qn at h
  split at h
  ·rename_i q v hq
   rcases ik h with ⟨e,h1⟩ | ⟨j,e,h1⟩
   ·exact same _ (by rw [hq,e]) h1
   ·exact same _ (by rw [hq,e]) h1
  ·rename_i q z v hq
   rcases ik h with ⟨e,h1⟩ | ⟨j,e,h1⟩
   ·exact same _ (by rw [hq,e]) h1
   ·exact same _ (by rw [hq,e]) h1
  ·rename_i q v hq
   rcases ik h with ⟨e,h1⟩ | ⟨j,e,h1⟩
   ·exact same _ (by rw [hq,e]) h1
   ·exact same _ (by rw [hq,e]) h1
  ·exact sT l F k h
def rG (x:Operand):List Nat:=match x with
 | .tmp i=>[i]
 | _=>[]
def Pa (op:Op):List Nat:=match op with
 | .fieldAddr _ x _=>rG x
 | .indexAddr _ x _=>rG x
 | .load _ x=>rG x
 | .store _ x _=>rG x
 | .slice _ x _ _ _=>rG x
 | .lookup _ x _ _=>rG x
 | .mapUpdate _ x _ _=>rG x
 | .insert _ x _ _=>rG x
 | .nilCheck x=>rG x
 | .call c=>match c.callee with
  | .builtin _=>c.args.toList.flatMap rG
  | _=>[]
 | _=>[]
section
variable {P:Program} {E:Env} {cx:Cx} {n:Nat} {β:Type} {r:β}
def Kk (E:Env) (cx:Cx) (n:Nat) (op:Op) (F:Tr A) (h:H) (K:Tr A→A→H→Fp→Option β):Option β:=
 qn (Pa op) F (fun F'=>VY E cx op (opn n F' (Pa op)) h (fun pv h' T=>K F' pv h' T))
theorem Cr (hE:bW P E) (hx:ld P cx) {o:Oper} {F:Tr A} {h:H} {K:Tr A→A→H→Fp→Option β} (hr:Kk E cx n o.op F h K=some r) :
  ∃F',(∀ds S,fI n F' ds S=fI n F ds S)∧∃pv h' T,K F' pv h' T=some r∧Step P o (yc n F') h h' T pv:=by
 obtain ⟨F',h1,h2⟩:=sT _ _ _ hr
 obtain ⟨pv,h',T,k1,k2⟩:=Km hE hx h1
 refine ⟨F',fun ds S=>by unfold fI;rw [h2],pv,h',T,k1,k2.out,k2.rd,fun S2 hA r g w a next Q hI hv=>k2.ok S2 hA r g w a next Q hI (fun x hx=>Kj (hv x hx))⟩
def pU (l:List Oper):List Nat:=l.flatMap fun o=>o.dst.toList
def uR (E:Env) (cx:Cx) (n:Nat) (l0:List Oper):List Oper→Tr A→H→Fp→(Tr A→H→Fp→Option β)→Option β
 | [],F,h,U,K=>K F h U
 | o::l,F,h,U,K=>match o.guard with
  | none=>Kk E cx n o.op F h (fun F pv h' T=>te F o.dst pv (fun F'=>uR E cx n l0 l F' h' (U.cat T) K))
  | some (j,want)=>GR l0 n F j want (fun F b=>bif b then Kk E cx n o.op F h (fun F pv h' T=>te F o.dst pv (fun F'=>uR E cx n l0 l F' h' (U.cat T) K)) else te F o.dst .un (fun F'=>uR E cx n l0 l F' h U K))
def EA (F:Tr A) (h:H) (F':Tr A) (h':H) (n:Nat) (T:Fp) (W:(Exit→St→Prop)→St→Prop) (e:Exit) (ds i_:List Nat):Prop:=
 ∀S2,Agree T (hp h) S2→∀Q:Exit→St→Prop,Q e (fI n F' i_ (iU T (hp h') S2))→W Q (fI n F ds S2)
theorem sY (hE:bW P E) (hx:ld P cx) {l0:List Oper}:∀(l:List Oper) (F:Tr A) (h:H) (U:Fp) (K:Tr A→H→Fp→Option β),uR E cx n l0 l F h U K=some r →
  ∃F' h' T,K F' h' (U.cat T)=some r∧Kp (pU l) F F'∧nI h h' T∧∀ro S0 g0 w0 ds,EA F h F' h' n T (fun Q st=>B9 P ro S0 g0 w0 l0.toArray Q l st) .normal ds ds
 | [],F,h,U,K,hr=>⟨F,h,.no,by rw [Fp.rk];exact hr,.refl _ F,.refl h,fun ro S0 g0 w0 ds S2 hA Q hq=>by
   rw [qH] at hq;exact Fw hq⟩
 | o::l,F,h,U,K,hr=>by
  have yes:∀(F:Tr A),Kk E cx n o.op F h (fun F pv h' T=>te F o.dst pv (fun F'=>uR E cx n l0 l F' h' (U.cat T) K))=some r →
    (∀ds S,o.guard=none∨∃j want,o.guard=some (j,want)∧mi l0.toArray (fI n F ds S) j want=some true) →
    ∃F' h' T,K F' h' (U.cat T)=some r∧Kp (pU (o::l)) F F'∧nI h h' T∧∀ro S0 g0 w0 ds,EA F h F' h' n T (fun Q st=>B9 P ro S0 g0 w0 l0.toArray Q (o::l) st) .normal ds ds:=fun F hr hg=>by
   obtain ⟨F0,e0,pv,h1,T1,k1,k2⟩:=Cr hE hx hr
   obtain ⟨F1,k3,Kx,k4⟩:=pY k1
   obtain ⟨F2,h2,T2,k5,V5,k6,k7⟩:=sY hE hx l F1 h1 (U.cat T1) K k3
   have f1:nI h h1 T1:=⟨k2.out,k2.rd⟩
   have hg:∀ds S,o.guard=none∨∃j want,o.guard=some (j,want)∧mi l0.toArray (fI n F0 ds S) j want=some true:=fun ds S=>by rw [e0];exact hg ds S
   refine ⟨F2,h2,T1.cat T2,by rw [←Fp.jN];exact k5,(Kp.of (l:=[]) e0).trans (m:=pU (o::l)) (Kx.trans V5 (fun i hi=>zQ _ hi) (fun i hi=>zS _ hi)) (fun i hi=>by cases hi) (fun i hi=>hi),f1.trans k6,fun ro S0 g0 w0 ds S2 hA Q hq=>?_⟩
   rw [←e0]
   have mg:A_ P o ((fI n F0 ds S2).uA 0) (fI n F0 ds S2).S (iU T1 (hp h1) S2) pv:=by rw [←oZ];exact k2.ok S2 hA.left
   have qQ:B9 P ro S0 g0 w0 l0.toArray Q l (((fI n F0 ds S2).put o.dst pv).to (iU T1 (hp h1) S2)):=by
    rw [k4]
    refine k7 ro S0 g0 w0 ds _ (Agree.right f1 hA) Q ?_
    rw [gW k6];exact hq
   rcases hg ds S2 with hg | ⟨j,want,hg,hv⟩
   ·exact uW 0 hg mg qQ
   ·exact sZ 0 hg hv mg qQ
  unfold uR at hr
  split at hr
  ·rename_i hg
   exact yes F hr (fun _ _=>.inl hg)
  ·rename_i j want hg
   obtain ⟨F1,b,k1,k2,k3⟩:=yB hr
   cases b with
   | true=>
    simp only [cond_true] at k1
    obtain ⟨F',h',T,q1,qp,q2,q3⟩:=yes F1 k1 (fun ds S=>.inr ⟨j,want,hg,by rw [k2];exact k3 ds S⟩)
    refine ⟨F',h',T,q1,(Kp.of (l:=[]) k2).trans qp (fun i hi=>by cases hi) (fun i hi=>hi),q2,fun ro S0 g0 w0 ds S2 hA Q hq=>?_⟩
    rw [←k2]
    exact q3 ro S0 g0 w0 ds S2 hA Q hq
   | false=>
    simp only [cond_false] at k1
    obtain ⟨F2,k4,Kx,k5⟩:=pY k1
    obtain ⟨F',h',T,q1,qp,q2,q3⟩:=sY hE hx l F2 h U K k4
    refine ⟨F',h',T,q1,(Kp.of (l:=[]) k2).trans (m:=pU (o::l)) (Kx.trans qp (fun i hi=>zQ _ hi) (fun i hi=>zS _ hi)) (fun i hi=>by cases hi) (fun i hi=>hi),q2,fun ro S0 g0 w0 ds S2 hA Q hq=>?_⟩
    have:=q3 ro S0 g0 w0 ds S2 hA Q hq
    rw [←k5 n ds S2 S2] at this
    rw [←k2]
    refine uV hg (by rw [k2];exact k3 ds S2) ?_
    rw [←ta (st:=fI n F1 ds S2)]
    exact this
end
end
section
open Go.RowKit
def iB (kp:Nat→Bool) (i:Nat):Bool:=!(Nat.blt i 16777216) && kp (lU i)
def G.kT (kp:Nat→Bool) (g:G):G:=⟨fun i=>if iB kp i=true then g.bq i else none,g.mem,g.lp⟩
theorem tH (kp:Nat→Bool) (g:G):Le (g.kT kp) g:=⟨fun o p h=>(by
 have h:(if iB kp o=true then g.bq o else none)=some p:=h
 split at h
 ·exact h
 ·cases h),fun _ _ _ h=>h,fun _ _ h=>h⟩
theorem jB {kp:Nat→Bool} {g:G} {i:Nat} (h:iB kp i=true):(g.kT kp).bq i=g.bq i:=if_pos h
theorem CT {kp:Nat→Bool} {g:G} {i:Nat} (h:iB kp i=false):(g.kT kp).bq i=none:=if_neg (by rw [h];simp)
def VK (kp:Nat→Bool) (c:A):Prop:=∀g v,V g c v→V (g.kT kp) c v
def Mo (kp:Nat→Bool):Ob→Prop
 | .cells cs=>∀c∈cs,VK kp c
 | .cL (.map es)=>∀e∈es,VK kp e.1∧VK kp e.2
 | .cL _=>False
def G.join (kp:Nat→Bool) (g0 g:G):G:=⟨fun i=>if iB kp i=true then g0.bq i else g.bq i,g0.mem,g0.lp⟩
theorem Au (kp:Nat→Bool) (g0 g:G):(G.join kp g0 g).kT kp=g0.kT kp:=by
 unfold G.join G.kT
 congr 1
 funext i
 by_cases h:iB kp i=true
 ·simp only [if_pos h]
 ·simp only [if_neg h]
theorem VK.join {kp:Nat→Bool} {c:A} (h:VK kp c) {g0 g:G} {v:Value} (hv:V g0 c v):V (G.join kp g0 g) c v:=by
 have:=h g0 v hv
 rw [←Au kp g0 g] at this
 exact this.mono (tH kp _)
def Hp.join (kp:Nat→Bool) (S0 S:Hp):Hp:=⟨fun i=>if iB kp i=true then S0.ob i else S.ob i,fun i=>if iB kp i=true then S0.fr i else S.fr i⟩
theorem mD.conv {g g':G} {w w':World} {b t:Nat} {cs:List A} (h:mD g w b t cs) (hw:w'.heap[b]?=w.heap[b]?) (hc:∀c∈cs,∀v,V g c v→V g' c v):mD g' w' b t cs:=by
 obtain ⟨cur,ty,k2,oO,k3⟩:=h
 exact ⟨cur,ty,hw.trans k2,oO,k3.1,fun j c x e1 e2=>⟨hc c (zG e1) _ (k3.2 j c x e1 e2).1,(k3.2 j c x e1 e2).2⟩⟩
theorem DC {kp:Nat→Bool} {g:G} {S S0:Hp} {w:World} (hI:Inv g S w) (h0:∀i,iB kp i=false→S0.ob i=none) (h1:∀i,iB kp i=true→S.ob i=S0.ob i∧(S.fr i↔S0.fr i)) (hk:∀i x,S0.ob i=some x→Mo kp x):Inv (g.kT kp) S0 w:=by
 have kn:∀{i x},S0.ob i=some x→iB kp i=true∧S.ob i=some x:=fun {i x} h=>by
  cases g_:iB kp i with
  | false=>rw [h0 i g_] at h;cases h
  | true=>exact ⟨rfl,(h1 i g_).1.trans h⟩
 have sub:=(tH kp g).bq
 refine ⟨fun o cs h=>?_,fun o x h=>?_,fun o h=>?_,fun o b s h=>hI.lt o b s (sub _ _ h),fun o o' x x' b s s' e1 e2 e3 e4=>hI.inj o o' x x' b s s' (kn e1).2 (kn e2).2 (sub _ _ e3) (sub _ _ e4),hI.mem,fun o b s i x e1 e2=>hI.lv o b s i x (kn e1).2 (sub _ _ e2),hI.lp⟩
 ·obtain ⟨q1,q2⟩:=kn h
  rw [jB q1]
  rcases hI.cells o cs q2 with ⟨k1,k2⟩ | ⟨b,t,k1,k2⟩
  ·exact .inl ⟨k1,k2⟩
  ·exact .inr ⟨b,t,k1,k2.conv rfl (fun c hc v hv=>hk o _ h c hc g v hv)⟩
 ·obtain ⟨q1,q2⟩:=kn h
  obtain ⟨b,s,ob,k1,k2,k3⟩:=hI.cL o x q2
  refine ⟨b,s,ob,by rw [jB q1];exact k1,k2,?_⟩
  have hx:=hk o _ h
  cases x with
  | map es=>
   obtain ⟨jq,clock,e1,e2,e3⟩:=k3
   exact ⟨jq,clock,e1,e2,fun i e q a1 a2=>let hq:=hx q (zG a2);⟨hq.1 g _ (e3 i e q a1 a2).1,hq.2 g _ (e3 i e q a1 a2).2⟩⟩
  | _=>exact hx.elim
 ·cases g_:iB kp o with
  | false=>exact CT g_
  | true=>rw [jB g_];exact hI.fresh o ((h1 o g_).2.2 h)
theorem AF {kp:Nat→Bool} {g DB:G} {S S0 wz:Hp} {w w':World} (hI:Inv g S w) (h0:∀i,iB kp i=false→S0.ob i=none) (h1:∀i,iB kp i=true→S.ob i=S0.ob i∧(S.fr i↔S0.fr i))
  (hk:∀i x,iB kp i=true→wz.ob i=some x→Mo kp x) (EZ:Inv DB wz w') (x0:Ext S0 (g.kT kp) w wz DB w') :
  Inv (G.join kp DB g) (Hp.join kp wz S) w'∧Ext S g w (Hp.join kp wz S) (G.join kp DB g) w':=by
 have ow:∀{k},pJ S0 (g.kT kp) k→∃o s x,iB kp o=true∧S.ob o=some x∧g.bq o=some (some k,s):=fun {k} ⟨o,s,x,e1,e2⟩=>by
  cases g_:iB kp o with
  | false=>rw [h0 o g_] at e1;cases e1
  | true=>exact ⟨o,s,x,g_,(h1 o g_).1.trans e1,(tH kp g).bq _ _ e2⟩
 have Ki:∀{k},pJ S0 (g.kT kp) k→pJ S g k:=fun {k} h=>by
  obtain ⟨o,s,x,_,e1,e2⟩:=ow h
  exact ⟨o,s,x,e1,e2⟩
 have other:∀{o x b s},iB kp o=false→S.ob o=some x→g.bq o=some (some b,s)→¬pJ S0 (g.kT kp) b:=fun {o x b s} hn e1 e2 h=>by
  obtain ⟨o',s',x',k1,k2,k3⟩:=ow h
  have:=hI.inj o o' x x' b s s' e1 k2 e2 k3
  rw [this,k1] at hn;cases hn
 have ji:∀{i},iB kp i=true→(G.join kp DB g).bq i=DB.bq i∧(Hp.join kp wz S).ob i=wz.ob i∧((Hp.join kp wz S).fr i↔wz.fr i):=fun {i} h=>⟨if_pos h,if_pos h,by show (if iB kp i=true then _ else _)↔_;rw [if_pos h]⟩
 have jo:∀{i},iB kp i=false→(G.join kp DB g).bq i=g.bq i∧(Hp.join kp wz S).ob i=S.ob i∧((Hp.join kp wz S).fr i↔S.fr i):=fun {i} h=>by
  have h':¬iB kp i=true:=by rw [h];simp
  exact ⟨if_neg h',if_neg h',by show (if iB kp i=true then _ else _)↔_;rw [if_neg h']⟩
 have le:Le g (G.join kp DB g):=⟨fun o p e=>(by
  cases g_:iB kp o with
  | true=>rw [(ji g_).1];exact x0.le.bq o p (by rw [jB g_];exact e)
  | false=>rw [(jo g_).1];exact e),x0.le.mem,x0.le.lp⟩
 have heap:∀{o x b s},iB kp o=false→S.ob o=some x→g.bq o=some (some b,s)→w'.heap[b]?=w.heap[b]?:=fun {o x b s} hn e1 e2=>x0.frame b (hI.lt o b s e2) (other hn e1 e2)
 refine ⟨⟨fun o cs h=>?_,fun o x h=>?_,fun o h=>?_,fun o b s h=>?_,fun o o' x x' b s s' e1 e2 e3 e4=>?_,EZ.mem,fun o b s i x e1 e2=>?_,EZ.lp⟩,⟨le,x0.os,x0.tape,x0.output,x0.size,fun k Uv Dk=>x0.frame k Uv (fun h=>Dk (Ki h)),fun k h=>?_,fun o p h=>?_,fun o h=>?_,fun b i x h=>?_,fun b l h=>x0.lpo b l h⟩⟩
 ·cases g_:iB kp o with
  | true=>
   rw [(ji g_).2.1] at h
   rw [(ji g_).1]
   rcases EZ.cells o cs h with ⟨k1,k2⟩ | ⟨b,t,k1,k2⟩
   ·exact .inl ⟨k1,k2⟩
   ·exact .inr ⟨b,t,k1,k2.conv rfl (fun c hc v hv=>(hk o _ g_ h c hc).join hv)⟩
  | false=>
   rw [(jo g_).2.1] at h
   rw [(jo g_).1]
   rcases hI.cells o cs h with ⟨k1,k2⟩ | ⟨b,t,k1,k2⟩
   ·exact .inl ⟨k1,k2⟩
   ·exact .inr ⟨b,t,k1,k2.conv (heap g_ h k1) (fun c hc v hv=>hv.mono le)⟩
 ·cases g_:iB kp o with
  | true=>
   rw [(ji g_).2.1] at h
   rw [(ji g_).1]
   obtain ⟨b,s,ob,k1,k2,k3⟩:=EZ.cL o x h
   refine ⟨b,s,ob,k1,k2,?_⟩
   have hx:=hk o _ g_ h
   cases x with
   | map es=>
    obtain ⟨jq,clock,e1,e2,e3⟩:=k3
    exact ⟨jq,clock,e1,e2,fun i e q a1 a2=>let hq:=hx q (zG a2);⟨hq.1.join (e3 i e q a1 a2).1,hq.2.join (e3 i e q a1 a2).2⟩⟩
   | _=>exact hx.elim
  | false=>
   rw [(jo g_).2.1] at h
   rw [(jo g_).1]
   obtain ⟨b,s,ob,k1,k2,k3⟩:=hI.cL o x h
   exact ⟨b,s,ob,k1,(heap g_ h k1).trans k2,k3.mono le⟩
 ·cases g_:iB kp o with
  | true=>rw [(ji g_).1];exact EZ.fresh o ((ji g_).2.2.1 h)
  | false=>rw [(jo g_).1];exact hI.fresh o ((jo g_).2.2.1 h)
 ·cases g_:iB kp o with
  | true=>rw [(ji g_).1] at h;exact EZ.lt o b s h
  | false=>rw [(jo g_).1] at h;exact Nat.lt_of_lt_of_le (hI.lt o b s h) x0.size
 ·have mixed:∀{o o' x x' b s s'},iB kp o=true→iB kp o'=false→wz.ob o=some x→S.ob o'=some x'→DB.bq o=some (some b,s)→g.bq o'=some (some b,s')→False:=fun {o o' x x' b s s'} h1 h2 e1 e2 e3 e4=>by
   rcases x0.own b ⟨o,s,x,e1,e3⟩ with h | h
   ·exact other h2 e2 e4 h
   ·have:=hI.lt o' b s' e4;omega
  cases g_:iB kp o with
  | true=>
   rw [(ji g_).2.1] at e1
   rw [(ji g_).1] at e3
   cases qV:iB kp o' with
   | true=>
    rw [(ji qV).2.1] at e2
    rw [(ji qV).1] at e4
    exact EZ.inj o o' x x' b s s' e1 e2 e3 e4
   | false=>
    rw [(jo qV).2.1] at e2
    rw [(jo qV).1] at e4
    exact (mixed g_ qV e1 e2 e3 e4).elim
  | false=>
   rw [(jo g_).2.1] at e1
   rw [(jo g_).1] at e3
   cases qV:iB kp o' with
   | true=>
    rw [(ji qV).2.1] at e2
    rw [(ji qV).1] at e4
    exact (mixed qV g_ e2 e1 e4 e3).elim
   | false=>
    rw [(jo qV).2.1] at e2
    rw [(jo qV).1] at e4
    exact hI.inj o o' x x' b s s' e1 e2 e3 e4
 ·cases g_:iB kp o with
  | true=>
   rw [(ji g_).2.1] at e1
   rw [(ji g_).1] at e2
   exact EZ.lv o b s i x e1 e2
  | false=>
   rw [(jo g_).2.1] at e1
   rw [(jo g_).1] at e2
   show DB.mem b i=none
   cases hm:DB.mem b i with
   | none=>rfl
   | some y=>
    rcases x0.tC b i y hm with h | h | h
    ·have:=hI.lv o b s i x e1 e2
     have h:g.mem b i=some y:=h
     rw [this] at h;cases h
    ·exact absurd h (other g_ e1 e2)
    ·have:=hI.lt o b s e2;omega
 ·obtain ⟨o,s,x,e1,e2⟩:=h
  cases g_:iB kp o with
  | true=>
   rw [(ji g_).2.1] at e1
   rw [(ji g_).1] at e2
   rcases x0.own k ⟨o,s,x,e1,e2⟩ with h | h
   ·exact .inl (Ki h)
   ·exact .inr h
  | false=>
   rw [(jo g_).2.1] at e1
   rw [(jo g_).1] at e2
   exact .inl ⟨o,s,x,e1,e2⟩
 ·cases g_:iB kp o with
  | true=>
   rw [(ji g_).1] at h
   rcases x0.Jv o p h with h | ⟨h,k⟩
   ·rw [jB g_] at h;exact .inl h
   ·rw [jB g_] at h;exact .inr ⟨h,(h1 o g_).2.2 k⟩
  | false=>rw [(jo g_).1] at h;exact .inl h
 ·cases g_:iB kp o with
  | true=>exact (h1 o g_).2.2 (x0.fr o ((ji g_).2.2.1 h))
  | false=>exact (jo g_).2.2.1 h
 ·rcases x0.tC b i x h with h | h | h
  ·exact .inl h
  ·exact .inr (.inl (Ki h))
  ·exact .inr (.inr h)
end
section
open Go.RowKit
theorem PC.frame {P:Program} {f:FuncId} {kp:Nat→Bool} {aa:List A} {S S0 wz:Hp} {r:A} (h0:∀i,iB kp i=false→S0.ob i=none) (h1:∀i,iB kp i=true→S.ob i=S0.ob i∧(S.fr i↔S0.fr i)) (hk:∀i x,S0.ob i=some x→Mo kp x)
  (Bj:∀i x,iB kp i=true→wz.ob i=some x→Mo kp x) (ha:∀a∈aa,VK kp a) (hr:VK kp r) (h:PC P f aa S0 wz r):PC P f aa S (Hp.join kp wz S) r:=fun g w vs hI hl hv=>by
 refine (h (g.kT kp) w vs (DC hI h0 h1 hk) hl (fun i p v e1 e2=>ha p (zG e1) g v (hv i p v e1 e2))).mono ?_
 rintro e w' ⟨v,g',rfl,k1,k2,k3⟩
 obtain ⟨q1,q2⟩:=AF hI h0 h1 Bj k2 k3
 exact ⟨v,_,rfl,hr.join k1,q1,q2⟩
def o8 (kp:Nat→Bool):Ty→Bool
 | .int _=>true
 | .bool=>true
 | .unit=>true
 | .pair a b=>o8 kp a && o8 kp b
 | .arr _ t=>o8 kp t
 | .aK _=>true
 | .ptr r=>Nat.blt r 64 && kp r
 | .dO r=>Nat.blt r 64 && kp r
 | .jU r _=>Nat.blt r 64 && kp r
 | .oM r _=>Nat.blt r 64 && kp r
 | .mp r=>Nat.blt r 64 && kp r
theorem tG {kp:Nat→Bool} {r j:Nat} (h:r<64) (hk:kp r=true):iB kp (fj r j)=true:=by
  have h1:=nr r j
  have h2:=ln (j:=j) h
  generalize fj r j=i at h1 h2
  unfold iB
  rw [h2,hk,Bool.and_true]
  cases hx:Nat.blt i 16777216 with
  | false=>rfl
  | true=>
            have:i<16777216:=by simpa using hx
            unfold cG at h1;omega
theorem VK.v {kp:Nat→Bool} (x:Value):VK kp (.v x):=fun g v h=>by cases h;exact .v _
theorem VK.tp {kp:Nat→Bool} {r j:Nat} (h:r<64) (hk:kp r=true):VK kp (.tp (.eG r j) []):=fun g v hv=>by
 cases hv with
 | tp _ _ b s bO hp=>exact .tp _ _ b s (by rw [show (Ref.eG r j).id=fj r j from rfl,jB (tG h hk)];exact bO) hp
theorem VK.tw {kp:Nat→Bool} {r j z:Nat} (h:r<64) (hk:kp r=true):VK kp (.tw (.eG r j) z):=fun g v hv=>by
 have e:(g.kT kp).bq (Ref.eG r j).id=g.bq (Ref.eG r j).id:=jB (tG h hk)
 cases hv with
 | sc _ _ ad bO=>exact .sc _ _ ad (by rw [e];exact bO)
 | tw _ _ n b cap t bO hn hx hp d hd=>exact .tw _ _ n b cap t (by rw [e];exact bO) hn hx hp d hd
theorem VK.mp {kp:Nat→Bool} {r j:Nat} (h:r<64) (hk:kp r=true):VK kp (.mp (.eG r j)):=fun g v hv=>by
 cases hv with
 | mp _ b s bO=>exact .mp _ b s (by rw [show (Ref.eG r j).id=fj r j from rfl,jB (tG h hk)];exact bO)
theorem VK.tl {kp:Nat→Bool} {t:Ty} {f:Bool} {l:List t.T}:VK kp (.tl t f l):=fun g v hv=>by
 cases hv with
 | tl _ _ _ _ hd=>exact .tl t f l v hd
theorem vJ {α β:Type} {f:α→List β} {p:β→Prop} (h:∀x,∀c∈f x,p c) (l:List α):∀c∈l.flatMap f,p c:=fun c hc=>by
 obtain ⟨x,_,hx⟩:=List.mem_flatMap.1 hc
 exact h x c hx
theorem nz {kp:Nat→Bool}:∀(t:Ty) (x:t.T),o8 kp t=true→∀c∈aA t x,VK kp c
 | .int k,x,_,c,hc=>by rcases zF.1 hc with rfl;exact .v _
 | .bool,x,_,c,hc=>by rcases zF.1 hc with rfl;exact .v _
 | .unit,x,_,c,hc=>by cases hc
 | .pair a b,x,h,c,hc=>by
  simp only [o8,zC] at h
  rcases zX.1 hc with hc | hc
  ·exact nz a x.1 h.1 c hc
  ·exact nz b x.2 h.2 c hc
 | .arr n t,l,h,c,hc=>vJ (f:=fun i=>aA t (nth t.cK l i)) (fun i c hc=>nz t _ h c hc) _ c hc
 | .aK t,l,_,c,hc=>by rcases zF.1 hc with rfl;exact .tl
 | .ptr r,x,h,c,hc=>by
  simp only [o8,zC] at h
  rcases zF.1 hc with rfl
  intro g v hv
  cases hv with
  | op _ _ _ h0 h1=>exact .op r x v h0 (fun j e=>VK.tp (bb h.1) h.2 g v (h1 j e))
 | .dO r,j,h,c,hc=>by
  simp only [o8,zC] at h
  rcases zF.1 hc with rfl
  exact .tp (bb h.1) h.2
 | .jU r z,x,h,c,hc=>by
  simp only [o8,zC] at h
  rcases zF.1 hc with rfl
  intro g v hv
  cases hv with
  | os _ _ _ _ h0 h1=>exact .os r z x v (fun e=>by cases h0 e with | e0 ad=>exact .e0 ad) (fun j e=>VK.tw (bb h.1) h.2 g v (h1 j e))
 | .oM r z,j,h,c,hc=>by
  simp only [o8,zC] at h
  rcases zF.1 hc with rfl
  exact .tw (bb h.1) h.2
 | .mp r,x,h,c,hc=>by
  simp only [o8,zC] at h
  rcases zF.1 hc with rfl
  intro g v hv
  cases hv with
  | om _ _ _ h0 h1=>exact .om r x v h0 (fun j e=>VK.mp (bb h.1) h.2 g v (h1 j e))
theorem VK.agg {kp:Nat→Bool} {cs:List A} (h:∀c∈cs,VK kp c):VK kp (.agg cs):=fun g v hv=>by
 cases hv with
 | agg _ vs hl h1 h2=>exact .agg cs vs hl h1 (fun i c x e1 e2=>h c (zG e1) g x (h2 i c x e1 e2))
theorem VK.jz {kp:Nat→Bool} {cs:List A} (h:∀c∈cs,VK kp c):VK kp (.jz cs):=fun g v hv=>by
 cases hv with
 | jz _ vs hl h2=>exact .jz cs vs hl (fun i c x e1 e2=>h c (zG e1) g x (h2 i c x e1 e2))
theorem VK.cF {kp:Nat→Bool}:VK kp .cF:=fun g v _=>.cF v
theorem VK.pack {kp:Nat→Bool} {a:Bool} {t:Ty} (x:t.T) (h:o8 kp t=true):VK kp (bZ a t x):=by
 unfold bZ
 cases a with
 | true=>exact .agg (nz t x h)
 | false=>
  simp only [cond_false]
  split
  ·rename_i c hc
   exact nz t x h c (by rw [hc];exact .head _)
  ·exact .cF
def RK.o8 (kp:Nat→Bool):RK→Bool
 | .box t=>Bm.o8 kp t
 | .row t=>Bm.o8 kp t
 | .map _ tk _ tv=>Bm.o8 kp tk && Bm.o8 kp tv
theorem zi {kp:Nat→Bool} {k:RK} {c:k.T} {j:Nat} {x:Ob} (hk:k.o8 kp=true) (h:dP k c j=some x):Mo kp x:=by
 cases k with
 | box t=>
  have h:(match kW (α:=t.T) c j with | some x=>some (Ob.cells (aA t x)) | none=>none)=some x:=h
  split at h
  ·cases h;exact nz t _ hk
  ·cases h
 | row t=>
  have h:(match kW (α:=Option (List t.T)) c j with | some (some l)=>some (Ob.cells (l.flatMap (aA t))) | _=>none)=some x:=h
  split at h
  ·cases h;exact vJ (fun y c hc=>nz t y hk c hc) _
  ·cases h
 | map ka tk va tv=>
  have h:(match kW (α:=List (tk.T×tv.T)) c j with | some es=>some (Ob.cL (.map (ib ka tk va tv es))) | none=>none)=some x:=h
  simp only [RK.o8,zC] at hk
  split at h
  ·cases h
   intro e he
   obtain ⟨y,_,rfl⟩:=List.mem_map.1 he
   exact ⟨.pack _ hk.1,.pack _ hk.2⟩
  ·cases h
end
section
open Go.RowKit
deriving instance DecidableEq for RK
def wM:List A→A
 | [p]=>p
 | ps=>.jz ps
structure dM where
 ps:List (Bool×Ty)
 rs:List (Bool×Ty)
 rg:List (Nat×RK)
 wg:List (Nat×RK)
def kc:List (Bool×Ty)→Type
 | []=>Unit
 | p::l=>p.2.T×kc l
def mB:(l:List (Bool×Ty))→kc l→List A
 | [],_=>[]
 | p::l,x=>bZ p.1 p.2 x.1::mB l x.2
def rD:List (Nat×RK)→Type
 | []=>Unit
 | p::l=>p.2.T×rD l
def dx:(l:List (Nat×RK))→rD l→List Rg
 | [],_=>[]
 | p::l,x=>⟨p.1,p.2,x.1⟩::dx l x.2
def h0 (rl wl:List (Nat×RK)) (c:rD rl) (d:rD wl):H:=⟨.nil,0,dx wl d++dx rl c,[]⟩
def JP:(l:List (Bool×Ty))→List A→Option (kc l)
 | [],[]=>some ()
 | p::l,a::aa=>match kR p.1 p.2 a,JP l aa with
  | some x,some y=>some (x,y)
  | _,_=>none
 | _,_=>none
theorem sQ:∀(l:List (Bool×Ty)) (aa:List A) (x:kc l),JP l aa=some x→aa.length=(mB l x).length∧∀(i:Nat) (a b:A),aa[i]?=some a→(mB l x)[i]?=some b→∀g v,V g a v→V g b v
 | [],[],x,_=>⟨rfl,fun i a b h=>by simp at h⟩
 | p::l,a::aa,x,h=>by
  simp only [JP] at h
  split at h
  ·rename_i y z h1 h2
   cases h
   obtain ⟨k1,k2⟩:=sQ l aa z h2
   refine ⟨congrArg Nat.succ k1,fun i a' b e1 e2=>?_⟩
   cases i with
   | zero=>
    have e1:a=a':=Option.some.inj e1
    have e2:bZ p.1 p.2 y=b:=Option.some.inj e2
    subst e1 e2
    exact fun g v hv=>jY h1 hv
   | succ i=>exact k2 i a' b e1 e2
  ·cases h
 | [],_::_,_,h=>by cases h
 | _::_,[],_,h=>by cases h
def JE (a b:RK) (c:a.T):Option b.T:=if h:a=b then some (h▸c) else none
def di (l:List (Nat×RK)) (r:Nat):Bool:=l.any fun p=>Nat.beq p.1 r
def xj:(l:List (Nat×RK))→List Rg→Option (rD l)
 | [],_=>some ()
 | p::l,rg=>match bw rg p.1,xj l rg with
  | some ⟨_,k,c⟩,some y=>match JE k p.2 c with
   | some x=>some (x,y)
   | none=>none
  | _,_=>none
theorem xW:∀{rg:List Rg} {r:Nat} {x:Rg},bw rg r=some x→x.r=r
 | y::l,r,x,h=>by
  unfold bw at h
  cases hy:Nat.beq y.r r with
  | true=>rw [hy] at h;cases h;exact beq_eq hy
  | false=>rw [hy] at h;exact xW h
theorem dT:∀(l:List (Nat×RK)) (c:rD l) (r:Nat),di l r=false→bw (dx l c) r=none
 | [],_,_,_=>rfl
 | p::l,c,r,h=>by
  have h:(Nat.beq p.1 r || di l r)=false:=h
  rw [Bool.or_eq_false_iff] at h
  show (bif Nat.beq p.1 r then _ else _)=_
  rw [h.1]
  exact dT l c.2 r h.2
theorem jl:∀(l:List (Nat×RK)) (c:rD l) (r:Nat),di l r=true→∃x,bw (dx l c) r=some x
 | p::l,c,r,h=>by
  show ∃x,(bif Nat.beq p.1 r then some (⟨p.1,p.2,c.1⟩:Rg) else bw (dx l c.2) r)=some x
  cases hq:Nat.beq p.1 r with
  | true=>exact ⟨_,rfl⟩
  | false=>
   have h:(Nat.beq p.1 r || di l r)=true:=h
   rw [hq,Bool.false_or] at h
   exact jl l c.2 r h
theorem gS:∀(l k:List Rg) (r:Nat),bw (l++k) r=match bw l r with | some x=>some x | none=>bw k r
 | [],k,r=>rfl
 | y::l,k,r=>by
  show (bif Nat.beq y.r r then some y else bw (l++k) r)=match (bif Nat.beq y.r r then some y else bw l r) with | some x=>some x | none=>bw k r
  cases hy:Nat.beq y.r r with
  | true=>rfl
  | false=>exact gS l k r
theorem kX:∀(l:List (Nat×RK)) (rg:List Rg) (c:rD l),xj l rg=some c→∀r,di l r=true→bw (dx l c) r=bw rg r∧∃x,bw rg r=some x
 | [],_,_,_,_,h=>by cases h
 | p::l,rg,c,hg,r,h=>by
  simp only [xj] at hg
  split at hg
  ·rename_i r' k c' y h1 h2
   split at hg
   ·rename_i x hx
    cases hg
    show (bif Nat.beq p.1 r then some (⟨p.1,p.2,x⟩:Rg) else bw (dx l y) r)=_∧_
    cases hp:Nat.beq p.1 r with
    | true=>
     have e:=beq_eq hp
     subst e
     have hr:=xW h1
     simp only at hr
     subst hr
     unfold JE at hx
     split at hx
     ·rename_i ek
      obtain ⟨p1,p2⟩:=p
      simp only at ek
      subst ek
      cases hx
      rw [h1]
      exact ⟨rfl,_,rfl⟩
     ·cases hx
    | false=>
     have h:(Nat.beq p.1 r || di l r)=true:=h
     rw [hp,Bool.false_or] at h
     exact kX l rg y h2 r h
   ·cases hg
  ·cases hg
def VsL (g:G) (aa:List A) (vs:List Value):Prop:=∀(i:Nat) (a:A) (v:Value),aa[i]?=some a→vs[i]?=some v→V g a v
def CvL (h h':H) (T:List Nat) (aa wy:List A):Prop:=wy.length=aa.length∧∃us,hp h'=app us (hp h)∧(∀u∈us,aI (.wr T) u.id=true) ∧
 ∀g S w (vs:List Value),Inv g S w→Agree (.wr T) (hp h) S→aa.length=vs.length→VsL g aa vs→∃g',Inv g' (app us S) w∧Ext S g w (app us S) g' w∧VsL g' wy vs
def G1 (a:Bool) (t:Ty) (p:A) (h:H):Option (A×H×List Nat):=bif a then (match p with
 | .agg cs=>match fixC 20 t cs h with
  | some (hZ,h',T)=>some (.agg hZ,h',T)
  | none=>none
 | _=>none) else bif w6 p then none else (match p.cells with
 | some [c]=>match fixC 20 t [c] h with
  | some ([c'],h',T)=>some (c',h',T)
  | _=>none
 | _=>none)
def AI:List (Bool×Ty)→List A→H→Option (List A×H×List Nat)
 | [],[],h=>some ([],h,[])
 | p::l,a::aa,h=>match G1 p.1 p.2 a h with
  | some (a',h1,T1)=>match AI l aa h1 with
   | some (wy,h2,T2)=>some (a'::wy,h2,T1++T2)
   | none=>none
  | none=>none
 | _,_,_=>none
theorem AZ {p c:A} (ha:w6 p=false) (h:p.cells=some [c]):c=p:=by
 unfold A.cells at h
 split at h
 ·cases ha
 ·rename_i x
  cases hx:x.oneCell' with
  | true=>rw [hx] at h;simp at h;exact h.symm
  | false=>rw [hx] at h;cases h
 ·cases h
 ·cases h
 ·cases h
 ·simp at h;exact h.symm
theorem yH {a:Bool} {t:Ty} {p p':A} {h h':H} {T:List Nat} (hf:G1 a t p h=some (p',h',T)):∃us,hp h'=app us (hp h)∧(∀u∈us,aI (.wr T) u.id=true)∧∀g S w (v:Value),Inv g S w→Agree (.wr T) (hp h) S→V g p v→∃g',Inv g' (app us S) w∧Ext S g w (app us S) g' w∧V g' p' v:=by
 unfold G1 at hf
 cases a with
 | true=>
  simp only [cond_true] at hf
  split at hf
  ·rename_i cs
   split at hf
   ·rename_i hZ h1 T1 hc
    simp only [zI,zU] at hf
    obtain ⟨rfl,rfl,rfl⟩:=hf
    obtain ⟨us,c1,c2,c3⟩:=oz _ _ _ _ _ _ _ hc
    refine ⟨us,c1,c2,fun g S w v hI hA hv=>?_⟩
    cases hv with
    | agg _ vs hl h1 hh=>
     obtain ⟨g',q1,q2,q3⟩:=c3 g S w vs.toList hI hA ⟨by simpa using hl,fun j c x e1 e2=>⟨hh j c x e1 (by simpa using e2),h1 x (zG e2)⟩⟩
     exact ⟨g',q1,q2,by have:=q3.agg;simpa using this⟩
   ·cases hf
  ·cases hf
 | false=>
  simp only [cond_false] at hf
  obtain ⟨ha,hf⟩:=jb hf
  split at hf
  ·rename_i c hc
   split at hf
   ·rename_i c' h1 T1 GG
    simp only [zI,zU] at hf
    obtain ⟨rfl,rfl,rfl⟩:=hf
    obtain ⟨us,c1,c2,c3⟩:=oz _ _ _ _ _ _ _ GG
    obtain rfl:=AZ ha hc
    refine ⟨us,c1,c2,fun g S w v hI hA hv=>?_⟩
    obtain ⟨g',q1,q2,q3⟩:=c3 g S w [v] hI hA ⟨rfl,fun j c x e1 e2=>by
     cases j with
     | zero=>simp at e1 e2;subst e1 e2;exact ⟨hv,hv.sc1 ha hc⟩
     | succ j=>simp at e1⟩
    exact ⟨g',q1,q2,(q3.2 0 _ v rfl rfl).1⟩
   ·cases hf
  ·cases hf
theorem t_:∀{l:List (Bool×Ty)} {aa wy:List A} {h h':H} {T:List Nat},AI l aa h=some (wy,h',T)→CvL h h' T aa wy
 | [],[],wy,h,h',T,hf=>by
  simp only [AI,zI,zU] at hf
  obtain ⟨rfl,rfl,rfl⟩:=hf
  exact ⟨rfl,[],rfl,fun u hu=>(by simp at hu),fun g S w vs hI _ _ hv=>⟨g,hI,.refl S g w,hv⟩⟩
 | p::l,a::aa,wy,h,h',T,hf=>by
  simp only [AI] at hf
  split at hf
  ·rename_i a1 h1 T1 KR
   split at hf
   ·rename_i as1 h2 T2 Dm
    simp only [zI,zU] at hf
    obtain ⟨rfl,rfl,rfl⟩:=hf
    obtain ⟨us,c1,c2,c3⟩:=yH KR
    obtain ⟨hl,vs2,d1,d2,d3⟩:=t_ Dm
    refine ⟨by simp [hl],us++vs2,by rw [iy,←c1,d1],fun u hu=>?_,fun g S w vs hI hA hlen hv=>?_⟩
    ·rcases zX.1 hu with h | h
     ·exact eZ (fun i hi=>zQ _ hi) (c2 u h)
     ·exact eZ (fun i hi=>zS _ hi) (d2 u h)
    ·have GO:Agree (.wr T1) (hp h) S:=hA.mono fun i hi=>zQ _ hi
     have AB:Agree (.wr T2) (hp h1) (app us S):=by rw [c1];exact (hA.mono (fun i hi=>zS _ hi)).app us
     cases vs with
     | nil=>simp at hlen
     | cons v vs=>
      obtain ⟨g',q1,q2,q3⟩:=c3 g S w v hI GO (hv 0 a v rfl rfl)
      obtain ⟨g2,z1,z2,z3⟩:=d3 g' _ w vs q1 AB (by simpa using hlen) (fun i a v e1 e2=>(hv (i+1) a v (by simpa using e1) (by simpa using e2)).mono q2.le)
      rw [iy]
      refine ⟨g2,z1,q2.trans z2,fun i a v e1 e2=>?_⟩
      cases i with
      | zero=>simp at e1 e2;subst e1 e2;exact q3.mono z2.le
      | succ i=>exact z3 i a v (by simpa using e1) (by simpa using e2)
   ·cases hf
  ·cases hf
 | [],_::_,_,_,_,_,hf=>by cases hf
 | _::_,[],_,_,_,_,hf=>by cases hf
def xl (l:List (Bool×Ty)) (pv:A) (h:H):Option (A×H×List Nat):=match pv with
 | .jz aa=>match AI l aa h with
  | some (wy,h',T)=>some (.jz wy,h',T)
  | none=>none
 | _=>none
def xm (l:List (Bool×Ty)) (pv:A) (h:H):Option (A×H×List Nat):=match l with
 | [p]=>G1 p.1 p.2 pv h
 | l=>xl l pv h
def Plain (sg:dM):Type:=kc sg.ps→rD sg.rg→rD sg.wg→Option (kc sg.rs×rD sg.wg)
def HE (l:List (Bool×Ty)) (pv:A):Option (kc l):=match l with
 | [p]=>JP [p] [pv]
 | l=>match pv with
  | .jz aa=>JP l aa
  | _=>none
def okW (l:List (Nat×RK)) (q:Nat):Bool:=Nat.beq (q%2) 0 || l.any fun p=>Nat.beq q (ic p.1)
def Fm (cx:Cx) (f:FuncId) (sg:dM) (aa:List A) (c:rD sg.rg) (d:rD sg.wg):Option (kc sg.rs×rD sg.wg):=cx.call (kc sg.rs×rD sg.wg) f aa (h0 sg.rg sg.wg c d) (fun pv h' T=>match xm sg.rs pv h' with
 | some (EI,h2,T2)=>bif T.ws.all (okW sg.wg) && T2.all (okW sg.wg) then (match HE sg.rs EI,xj sg.wg h2.rg with
  | some y,some d'=>some (y,d')
  | _,_=>none) else none
 | none=>none)
def JX (cx:Cx) (f:FuncId) (sg:dM):Plain sg:=fun x c d=>Fm cx f sg (mB sg.ps x) c d
def uN (l:List (Bool×Ty)) (y:kc l):A:=wM (mB l y)
structure bJ (P:Program) (f:FuncId) (sg:dM) (F:Plain sg):Prop where
 fn:∀x c d y,F x c d=some y→uw P f
 pc:∀x c d y d',F x c d=some (y,d')→∃t aR lk,PC P f (mB sg.ps x) (hp (h0 sg.rg sg.wg c d)) (hp ⟨t,aR,dx sg.wg d'++dx sg.rg c,lk⟩) (uN sg.rs y)
theorem ye {l:List (Nat×RK)} {ws:List Nat} (h:ws.all (okW l)=true) {r:Nat} (hr:di l r=false):ws.any (Nat.beq (ic r))=false:=by
 cases hx:ws.any (Nat.beq (ic r)) with
 | false=>rfl
 | true=>
  obtain ⟨q,h1,h2⟩:=List.any_eq_true.1 hx
  have h3:=List.all_eq_true.1 h q h1
  obtain rfl:=beq_eq h2
  unfold okW at h3
  rw [Bool.or_eq_true] at h3
  rcases h3 with h3 | h3
  ·have:=beq_eq h3;unfold ic at this;omega
  ·obtain ⟨p,p1,p2⟩:=List.any_eq_true.1 h3
   have:r=p.1:=by have:=beq_eq p2;unfold ic at this;omega
   subst this
   rw [show di l p.1=true from List.any_eq_true.2 ⟨p,p1,Nat.beq_refl _⟩] at hr
   cases hr
theorem BB {l:List (Bool×Ty)} {pv:A} {y:kc l} (h:HE l pv=some y):∀g v,V g pv v→V g (uN l y) v:=by
 have jz:∀(l:List (Bool×Ty)) (aa:List A) (y:kc l),JP l aa=some y→∀g v,V g (.jz aa) v→V g (.jz (mB l y)) v:=fun l aa y h g v hv=>by
  obtain ⟨k1,k2⟩:=sQ l aa y h
  cases hv with
  | jz _ vs hl ER=>
   refine .jz _ vs (by rw [←k1];exact hl) (fun i c x e1 e2=>?_)
   have hi:i<aa.length:=by rw [k1];exact (zB.1 e1).1
   exact k2 i _ c (zD hi) e1 g x (ER i _ x (zD hi) e2)
 match l,y,h with
 | [p],y,h=>exact fun g v hv=>(sQ [p] [pv] y h).2 0 pv _ rfl rfl g v hv
 | [],y,h=>
  intro g v hv
  cases pv with
  | jz aa=>exact jz [] aa y h g v hv
  | _=>cases h
 | p::q::l,y,h=>
  intro g v hv
  cases pv with
  | jz aa=>exact jz (p::q::l) aa y h g v hv
  | _=>cases h
theorem Agree.self {T:Fp} {S:Hp}:Agree T S S:=fun _ _=>⟨rfl,Iff.rfl⟩
theorem fe {h:H} {i:Nat} (hl:¬i<cG):(hp h).ob i=dQ h.rg i∧((hp h).fr i↔fV h.rg i):=⟨if_neg hl,by show (if i<cG then _ else _)↔_;rw [if_neg hl]⟩
theorem oX {i:Nat} (h:¬i<16777216):res i=ic (lU i):=by
 unfold res
 rw [tA h];rfl
theorem AH {l:List (Bool×Ty)} {pv EI:A} {h h':H} {T:List Nat} (hf:xm l pv h=some (EI,h',T)):∃us,hp h'=app us (hp h)∧(∀u∈us,aI (.wr T) u.id=true)∧∀g S w (v:Value),Inv g S w→Agree (.wr T) (hp h) S→V g pv v→∃g',Inv g' (app us S) w∧Ext S g w (app us S) g' w∧V g' EI v:=by
 have jz:∀(l:List (Bool×Ty)),xl l pv h=some (EI,h',T)→∃us,hp h'=app us (hp h)∧(∀u∈us,aI (.wr T) u.id=true)∧∀g S w (v:Value),Inv g S w→Agree (.wr T) (hp h) S→V g pv v→∃g',Inv g' (app us S) w∧Ext S g w (app us S) g' w∧V g' EI v:=fun l hf=>by
  unfold xl at hf
  split at hf
  ·rename_i aa
   split at hf
   ·rename_i wy h1 T1 hc
    simp only [zI,zU] at hf
    obtain ⟨rfl,rfl,rfl⟩:=hf
    obtain ⟨hl,us,c1,c2,c3⟩:=t_ hc
    refine ⟨us,c1,c2,fun g S w v hI hA hv=>?_⟩
    cases hv with
    | jz _ vs Md hh=>
     obtain ⟨g',q1,q2,q3⟩:=c3 g S w vs.toList hI hA (by simpa using Md) (fun i c x e1 e2=>hh i c x e1 (by simpa using e2))
     exact ⟨g',q1,q2,.jz wy vs (by rw [hl,Md]) (fun i c x e1 e2=>q3 i c x e1 (by simpa using e2))⟩
   ·cases hf
  ·cases hf
 unfold xm at hf
 split at hf
 ·exact yH hf
 ·exact jz _ hf
theorem nY {P:Program} {cx:Cx} (hx:ld P cx) (f:FuncId) (sg:dM):∀aa c d y d',Fm cx f sg aa c d=some (y,d')→uw P f∧∃t aR lk,PC P f aa (hp (h0 sg.rg sg.wg c d)) (hp ⟨t,aR,dx sg.wg d'++dx sg.rg c,lk⟩) (uN sg.rs y):=fun aa c d y d' h=>by
 obtain ⟨pv,h',T,k1,k2⟩:=hx.call _ f _ _ _ _ h
 split at k1
 ·rename_i EI h2 T2 WY
  obtain ⟨kw,k1⟩:=ah k1
  rw [zC] at kw
  split at k1
  ·rename_i y' d'' h1 Uz
   cases k1
   refine ⟨k2.fn,h2.t,h2.aR,h2.lk,?_⟩
   have hs:=k2.ok (hp (h0 sg.rg sg.wg c d)) Agree.self
   have e:iU T (hp h') (hp (h0 sg.rg sg.wg c d))=hp h':=Hp.ext' (fun i=>by
    show (if aI T i=true then _ else _)=_
    split
    ·rfl
    ·rename_i hi;exact (k2.out i (by simpa using hi)).1.symm) (fun i=>by
    show (if aI T i=true then _ else _)↔_
    split
    ·exact Iff.rfl
    ·rename_i hi;exact (k2.out i (by simpa using hi)).2.symm)
   rw [e] at hs
   obtain ⟨us,c1,c2,c3⟩:=AH WY
   have hf:=kX _ _ _ Uz
   have e2:hp h2=hp ⟨h2.t,h2.aR,dx sg.wg d'++dx sg.rg c,h2.lk⟩:=by
    have key:∀i,¬i<cG→(hp h2).ob i=dQ (dx sg.wg d'++dx sg.rg c) i∧((hp h2).fr i↔fV (dx sg.wg d'++dx sg.rg c) i):=fun i hl=>by
     cases hk:di sg.wg (lU i) with
     | true=>
      obtain ⟨q1,x,q2⟩:=hf _ hk
      rw [(fe hl).1,(fe hl).2]
      unfold dQ fV
      rw [gS,q1,q2]
      exact ⟨rfl,Iff.rfl⟩
     | false=>
      have hw:wt T i=false:=by
       unfold wt
       rw [oX hl,ye kw.1 hk,Bool.and_false]
      have h3:=k2.rd i hw
      have h4:=dB us (hp h') i (fun u hu e=>by
       have:=c2 u hu
       rw [←e] at this
       have this:T2.any (Nat.beq (res i))=true:=by simpa [aI,Fp.wr] using this
       rw [oX hl,ye kw.2 hk] at this;cases this)
      rw [c1,h4.1,h4.2,h3.1,h3.2,(fe hl).1,(fe hl).2]
      show dQ (dx sg.wg d++dx sg.rg c) i=_∧(fV (dx sg.wg d++dx sg.rg c) i↔_)
      unfold dQ fV
      rw [gS,gS,dT _ _ _ hk,dT _ _ _ hk]
      exact ⟨rfl,Iff.rfl⟩
    refine Hp.ext' (fun i=>?_) (fun i=>?_)
    ·by_cases hl:i<cG
     ·show (if i<cG then _ else _)=(if i<cG then _ else _);rw [if_pos hl,if_pos hl]
     ·rw [(key i hl).1,(fe hl).1]
    ·by_cases hl:i<cG
     ·show (if i<cG then _ else _)↔(if i<cG then _ else _);rw [if_pos hl,if_pos hl]
     ·rw [(key i hl).2,(fe hl).2]
   rw [←e2,c1]
   intro g w vs hI hl hv
   refine (hs g w vs hI hl hv).mono ?_
   rintro e w' ⟨v,g',rfl,q1,q2,q3⟩
   obtain ⟨g2,z1,z2,z3⟩:=c3 g' _ w' v q2 Agree.self q1
   exact ⟨v,g2,rfl,BB h1 g2 v z3,z1,q3.trans z2⟩
  ·cases k1
 ·cases k1
theorem Fl {P:Program} {cx:Cx} (hx:ld P cx) (f:FuncId) (sg:dM):bJ P f sg (JX cx f sg):=
 ⟨fun x c d y h=>(nY hx f sg _ _ _ y.1 y.2 h).1,fun x c d y d' h=>(nY hx f sg _ _ _ _ _ h).2⟩
end
section
open Go.RowKit
def kg:(l:List (Nat×RK))→rD l→List Rg→List Rg
 | [],_,rg=>rg
 | p::l,x,rg=>jh (kg l x.2 rg) p.1 p.2 x.1
theorem lq:∀(l:List (Nat×RK)) (rg:List Rg) (c':rD l),(∀r,di l r=true→∃x,bw rg r=some x)→∀r,bw (kg l c' rg) r=if di l r=true then bw (dx l c') r else bw rg r
 | [],rg,c',_,r=>by simp [kg,di]
 | p::l,rg,c',hx,r=>by
  have ih:=lq l rg c'.2 (fun r hr=>hx r (by show (Nat.beq p.1 r || di l r)=true;rw [hr,Bool.or_true]))
  have hp:∃x,bw (kg l c'.2 rg) p.1=some x:=by
   rw [ih]
   split
   ·rename_i hk
    exact jl l c'.2 p.1 hk
   ·exact hx p.1 (by show (Nat.beq p.1 p.1 || di l p.1)=true;rw [Nat.beq_refl];rfl)
  obtain ⟨x,hp⟩:=hp
  show bw (jh (kg l c'.2 rg) p.1 p.2 c'.1) r=if (Nat.beq p.1 r || di l r)=true then (bif Nat.beq p.1 r then some (⟨p.1,p.2,c'.1⟩:Rg) else bw (dx l c'.2) r) else bw rg r
  rw [mH _ p.1 p.2 c'.1 r x hp,ih]
  by_cases hr:r=p.1
  ·subst hr;rw [if_pos rfl,Nat.beq_refl];simp
  ·have:Nat.beq p.1 r=false:=by
    cases hb:Nat.beq p.1 r with
    | false=>rfl
    | true=>exact absurd (beq_eq hb).symm hr
   rw [if_neg hr,this];simp
def dM.al (sg:dM):List (Nat×RK):=sg.wg++sg.rg
theorem CQ (l k:List (Nat×RK)) (r:Nat):di (l++k) r=(di l r || di k r):=List.any_append
def Pb (sg:dM) (h:H):Bool:=(sg.al.all fun p=>Nat.blt p.1 64 && p.2.o8 (di sg.al)) && (sg.wg.all fun p=>!(vr h (ic p.1))) && (sg.ps.all fun p=>o8 (di sg.al) p.2) && (sg.rs.all fun p=>o8 (di sg.al) p.2)
def Lq (sg:dM):Fp:=⟨false,sg.al.map fun p=>ic p.1,!sg.wg.isEmpty,sg.wg.map fun p=>ic p.1⟩
section
variable {β:Type}
def YT (sg:dM) (F:Plain sg) (aa:List A) (h:H) (K:A→H→Fp→Option β):Option β:=match JP sg.ps aa,xj sg.rg h.rg,xj sg.wg h.rg with
 | some x,some c,some d=>bif Pb sg h then bd (F x c d) (fun p=>BL (uN sg.rs p.1) (fun v=>K v { h with rg:=kg sg.wg p.2 h.rg } (Lq sg))) else none
 | _,_,_=>none
def L2:List Nat→Fp
 | []=>.no
 | l=>.wr l
theorem mF (l:List Nat) (i:Nat):aI (L2 l) i=aI (.wr l) i:=by cases l<;>rfl
theorem JM (l:List Nat) (i:Nat) (h:wt (L2 l) i=false):aI (.wr l) i=false:=by
 cases l with
 | nil=>rfl
 | cons a l=>exact sb h
def UH (sg:dM) (F:Plain sg) (aa:List A) (h:H) (K:A→H→Fp→Option β):Option β:=match AI sg.ps aa h with
 | some (wy,h1,T1)=>YT sg F wy h1 (fun v h2 T=>K v h2 ((L2 T1).cat T))
 | none=>none
theorem Gm {kp:Nat→Bool} {i:Nat} (h:i<16777216):iB kp i=false:=by
 unfold iB
 rw [wV h];rfl
theorem CR {kp:Nat→Bool} {i:Nat} (h:¬i<16777216):iB kp i=kp (lU i):=by
 unfold iB
 rw [tA h];rfl
theorem ui (l:List (Nat×RK)) (r:Nat):(l.map fun p=>ic p.1).any (Nat.beq (ic r))=di l r:=by
 induction l with
 | nil=>rfl
 | cons p l ih=>
  show (Nat.beq (ic r) (ic p.1) || (l.map fun p=>ic p.1).any (Nat.beq (ic r)))=(Nat.beq p.1 r || di l r)
  rw [ih]
  have:Nat.beq (ic r) (ic p.1)=Nat.beq p.1 r:=by
   cases h1:Nat.beq p.1 r with
   | true=>rw [beq_eq h1];exact Nat.beq_refl _
   | false=>
    cases h2:Nat.beq (ic r) (ic p.1) with
    | false=>rfl
    | true=>
     have:p.1=r:=by have:=beq_eq h2;unfold ic at this;omega
     rw [this,Nat.beq_refl] at h1;cases h1
  rw [this]
theorem Ho (l:List (Nat×RK)) (i:Nat):(l.map fun p=>ic p.1).any (Nat.beq (du i))=false:=by
 induction l with
 | nil=>rfl
 | cons p l ih=>
  show (Nat.beq (du i) (ic p.1) || (l.map fun p=>ic p.1).any (Nat.beq (du i)))=false
  rw [ih,Bool.or_false]
  cases h2:Nat.beq (du i) (ic p.1) with
  | false=>rfl
  | true=>have:=beq_eq h2;unfold ic du at this;omega
theorem nR (sg:dM) (i:Nat):aI (Lq sg) i=iB (di sg.al) i:=by
 have e:aI (Lq sg) i=(sg.al.map fun p=>ic p.1).any (Nat.beq (res i)):=Bool.false_or _
 rw [e]
 by_cases h:i<16777216
 ·rw [mI h,Gm h];exact Ho _ _
 ·rw [oX h,CR h];exact ui _ _
theorem Nv {sg:dM} {i:Nat} (h:wt (Lq sg) i=false) (hl:¬i<16777216):di sg.wg (lU i)=false:=by
 have e:(!sg.wg.isEmpty && (sg.wg.map fun p=>ic p.1).any (Nat.beq (res i)))=false:=h
 rw [oX hl,ui] at e
 cases hw:sg.wg with
 | nil=>rfl
 | cons p l=>rw [hw] at e;simpa using e
theorem rq {kp:Nat→Bool}:∀(l:List (Bool×Ty)) (x:kc l),(l.all fun p=>o8 kp p.2)=true→∀a∈mB l x,VK kp a
 | [],_,_,a,ha=>by cases ha
 | p::l,x,h,a,ha=>by
  simp only [List.all_cons,zC] at h
  rcases List.mem_cons.1 ha with rfl | ha
  ·exact .pack _ h.1
  ·exact rq l x.2 h.2 a ha
theorem qu {kp:Nat→Bool}:∀(l:List (Nat×RK)) (c:rD l),(∀p∈l,p.2.o8 kp=true)→∀r q,bw (dx l c) r=some q→q.k.o8 kp=true
 | [],c,_,r,q,h=>by cases h
 | p::l,c,hl,r,q,h=>by
  have h:(bif Nat.beq p.1 r then some (⟨p.1,p.2,c.1⟩:Rg) else bw (dx l c.2) r)=some q:=h
  cases hb:Nat.beq p.1 r with
  | true=>rw [hb] at h;cases h;exact hl p (.head _)
  | false=>rw [hb] at h;exact qu l c.2 (fun p hp=>hl p (.tail _ hp)) r q h
theorem Lr {P:Program} {f:FuncId} {sg:dM} {F:Plain sg} (hF:bJ P f sg F) {aa:List A} {h:H} {K:A→H→Fp→Option β} {r:β} (hr:YT sg F aa h K=some r):∃pv h' T,K pv h' T=some r∧sM P f aa h h' T pv:=by
 unfold YT at hr
 split at hr
 ·rename_i x c d hx hc hd
  obtain ⟨hs,hr⟩:=ah hr
  obtain ⟨⟨y,d'⟩,hy,hr⟩:=xF hr
  obtain ⟨pv,hr,o9⟩:=wG hr
  unfold Pb at hs
  simp only [zC] at hs
  obtain ⟨⟨⟨KH,_⟩,hs2⟩,hs3⟩:=hs
  obtain ⟨t,aR,lk,L_⟩:=hF.pc x c d y d' hy
  have hfc:=kX _ _ _ hc
  have hfd:=kX _ _ _ hd
  have Az:=lq sg.wg h.rg d' (fun r hr=>(hfd r hr).2)
  have Uc:∀r,di sg.al r=(di sg.wg r || di sg.rg r):=fun r=>CQ _ _ r
  have fA:∀r,di sg.al r=true→bw (dx sg.wg d++dx sg.rg c) r=bw h.rg r:=fun r hk=>by
   rw [gS]
   cases hw:di sg.wg r with
   | true=>obtain ⟨e,q,hq⟩:=hfd r hw;rw [e,hq]
   | false=>
    rw [dT _ _ _ hw]
    exact (hfc r (by rw [Uc,hw] at hk;simpa using hk)).1
  have fB:∀r,di sg.al r=true→bw (dx sg.wg d'++dx sg.rg c) r=bw (kg sg.wg d' h.rg) r:=fun r hk=>by
   rw [gS,Az]
   cases hw:di sg.wg r with
   | true=>obtain ⟨q,hq⟩:=jl sg.wg d' r hw;rw [hq];simp
   | false=>
    rw [dT _ _ _ hw]
    exact (hfc r (by rw [Uc,hw] at hk;simpa using hk)).1
  have fC:∀r,di sg.al r=false→bw (dx sg.wg d++dx sg.rg c) r=none:=fun r hk=>by
   rw [Uc,Bool.or_eq_false_iff] at hk
   rw [gS,dT _ _ _ hk.1]
   exact dT _ _ _ hk.2
  have fD:∀i,(¬i<cG→di sg.wg (lU i)=false)→(hp { h with rg:=kg sg.wg d' h.rg }).ob i=(hp h).ob i∧((hp { h with rg:=kg sg.wg d' h.rg }).fr i↔(hp h).fr i):=fun i hi=>by
   show (if i<cG then fH h.t i else dQ (kg sg.wg d' h.rg) i)=(if i<cG then fH h.t i else dQ h.rg i)∧((if i<cG then h.aR≤i else fV (kg sg.wg d' h.rg) i)↔(if i<cG then h.aR≤i else fV h.rg i))
   by_cases hl:i<cG
   ·rw [if_pos hl,if_pos hl,if_pos hl,if_pos hl];exact ⟨rfl,Iff.rfl⟩
   ·rw [if_neg hl,if_neg hl,if_neg hl,if_neg hl]
    have:=Az (lU i)
    rw [hi hl,if_neg (by simp)] at this
    unfold dQ fV
    rw [this];exact ⟨rfl,Iff.rfl⟩
  have CC:∀{i},iB (di sg.al) i=true→¬i<cG∧di sg.al (lU i)=true:=fun {i} hi=>by
   unfold iB at hi
   simp only [zC,Bool.not_eq_true'] at hi
   refine ⟨fun hl=>?_,hi.2⟩
   have:Nat.blt i 16777216=true:=wV hl
   rw [this] at hi;cases hi.1
  have Qi:∀{i},iB (di sg.al) i=false→¬i<cG→di sg.al (lU i)=false:=fun {i} hi hl=>by
   rw [CR hl] at hi;exact hi
  have inL:∀(l:List Rg),(∀r q,bw l r=some q→q.k.o8 (di sg.al)=true)→∀i x,¬i<cG→dQ l i=some x→Mo (di sg.al) x:=fun l hl i x _ hx=>by
   unfold dQ at hx
   split at hx
   ·rename_i q hq
    exact zi (hl _ q hq) hx
   ·cases hx
  have inA:∀(d1:rD sg.wg) r q,bw (dx sg.wg d1++dx sg.rg c) r=some q→q.k.o8 (di sg.al)=true:=fun d1 r q hq=>by
   have iH:∀p∈sg.al,p.2.o8 (di sg.al)=true:=fun p hp=>by
    have:=List.all_eq_true.1 KH p hp
    simp only [zC] at this
    exact this.2
   rw [gS] at hq
   split at hq
   ·rename_i q1 h1
    cases hq
    exact qu sg.wg d1 (fun p hp=>iH p (zQ _ hp)) _ _ h1
   ·exact qu sg.rg c (fun p hp=>iH p (zS _ hp)) _ _ hq
  refine ⟨pv,_,_,hr,⟨fun i hi=>fD i (fun hl=>?_),fun i hi=>fD i (fun hl=>Nv hi hl),hF.fn x c d _ hy,fun S2 hA=>?_⟩⟩
  ·rw [nR] at hi
   have:=Qi hi hl
   rw [Uc,Bool.or_eq_false_iff] at this
   exact this.1
  ·have QL:=PC.frame (kp:=di sg.al) (S:=S2) (fun i hi=>?_) (fun i hi=>?_) (fun i q hq=>?_) (fun i q hi hq=>?_) (rq sg.ps x hs2) (r:=uN sg.rs y) ?_ L_
   ·have e:Hp.join (di sg.al) (hp ⟨t,aR,dx sg.wg d'++dx sg.rg c,lk⟩) S2=iU (Lq sg) (hp { h with rg:=kg sg.wg d' h.rg }) S2:=by
     refine Hp.ext' (fun i=>?_) (fun i=>?_)
     ·show (if iB (di sg.al) i=true then _ else _)=(if aI (Lq sg) i=true then _ else _)
      rw [nR]
      by_cases hi:iB (di sg.al) i=true
      ·obtain ⟨n1,n2⟩:=CC hi
       rw [if_pos hi,if_pos hi,(fe n1).1,(fe n1).1]
       unfold dQ
       rw [fB _ n2]
      ·rw [if_neg hi,if_neg hi]
     ·show (if iB (di sg.al) i=true then _ else _)↔(if aI (Lq sg) i=true then _ else _)
      rw [nR]
      by_cases hi:iB (di sg.al) i=true
      ·obtain ⟨n1,n2⟩:=CC hi
       rw [if_pos hi,if_pos hi,(fe n1).2,(fe n1).2]
       unfold fV
       rw [fB _ n2]
      ·rw [if_neg hi,if_neg hi]
    rw [e] at QL
    obtain ⟨u1,u2⟩:=sQ _ _ _ hx
    intro g w vs hI hl hv
    refine (QL g w vs hI (by rw [←u1];exact hl) (fun i p v e1 e2=>?_)).mono ?_
    ·have hi:i<aa.length:=by rw [u1];exact (zB.1 e1).1
     exact u2 i _ p (zD hi) e1 g v (hv i _ v (zD hi) e2)
    ·rintro e w' ⟨v,g',rfl,q1,q2,q3⟩
     exact ⟨v,g',rfl,o9 g' v q1,q2,q3⟩
   ·by_cases hl:i<cG
    ·show (if i<cG then fH .nil i else _)=none
     rw [if_pos hl];rfl
    ·rw [(fe hl).1]
     show dQ (dx sg.wg d++dx sg.rg c) i=none
     unfold dQ
     rw [fC _ (Qi hi hl)]
   ·obtain ⟨n1,n2⟩:=CC hi
    obtain ⟨a1,a2⟩:=hA i (by rw [nR];exact hi)
    rw [a1,a2,(fe n1).1,(fe n1).2,(fe n1).1,(fe n1).2]
    show dQ h.rg i=dQ (dx sg.wg d++dx sg.rg c) i∧(fV h.rg i↔fV (dx sg.wg d++dx sg.rg c) i)
    unfold dQ fV
    rw [fA _ n2];exact ⟨rfl,Iff.rfl⟩
   ·by_cases hl:i<cG
    ·have hq:(if i<cG then fH .nil i else _)=some q:=hq
     rw [if_pos hl] at hq;cases hq
    ·rw [(fe hl).1] at hq
     exact inL _ (inA d) i q hl hq
   ·rw [(fe (CC hi).1).1] at hq
    exact inL _ (inA d') i q (CC hi).1 hq
   ·have iH:=rq (kp:=di sg.al) sg.rs y hs3
    unfold uN
    generalize mB sg.rs y=ps at iH
    match ps,iH with
    | [p],iH=>exact iH p (.head _)
    | [],iH=>exact .jz iH
    | p::q::ps,iH=>exact .jz iH
 ·cases hr
theorem Ls {P:Program} {f:FuncId} {sg:dM} {F:Plain sg} (hF:bJ P f sg F) {aa:List A} {h:H} {K:A→H→Fp→Option β} {r:β} (hr:UH sg F aa h K=some r):∃pv h' T,K pv h' T=some r∧sM P f aa h h' T pv:=by
 unfold UH at hr
 split at hr
 ·rename_i wy h1 T1 GG
  obtain ⟨pv,h2,T,k1,k2⟩:=Lr hF hr
  obtain ⟨hl,us,c1,c2,c3⟩:=t_ GG
  have out:∀i,aI (L2 T1) i=false→(hp h1).ob i=(hp h).ob i∧((hp h1).fr i↔(hp h).fr i):=fun i hi=>by
   rw [c1];exact dB us _ i (fun u hu e=>by rw [mF,e,c2 u hu] at hi;cases hi)
  have f1:nI h h1 (L2 T1):=⟨out,fun i hi=>out i ((mF T1 i).trans (JM T1 i hi))⟩
  have f2:nI h1 h2 T:=⟨k2.out,k2.rd⟩
  refine ⟨pv,h2,_,k1,(f1.trans f2).out,(f1.trans f2).rd,k2.fn,fun S2 hA=>?_⟩
  rw [←gW f2]
  have A1:=hA.left
  have A2:=Agree.right f1 hA
  have e:iU (L2 T1) (hp h1) S2=app us S2:=by rw [c1];exact ij (fun u hu=>(mF T1 _).trans (c2 u hu)) A1
  rw [e] at A2 ⊢
  intro g w vs hI Ut hv
  obtain ⟨g1,q1,q2,q3⟩:=c3 g S2 w vs hI (fun i hi=>A1 i ((mF T1 i).trans hi)) Ut hv
  refine (k2.ok _ A2 g1 w vs q1 (by rw [hl];exact Ut) q3).mono ?_
  rintro e w' ⟨v,g',rfl,z1,z2,z3⟩
  exact ⟨v,g',rfl,z1,z2,q2.trans z3⟩
 ·cases hr
end
end
section
open Go.RowKit
def stay (N i:Nat):Prop:=i<N∨¬i<cG
structure xJ (N:Nat) (g g':G):Prop where
 bq:∀i,stay N i→g'.bq i=g.bq i
 mem:g'.mem=g.mem
 lp:g'.lp=g.lp
def VP (N:Nat) (c:A):Prop:=∀g g' v,xJ N g g'→V g c v→V g' c v
def EK (N:Nat):Ref→Bool
 | .loc o=>Nat.blt o N
 | .eG _ _=>true
theorem lu {N:Nat} {x:Ref} (h:EK N x=true) {g g':G} (k:xJ N g g'):g'.bq x.id=g.bq x.id:=by
 cases x with
 | loc o=>exact k.bq o (.inl (bb h))
 | eG r j=>exact k.bq _ (.inr (Nat.not_lt.2 (nr r j)))
def okF (p:A→Bool):Nat→Tr A→Bool
 | 0,_=>true
 | n+1,F=>p (bl F.get n) && okF p n F
theorem Cw {p:A→Bool} {F:Tr A}:∀{n:Nat},okF p n F=true→∀i,i<n→p (bl F.get i)=true
 | n+1,h,i,hi=>by
  have h:(p (bl F.get n) && okF p n F)=true:=h
  rw [zC] at h
  by_cases e:i=n
  ·rw [e];exact h.1
  ·exact Cw h.2 i (by omega)
def tu (N:Nat):Nat→A→Bool
 | 0,_=>false
 | k+1,a=>match a with
  | .agg cs=>cs.all (tu N k)
  | .jz cs=>cs.all (tu N k)
  | .fn _ fi ca=>fi.all (tu N k) && ca.all (tu N k)
  | .ptr o _=>Nat.blt o N
  | .tp x _=>EK N x
  | .sl o _ _ _=>Nat.blt o N
  | .ts x _ _ _=>EK N x
  | .tf x _ _ _=>EK N x
  | .tw x _=>EK N x
  | .aa x _ _ _=>EK N x
  | .mp x=>EK N x
  | .rA q n F _ _ _ _=>Nat.blt q N && okF (tu N k) n F
  | _=>true
theorem VP.tp {N:Nat} {x:Ref} {π:List Sp} (h:EK N x=true):VP N (.tp x π):=fun g g' v k hv=>by
 cases hv with
 | tp _ _ b s h1 hk=>exact .tp x π b s ((lu h k).trans h1) hk
theorem VP.tw {N:Nat} {x:Ref} {z:Nat} (h:EK N x=true):VP N (.tw x z):=fun g g' v k hv=>by
 cases hv with
 | sc _ _ ad h1=>exact .sc x z ad ((lu h k).trans h1)
 | tw _ _ n b cap t h1 hn hx hp d hd=>exact .tw x z n b cap t ((lu h k).trans h1) hn hx hp d hd
theorem VP.e0 {N:Nat}:VP N .e0:=fun g g' v k hv=>by cases hv;exact .e0 _
theorem VP.mp {N:Nat} {x:Ref} (h:EK N x=true):VP N (.mp x):=fun g g' v k hv=>by
 cases hv with
 | mp _ b s h1=>exact .mp x b s ((lu h k).trans h1)
theorem gk {N:Nat}:∀(k:Nat) (a:A),tu N k a=true→VP N a
 | 0,_,h=>by cases h
 | k+1,.v x,_=>fun g g' v _ hv=>by cases hv;exact .v _
 | k+1,.agg cs,h=>fun g g' v hg hv=>by
  have h:cs.all (tu N k)=true:=h
  rw [List.all_eq_true] at h
  cases hv with
  | agg _ vs hl h1 hh=>exact .agg cs vs hl h1 (fun i c x e1 e2=>gk k c (h c (zG e1)) g g' x hg (hh i c x e1 e2))
 | k+1,.jz cs,h=>fun g g' v hg hv=>by
  have h:cs.all (tu N k)=true:=h
  rw [List.all_eq_true] at h
  cases hv with
  | jz _ vs hl hh=>exact .jz cs vs hl (fun i c x e1 e2=>gk k c (h c (zG e1)) g g' x hg (hh i c x e1 e2))
 | k+1,.fn f fi ca,h=>fun g g' v hg hv=>by
  have h:(fi.all (tu N k) && ca.all (tu N k))=true:=h
  rw [zC,List.all_eq_true,List.all_eq_true] at h
  cases hv with
  | fn _ _ _ fv cv hf hc h1 h2=>exact .fn f fi ca fv cv hf hc (fun i c x e1 e2=>gk k c (h.1 c (zG e1)) g g' x hg (h1 i c x e1 e2)) (fun i c x e1 e2=>gk k c (h.2 c (zG e1)) g g' x hg (h2 i c x e1 e2))
 | k+1,.ptr o off,h=>fun g g' v hg hv=>by
  cases hv with
  | ptr _ _ b s h1=>exact .ptr o off b s ((hg.bq o (.inl (bb h))).trans h1)
 | k+1,.tp x π,h=>.tp h
 | k+1,.sl o off z n,h=>fun g g' v hg hv=>by
  cases hv with
  | sl _ _ _ _ b cap s h1 hn hx hs=>exact .sl o off z n b cap s ((hg.bq o (.inl (bb h))).trans h1) hn hx hs
 | k+1,.ts x z off n,h=>fun g g' v hg hv=>by
  cases hv with
  | ts _ _ _ _ b cap s h1 hn hx hs hp d hd hq=>exact .ts x z off n b cap s ((lu h hg).trans h1) hn hx hs hp d hd hq
  | se _ _ _ _ ad h1 hn=>exact .se x z off n ad ((lu h hg).trans h1) hn
 | k+1,.tf x z off n,h=>fun g g' v hg hv=>by
  cases hv with
  | tf _ _ _ _ b s h1 hx hs d hd=>exact .tf x z off n b s ((lu h hg).trans h1) hx hs d hd
  | BJ _ _ _ _ ad h1 hn=>exact .BJ x z off n ad ((lu h hg).trans h1) hn
 | k+1,.tw x z,h=>.tw h
 | k+1,.aa x π n z,h=>fun g g' v hg hv=>by
  cases hv with
  | aa _ _ _ _ b cap s h1 hk hn hx=>exact .aa x π n z b cap s ((lu h hg).trans h1) hk hn hx
 | k+1,.e0,_=>.e0
 | k+1,.tl t f l,_=>fun g g' v hg hv=>by
  cases hv with
  | tl _ _ _ _ h=>exact .tl t f l v (by rw [hg.mem];exact h)
 | k+1,.nn t l,_=>fun g g' v hg hv=>by
  cases hv with
  | nn _ _ a n c h=>exact .nn t l a n c (by rw [hg.mem];exact h)
 | k+1,.dp t x,_=>fun g g' v hg hv=>by
  cases hv with
  | dp _ _ b off f hm=>exact .dp t x b off f (fun j c e=>by rw [hg.mem];exact hm j c e)
 | k+1,.mp x,h=>.mp h
 | k+1,.op r o,_=>fun g g' v hg hv=>by
  cases hv with
  | op _ _ _ h0 h1=>exact .op r o v h0 (fun j e=>VP.tp (N:=N) (x:=.eG r j) rfl g g' v hg (h1 j e))
 | k+1,.os r z o,_=>fun g g' v hg hv=>by
  cases hv with
  | os _ _ _ _ h0 h1=>exact .os r z o v (fun e=>VP.e0 (N:=N) g g' v hg (h0 e)) (fun j e=>VP.tw (N:=N) (x:=.eG r j) rfl g g' v hg (h1 j e))
 | k+1,.om r o,_=>fun g g' v hg hv=>by
  cases hv with
  | om _ _ _ h0 h1=>exact .om r o v h0 (fun j e=>VP.mp (N:=N) (x:=.eG r j) rfl g g' v hg (h1 j e))
 | k+1,.rA q n F ps j aa bd,h=>fun g g' v hg hv=>by
  have h:(Nat.blt q N && okF (tu N k) n F)=true:=h
  rw [zC] at h
  cases hv with
  | rA _ _ _ _ _ _ _ b s l h0 hl h1 h2 h3 h4 h5=>exact .rA q n F ps j aa bd b s l ((hg.bq q (.inl (bb h.1))).trans h0) (by rw [hg.lp];exact hl) h1 h2 h3 h4 (fun i hi=>gk k _ (Cw h.2 i hi) g g' _ hg (h5 i hi))
 | k+1,.un,_=>fun g g' v _ hv=>by cases hv;exact .un
 | k+1,.cF,_=>fun g g' v _ _=>.cF v
theorem iQ {N:Nat}:∀(t:Ty) (x:t.T),∀c∈aA t x,VP N c
 | .int k,x,c,h=>by rcases zF.1 h with rfl;exact gk 1 _ rfl
 | .bool,x,c,h=>by rcases zF.1 h with rfl;exact gk 1 _ rfl
 | .unit,_,c,h=>by cases h
 | .pair a b,x,c,h=>(zX.1 h).elim (iQ a x.1 c) (iQ b x.2 c)
 | .arr n t,l,c,h=>by
  obtain ⟨i,_,h⟩:=List.mem_flatMap.1 h
  exact iQ t _ c h
 | .aK t,l,c,h=>by rcases zF.1 h with rfl;exact gk 1 _ rfl
 | .ptr r,x,c,h=>by rcases zF.1 h with rfl;exact gk 1 _ rfl
 | .dO r,j,c,h=>by rcases zF.1 h with rfl;exact gk 1 _ rfl
 | .jU r z,x,c,h=>by rcases zF.1 h with rfl;exact gk 1 _ rfl
 | .oM r z,j,c,h=>by rcases zF.1 h with rfl;exact gk 1 _ rfl
 | .mp r,x,c,h=>by rcases zF.1 h with rfl;exact gk 1 _ rfl
theorem n9 {N:Nat} (a:Bool) (t:Ty) (x:t.T):VP N (bZ a t x):=by
 unfold bZ
 have h:=iQ (N:=N) t x
 cases a with
 | true=>
  intro g g' v hg hv
  cases hv with
  | agg _ vs hl h1 hh=>exact .agg _ vs hl h1 (fun i c y e1 e2=>h c (zG e1) g g' y hg (hh i c y e1 e2))
 | false=>
  generalize aA t x=cs at h
  match cs,h with
  | [c],h=>exact h c (.head _)
  | [],_=>exact fun g g' v _ _=>.cF v
  | _::_::_,_=>exact fun g g' v _ _=>.cF v
def EL (N:Nat):Ob→Prop
 | .cells cs=>∀c∈cs,VP N c
 | .cL (.map es)=>∀e∈es,VP N e.1∧VP N e.2
 | .cL .yN=>True
 | .cL (.loop _ _)=>True
theorem B6 {N:Nat} {k:RK} {c:k.T} {j:Nat} {x:Ob} (h:dP k c j=some x):EL N x:=by
 cases k with
 | box t=>
  simp only [dP] at h
  split at h
  ·cases h;exact iQ t _
  ·cases h
 | row t=>
  simp only [dP] at h
  split at h
  ·cases h;exact fun c hc=>by obtain ⟨y,_,hy⟩:=List.mem_flatMap.1 hc;exact iQ t y c hy
  ·cases h
 | map ka tk va tv=>
  simp only [dP] at h
  split at h
  ·cases h;exact fun e he=>by obtain ⟨y,_,rfl⟩:=List.mem_map.1 he;exact ⟨n9 _ _ _,n9 _ _ _⟩
  ·cases h
def Xf (g:G):Option (Option Nat)→Option (Option Nat×(Nat×Nat))
 | some (some o)=>g.bq o
 | some none=>some (none,(0,0))
 | none=>none
def gj (N:Nat) (names:List (Option Nat)) (g:G):G:=⟨fun i=>if i<N∨¬i<cG then g.bq i else Xf g names[i-N]?,g.mem,g.lp⟩
theorem Dy (N:Nat) (names:List (Option Nat)) (g:G):xJ N g (gj N names g):=⟨fun i h=>if_pos h,rfl,rfl⟩
theorem vG {N:Nat} {names:List (Option Nat)} {g:G} {k:Nat} {nm:Option Nat} (h:names[k]?=some nm) (hl:N+names.length≤cG):(gj N names g).bq (N+k)=Xf g (some nm):=by
 have hk:=(zB.1 h).1
 show (if N+k<N∨¬N+k<cG then g.bq (N+k) else _)=_
 rw [if_neg (by omega),Nat.add_sub_cancel_left,h]
theorem mD.to {g g':G} {w:World} {b t:Nat} {cs:List A} (h:mD g w b t cs) {N:Nat} (hs:xJ N g g') (hc:∀c∈cs,VP N c):mD g' w b t cs:=by
 obtain ⟨cur,ty,k1,k2,k3,k4⟩:=h
 exact ⟨cur,ty,k1,k2,k3,fun j c x e1 e2=>⟨hc c (zG e1) g g' x hs (k4 j c x e1 e2).1,(k4 j c x e1 e2).2⟩⟩
theorem oH.to {g g':G} {x:Mn} {ob:Obj} (h:oH g x ob) {N:Nat} (hs:xJ N g g') (hc:EL N (.cL x)):oH g' x ob:=by
 cases x with
 | map es=>
  obtain ⟨jq,clock,k1,k2,k3⟩:=h
  exact ⟨jq,clock,k1,k2,fun i e q e1 e2=>⟨(hc q (zG e2)).1 g g' _ hs (k3 i e q e1 e2).1,(hc q (zG e2)).2 g g' _ hs (k3 i e q e1 e2).2⟩⟩
 | yN=>exact h
 | loop=>exact h
theorem JZ {N:Nat} {names:List (Option Nat)} {S S' S0:Hp} {g g0:G} {w w0:World} (hl:N+names.length≤cG)
  (h1:∀i x,stay N i→S'.ob i=some x→(S.ob i=some x∧EL N x)∨∃cs hZ,S.ob i=some (.cells cs)∧x = .cells hZ∧hZ.length=cs.length∧∀vs,Vs g cs vs→Vs (gj N names g) hZ vs)
  (h2:∀i x,¬stay N i→S'.ob i=some x→∃k nm,i=N+k∧names[k]?=some nm∧(∀o,nm=some o→S.ob o=some x∧EL N x)∧(nm=none→x = .cells []))
  (h3:∀(k k' o:Nat),names[k]?=some (some o)→names[k']?=some (some o)→k=k')
  (h4:∀(k o:Nat),names[k]?=some (some o)→stay N o→S'.ob o=none)
  (h5:∀i,S'.fr i→(¬stay N i→N+names.length≤i)∧(stay N i→S.fr i))
  (hf:∀o,N≤o→o<cG→S0.fr o∧g0.bq o=none) (hI:Inv g S w) (hE:Ext S0 g0 w0 S g w) :
  Inv (gj N names g) S' w∧Ext S0 g0 w0 S' (gj N names g) w:=by
 have hs:=Dy N names g
 have ns:∀{i},¬stay N i→N≤i∧i<cG:=fun {i} h=>by unfold stay at h;omega
 have Q4:∀i,¬stay N i→(gj N names g).bq i=Xf g names[i-N]?:=fun i h=>if_neg h
 have src:∀i x b s,S'.ob i=some x→(gj N names g).bq i=some (some b,s)→∃o y,S.ob o=some y∧g.bq o=some (some b,s)∧(i=o∧stay N i∨¬stay N i∧∃k,i=N+k∧names[k]?=some (some o)):=fun i x b s e1 e2=>by
  by_cases hi:stay N i
  ·rcases h1 i x hi e1 with ⟨q1,q2⟩ | ⟨cs,hZ,q1,_,_⟩
   ·exact ⟨i,x,q1,by rw [←hs.bq i hi];exact e2,.inl ⟨rfl,hi⟩⟩
   ·exact ⟨i,_,q1,by rw [←hs.bq i hi];exact e2,.inl ⟨rfl,hi⟩⟩
  ·obtain ⟨k,nm,rfl,hk,q1,q2⟩:=h2 i x hi e1
   rw [vG hk hl] at e2
   cases nm with
   | none=>cases e2
   | some o=>exact ⟨o,x,(q1 o rfl).1,e2,.inr ⟨hi,k,rfl,hk⟩⟩
 have inj:∀i j x y b s s',S'.ob i=some x→S'.ob j=some y→(gj N names g).bq i=some (some b,s)→(gj N names g).bq j=some (some b,s')→i=j:=fun i j x y b s s' e1 e2 k1 k2=>by
  obtain ⟨o1,x1,p1,p3,p4⟩:=src i x b s e1 k1
  obtain ⟨o2,x2,q1,q3,q4⟩:=src j y b s' e2 k2
  have ho:=hI.inj o1 o2 x1 x2 b s s' p1 q1 p3 q3
  subst ho
  rcases p4 with ⟨rfl,p5⟩ | ⟨p5,k,rfl,p6⟩
  ·rcases q4 with ⟨rfl,_⟩ | ⟨q5,k',rfl,q6⟩
   ·rfl
   ·rw [h4 k' i q6 p5] at e1;cases e1
  ·rcases q4 with ⟨rfl,q5⟩ | ⟨q5,k',rfl,q6⟩
   ·rw [h4 k j p6 q5] at e2;cases e2
   ·rw [h3 k k' o1 p6 q6]
 refine ⟨⟨fun i cs e=>?_,fun i x e=>?_,fun i e=>?_,fun i b s e=>?_,inj,hI.mem,fun i b s j x e k=>?_,hI.lp⟩,⟨⟨fun o p e=>?_,fun _ _ _ e=>hE.le.mem _ _ _ e,fun _ _ e=>hE.le.lp _ _ e⟩,hE.os,hE.tape,hE.output,hE.size,hE.frame,fun k ⟨i,s,x,e1,e2⟩=>?_,fun o p e=>?_,fun o e=>?_,hE.tC,hE.lpo⟩⟩
 ·by_cases hi:stay N i
  ·rw [hs.bq i hi]
   rcases h1 i _ hi e with ⟨q1,q2⟩ | ⟨ds,i_,q1,q2,q3,q4⟩
   ·exact (hI.cells i cs q1).imp id fun ⟨b,t,k1,k2⟩=>⟨b,t,k1,k2.to hs q2⟩
   ·cases q2
    rcases hI.cells i ds q1 with ⟨k1,k2⟩ | ⟨b,t,k1,cur,ty,k2,k3,k4⟩
    ·exact .inl ⟨k1,List.length_eq_zero_iff.1 (by rw [q3,k2];rfl)⟩
    ·exact .inr ⟨b,t,by rw [q3];exact k1,cur,ty,k2,k3,by rw [q3];exact q4 _ k4⟩
  ·obtain ⟨k,nm,rfl,hk,q1,q2⟩:=h2 i _ hi e
   rw [vG hk hl]
   cases nm with
   | none=>
    have:=q2 rfl
    cases this
    exact .inl ⟨rfl,rfl⟩
   | some o=>
    obtain ⟨q3,q4⟩:=q1 o rfl
    exact (hI.cells o cs q3).imp id fun ⟨b,t,k1,k2⟩=>⟨b,t,k1,k2.to hs q4⟩
 ·by_cases hi:stay N i
  ·rcases h1 i _ hi e with ⟨q1,q2⟩ | ⟨ds,i_,q1,q2,q3⟩
   ·obtain ⟨b,s,ob,k1,k2,k3⟩:=hI.cL i x q1
    exact ⟨b,s,ob,(hs.bq i hi).trans k1,k2,k3.to hs q2⟩
   ·cases q2
  ·obtain ⟨k,nm,rfl,hk,q1,q2⟩:=h2 i _ hi e
   cases nm with
   | none=>have:=q2 rfl;cases this
   | some o=>
    obtain ⟨q3,q4⟩:=q1 o rfl
    obtain ⟨b,s,ob,k1,k2,k3⟩:=hI.cL o x q3
    exact ⟨b,s,ob,(vG hk hl).trans k1,k2,k3.to hs q4⟩
 ·obtain ⟨q1,q2⟩:=h5 i e
  by_cases hi:stay N i
  ·rw [hs.bq i hi];exact hI.fresh i (q2 hi)
  ·rw [Q4 i hi,zb (by have:=q1 hi;omega)];rfl
 ·by_cases hi:stay N i
  ·rw [hs.bq i hi] at e;exact hI.lt i b s e
  ·rw [Q4 i hi] at e
   generalize names[i-N]?=nm at e
   match nm,e with
   | some (some o),e=>exact hI.lt o b s e
 ·obtain ⟨o,y,p1,p3,_⟩:=src i x b s e k
  exact hI.lv o b s j y p1 p3
 ·have hi:stay N o:=by
   by_cases hi:stay N o
   ·exact hi
   ·obtain ⟨a1,a2⟩:=ns hi
    rw [(hf o a1 a2).2] at e;cases e
  rw [hs.bq o hi];exact hE.le.bq o p e
 ·obtain ⟨o,y,p1,p3,_⟩:=src i x k s e1 e2
  exact hE.own k ⟨o,s,y,p1,p3⟩
 ·by_cases hi:stay N o
  ·rw [hs.bq o hi] at e;exact hE.Jv o p e
  ·obtain ⟨a1,a2⟩:=ns hi
   exact .inr ⟨(hf o a1 a2).2,(hf o a1 a2).1⟩
 ·by_cases hi:stay N o
  ·exact hE.fr o ((h5 o e).2 hi)
  ·obtain ⟨a1,a2⟩:=ns hi
   exact (hf o a1 a2).1
end
end Go.Bm