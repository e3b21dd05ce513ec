/- Texts of one proof, put together: see each part. -/
import Derived.Test.YtfffmmahegdfiaaGreatOA
set_option maxHeartbeats 2000000
noncomputable section
set_option linter.unusedVariables false
set_option linter.unusedSimpArgs false
namespace Go.Bm
section
open Go.RowKit
theorem lS {s:Nat}:∀(π σ:List Sp),BJ s (π++σ)↔BJ s π∧BJ s σ
 | [],σ=>⟨fun h=>⟨trivial,h⟩,fun h=>h.2⟩
 | .fst::π,σ=>lS π σ
 | .snd _::π,σ=>lS π σ
 | .ix _ _::π,σ=>(and_congr_right fun _=>lS π σ).trans and_assoc.symm
 | .ai _ _ _::π,σ=>(and_congr_right fun _=>lS π σ).trans and_assoc.symm
theorem j8:∀(π σ:List Sp),dE (π++σ)=dE π+dE σ
 | [],σ=>(Nat.zero_add _).symm
 | .fst::π,σ=>j8 π σ
 | .snd c::π,σ=>by show c+dE (π++σ)=c+dE π+dE σ;rw [j8 π σ,Nat.add_assoc]
 | .ix i z::π,σ=>by show i*z+dE (π++σ)=i*z+dE π+dE σ;rw [j8 π σ,Nat.add_assoc]
 | .ai i n z::π,σ=>by show i*z+dE (π++σ)=i*z+dE π+dE σ;rw [j8 π σ,Nat.add_assoc]
section
variable {P:Program} {E:Env} {o:Oper} {ρ:Operand→A} {h:H} {β:Type} {K:A→H→Fp→Option β} {r:β}
theorem Step.BP {h h':H} {T:Fp} {pv EW:A} (k:Step P o ρ h h' T pv) (hv:∀g v,V g pv v→V g EW v):Step P o ρ h h' T EW where
 out:=k.out
 rd:=k.rd
 ok:=fun S2 hS=>fun r g w a next Q hI hx K'=>k.ok S2 hS r g w a next Q hI hx (fun v g' w' h1 h2 h3=>K' v g' w' (hv _ _ h1) h2 h3)
def B1 (v:A) (k:A→Option β):Option β:=match v with
 | .op r o=>opt o (k (.v (.pointer none))) (fun j=>k (.tp (.eK r j) []))
 | .os r z o=>opt o (k .e0) (fun j=>k (.tw (.eK r j) z))
 | .om r o=>opt o (k (.v (.map none))) (fun j=>k (.mp (.eK r j)))
 | v=>k v
theorem wV {v:A} {k:A→Option β} (hr:B1 v k=some r):∃v',k v'=some r∧∀g x,V g v x→V g v' x:=by
 unfold B1 at hr
 split at hr
 ·rcases iu hr with ⟨e,h1⟩ | ⟨j,e,h1⟩
  ·exact ⟨_,h1,fun g x hv=>by cases hv with | op _ _ _ h0 _=>rw [h0 e];exact .v _⟩
  ·exact ⟨_,h1,fun g x hv=>by cases hv with | op _ _ _ _ h0=>exact h0 j e⟩
 ·rcases iu hr with ⟨e,h1⟩ | ⟨j,e,h1⟩
  ·exact ⟨_,h1,fun g x hv=>by cases hv with | os _ _ _ _ h0 _=>exact h0 e⟩
  ·exact ⟨_,h1,fun g x hv=>by cases hv with | os _ _ _ _ _ h0=>exact h0 j e⟩
 ·rcases iu hr with ⟨e,h1⟩ | ⟨j,e,h1⟩
  ·exact ⟨_,h1,fun g x hv=>by cases hv with | om _ _ _ h0 _=>rw [h0 e];exact .v _⟩
  ·exact ⟨_,h1,fun g x hv=>by cases hv with | om _ _ _ _ h0=>exact h0 j e⟩
 ·exact ⟨_,hr,fun g x hv=>hv⟩
def Out (P:Program) (o:Oper) (ρ:Operand→A) (h:H) (K:A→H→Fp→Option β) (r:β):Prop:=∃pv h' T,K pv h' T=some r∧Step P o ρ h h' T pv
theorem Out.pure {v:A} (hr:K v h .no=some r) (k:∀S2,fb P o ρ S2 S2 v) (hd:∀c,o.op≠.defer c):Out P o ρ h K r:=⟨v,h,.no,hr,.pure k hd⟩
theorem Out.read {v:A} (T:List Nat) (hr:K v h (.rd T)=some r) (k:∀S2,Agree (.rd T) (hp h) S2→fb P o ρ S2 S2 v) (hd:∀c,o.op≠.defer c):Out P o ρ h K r:=⟨v,h,.rd T,hr,.read _ k hd⟩
theorem Out.sp {h':H} {T:Fp} {v:A} (hr:B1 v (fun v=>K v h' T)=some r) (k:Step P o ρ h h' T v):Out P o ρ h K r:=by
 obtain ⟨v',h1,h2⟩:=wV hr
 exact ⟨v',h',T,h1,k.BP h2⟩
def mvK (x:A) (h:H) (K:A→H→Fp→Option β):Option β:=K x h .no
def Lf (px:A) (ix:Nat) (h:H) (K:A→H→Fp→Option β):Option β:=match px with
 | .jD cs=>match cs[ix]? with
  | some p=>B1 p (fun v=>K v h .no)
  | none=>none
 | _=>none
theorem He {x:Operand} {ix:Nat} (ho:o.op = .extract x ix) (hr:Lf (ρ x) ix h K=some r):Out P o ρ h K r:=by
 unfold Lf at hr
 split at hr
 ·rename_i cs hx
  split at hr
  ·rename_i p hp
   exact .sp hr (.pure (fun S2=>vo ho hx hp) (by rw [ho];intro c e;cases e))
  ·cases hr
 ·cases hr
def CD (px py pz:A) (h:H) (K:A→H→Fp→Option β):Option β:=match px with
 | .v (.bool b)=>br b (K py h .no) (K pz h .no)
 | _=>none
theorem CC {x y z:Operand} (ho:o.op = .pick x y z) (hr:CD (ρ x) (ρ y) (ρ z) h K=some r):Out P o ρ h K r:=by
 unfold CD at hr
 split at hr
 ·rename_i b hx
  rcases pn hr with ⟨rfl,h1⟩ | ⟨rfl,h1⟩
  ·exact .pure h1 (fun S2=>by have:=vl (P:=P) (S:=S2) ho hx;simpa using this) (by rw [ho];intro c e;cases e)
  ·exact .pure h1 (fun S2=>by have:=vl (P:=P) (S:=S2) ho hx;simpa using this) (by rw [ho];intro c e;cases e)
 ·cases hr
def Ut (op:BinOp) (k:IntKind) (m n:Int) (K:Value→Option β):Option β:=match op with
 | .add=>K (.int k (ae k m n))
 | .sub=>K (.int k (aJ k m n))
 | .mul=>K (.int k (dL k m n))
 | .quo=>gd (KI n) (K (.int k (AK k m n)))
 | .rem=>gd (KI n) (K (.int k (bJ m n)))
 | .and=>K (.int k (bits .and k m n))
 | .or=>K (.int k (bits .or k m n))
 | .xor=>K (.int k (bits .xor k m n))
 | .andNot=>K (.int k (bits .andNot k m n))
 | .eql=>K (.bool (ah m n))
 | .neq=>K (.bool (af (ah m n)))
 | .lss=>K (.bool (bb m n))
 | .leq=>K (.bool (dq m n))
 | .gtr=>K (.bool (bb n m))
 | .geq=>K (.bool (dq n m))
 | _=>none
theorem Hw {op:BinOp} {k:IntKind} {m n:Int} {K:Value→Option β} (hr:Ut op k m n K=some r):∃v,K v=some r∧GJ op k m n=some v:=by
 cases op with
 | quo=>
  obtain ⟨h1,h2⟩:=bE (show gd (KI n) (K (.int k (AK k m n)))=some r from hr)
  exact ⟨_,h2,if_neg h1⟩
 | rem=>
  obtain ⟨h1,h2⟩:=bE (show gd (KI n) (K (.int k (bJ m n)))=some r from hr)
  exact ⟨_,h2,if_neg h1⟩
 | _=>first | exact ⟨_,hr,rfl⟩ | cases hr
def shI (op:BinOp) (k:IntKind) (m n:Int) (K:Value→Option β):Option β:=match op with
 | .shl=>gd (bn n) (K (.int k (lI k m n)))
 | .shr=>gd (bn n) (K (.int k (jH k m n)))
 | _=>none
theorem J6 {op:BinOp} {k:IntKind} {m n:Int} {K:Value→Option β} (hr:shI op k m n K=some r):∃v,K v=some r∧xj op k m n=some v:=by
 cases op with
 | shl=>
  obtain ⟨h1,h2⟩:=bE (show gd (bn n) (K (.int k (lI k m n)))=some r from hr)
  exact ⟨_,h2,if_neg (by unfold bn at h1;omega)⟩
 | shr=>
  obtain ⟨h1,h2⟩:=bE (show gd (bn n) (K (.int k (jH k m n)))=some r from hr)
  exact ⟨_,h2,if_neg (by unfold bn at h1;omega)⟩
 | _=>cases hr
def Jp:BinOp→Bool
 | .shl=>true
 | .shr=>true
 | _=>false
def isEq:BinOp→Bool
 | .eql=>true
 | .neq=>true
 | _=>false
theorem lJ {op:BinOp} (h:isEq op=true):op = .eql∨op = .neq:=by cases op<;>first | exact .inl rfl | exact .inr rfl | cases h
def AB (op:BinOp) (b:Bool):Bool:=match op with
 | .eql=>b
 | _=>af b
theorem oe {op:BinOp} (b:Bool) (h:isEq op=true):AB op b=if op = .eql then b else !b:=by
 rcases lJ h with rfl | rfl<;>rfl
def AA (p q:A):Option Bool:=match q with
 | .v (.slice none 0 0)=>match p with
  | .v (.slice none _ _)=>some true
  | .nn _ _=>some false
  | .aa _ _ _ _=>some false
  | .sl _ _ _ _=>some false
  | _=>none
 | _=>none
theorem Gm {g:G} {p q:A} {u v:Value} {b:Bool} (h:AA p q=some b) (hp:V g p u) (hq:V g q v):v = .slice none 0 0∧∃A n c,u = .slice A n c∧A.isNone=b:=by
 unfold AA at h
 split at h
 ·cases hq
  refine ⟨rfl,?_⟩
  split at h
  ·cases h;cases hp;exact ⟨_,_,_,rfl,rfl⟩
  ·cases h;cases hp;exact ⟨_,_,_,rfl,rfl⟩
  ·cases h;cases hp;exact ⟨_,_,_,rfl,rfl⟩
  ·cases h;cases hp;exact ⟨_,_,_,rfl,rfl⟩
  ·cases h
 ·cases h
theorem Cf (d:Nat) (w:World) {T E:TypeId} (hT:P.underlying T=some (.slice E)) (A:Option Addr) (n c:Nat):(Op.equalIn (d+1) T (.slice A n c) (.slice none 0 0)).run P w = .ok A.isNone w:=by
 cases A<;>simp [Op.equalIn,run_underlying hT]
theorem yh (w:World) {T E:TypeId} (hT:P.underlying T=some (.slice E)) (A:Option Addr) (n c:Nat):(Op.equalIn 10000 T (.slice A n c) (.slice none 0 0)).run P w = .ok A.isNone w:=Cf 9999 w hT A n c
theorem Gd {S:Hp} {op:BinOp} {T T' E:TypeId} {x y:Operand} {b:Bool} (ho:o.op = .binOp op T x y T') (hT:P.underlying T=some (.slice E)) (nE:op = .eql∨op = .neq)
  (hb:AA (ρ x) (ρ y)=some b):fb P o ρ S S (.v (.bool (if op = .eql then b else !b))):=
 .value fun g w a _ hv=>by
  obtain ⟨e2,A,n,c,h1,h2⟩:=Gm hb (hv x (by simp [ho,Op.operands])) (hv y (by simp [ho,Op.operands]))
  have eX:=yh (P:=P) w hT A n c
  rw [h2] at eX
  refine ⟨.bool (if op = .eql then b else !b),?_,.v _⟩
  have kb:(eqGuard op T x y (.slice A n c) (.slice none 0 0)).run P w = .ok () w:=by
   rcases nE with rfl | rfl<;>rfl
  rcases nE with rfl | rfl
  ·have hb:(binOp .eql T (.slice A n c) (.slice none 0 0)).run P w = .ok (.bool b) w:=by
    simp only [binOp];simp [Op.equal,Op.maxDepth,eX]
   simp only [execOp,ho,h1,e2,Sem.run_bind,kb,Result.andThen_ok,if_true,hb,Sem.run_pure]
  ·have hb:(binOp .neq T (.slice A n c) (.slice none 0 0)).run P w = .ok (.bool (!b)) w:=by
    simp only [binOp];simp [Op.equal,Op.maxDepth,eX]
   simp only [execOp,ho,h1,e2,Sem.run_bind,kb,Result.andThen_ok,hb,Sem.run_pure]
   rfl
def Ev (E:Env) (op:BinOp) (T:Nat) (px py:A) (h:H) (K:A→H→Fp→Option β):Option β:=match px,py with
 | .v (.int k m),.v (.int k' n)=>bif Jp op then shI op k m n (fun v=>K (.v v) h .no) else if k=k' then Ut op k m n (fun v=>K (.v v) h .no) else none
 | .v (.bool p),.v (.bool q)=>bif isEq op then (match cB E.dR T with
  | some ⟨.bool,_,_,_,_,_,_⟩=>K (.v (.bool (AB op (po p q)))) h .no
  | _=>none) else none
 | px,py=>bif isEq op then (match cB E.dR T with
  | some e=>match e.d with
   | .pointer _=>match CW px py with
    | some b=>K (.v (.bool (AB op b))) h .no
    | none=>none
   | .slice _=>match AA px py with
    | some b=>K (.v (.bool (AB op b))) h .no
    | none=>none
   | .struct _=>bif iy px && iy py && E.eqs.any (Nat.beq T) then (match px.cells,py.cells with
    | some cs,some ds=>match uK E 6 T cs ds with
     | some b=>K (.v (.bool (AB op b))) h .no
     | none=>none
    | _,_=>none) else none
   | _=>none
  | none=>none) else none
theorem um (hE:b0 P E) {op:BinOp} {T T':TypeId} {x y:Operand} (ho:o.op = .binOp op T x y T') (hr:Ev E op T (ρ x) (ρ y) h K=some r):Out P o ρ h K r:=by
 have hd:∀c,o.op≠.defer c:=by rw [ho];intro c e;cases e
 unfold Ev at hr
 split at hr
 ·rename_i k m k' n hx hy
  cases hs:Jp op with
  | true=>
   rw [hs] at hr
   simp only [cond_true] at hr
   obtain ⟨v,h1,h2⟩:=J6 hr
   exact .pure h1 (fun S2=>Am ho hx hy h2) hd
  | false=>
   rw [hs] at hr
   simp only [cond_false] at hr
   split at hr
   ·rename_i hk;subst hk
    obtain ⟨v,h1,h2⟩:=Hw hr
    exact .pure h1 (fun S2=>Gf ho hx hy h2) hd
   ·cases hr
 ·rename_i p q hx hy
  obtain ⟨hq,hr⟩:=aj hr
  split at hr
  ·rename_i ht
   refine .pure hr (fun S2=>?_) hd
   have:=Ge (P:=P) (S:=S2) ho (hE.dR _ _ ht).u hx hy (lJ hq)
   rw [oe _ hq]
   rcases lJ hq with rfl | rfl<;>exact this
  ·cases hr
 ·obtain ⟨hq,hr⟩:=aj hr
  split at hr
  ·rename_i e ht
   split at hr
   ·rename_i el BF
    split at hr
    ·rename_i b hb
     refine .pure hr (fun S2=>?_) hd
     rw [oe _ hq]
     exact Ao ho (by rw [(hE.dR _ _ ht).u,BF]) hb (lJ hq)
    ·cases hr
   ·rename_i el BF
    split at hr
    ·rename_i b hb
     refine .pure hr (fun S2=>?_) hd
     rw [oe _ hq]
     exact Gd ho (by rw [(hE.dR _ _ ht).u,BF]) (lJ hq) hb
    ·cases hr
   ·rename_i fs BF
    obtain ⟨hc,hr⟩:=aj hr
    simp only [zC] at hc
    split at hr
    ·rename_i cs ds h1 h2
     split at hr
     ·rename_i b hb
      refine .pure hr (fun S2=>?_) hd
      rw [oe _ hq]
      exact Ap hE ho ht (by rw [BF];rfl) (hE.eqs _ hc.2) hc.1.1 hc.1.2 h1 h2 hb (by omega) (lJ hq)
     ·cases hr
    ·cases hr
   ·cases hr
  ·cases hr
def VF (op:UnOp) (px:A) (h:H) (K:A→H→Fp→Option β):Option β:=match op,px with
 | .not,.v (.bool b)=>K (.v (.bool (af b))) h .no
 | _,_=>none
theorem J0 {op:UnOp} {T:TypeId} {x:Operand} (ho:o.op = .unOp op T x) (hr:VF op (ρ x) h K=some r):Out P o ρ h K r:=by
 unfold VF at hr
 split at hr
 ·rename_i b hx
  exact .pure hr (fun S2=>F6 ho hx) (by rw [ho];intro c e;cases e)
 ·cases hr
def ad9 (E:Env) (s d:Nat) (px:A) (h:H) (K:A→H→Fp→Option β):Option β:=match cB E.dR s,cB E.dR d,px with
 | some _,some ⟨.int k',_,_,_,_,_,_⟩,.v (.int k n)=>if k'=k then K (.v (.int k n)) h .no else K (.v (.int k' (cl k' n))) h .no
 | _,_,_=>none
def Z5 (E:Env) (s d:Nat) (px:A) (h:H) (K:A→H→Fp→Option β):Option β:=match cB E.dR s,cB E.dR d,px with
 | some _,some ⟨.int k',_,_,_,_,_,_⟩,.v (.int _ n)=>K (.v (.int k' (cl k' n))) h .no
 | _,_,_=>none
theorem Ls (hE:b0 P E) {s d:TypeId} {x:Operand} (ho:o.op = .convert s d x) (hr:Z5 E s d (ρ x) h K=some r):Out P o ρ h K r:=by
 unfold Z5 at hr
 split at hr
 ·rename_i es _ _ _ _ _ _ _ _ _ hs m0 hx
  exact .pure hr (fun S2=>CM ho (by rw [(hE.dR _ _ hs).u];rfl) (hE.dR _ _ m0).u hx) (by rw [ho];intro c e;cases e)
 ·cases hr
def Q8 (px:A) (h:H) (K:A→H→Fp→Option β):Option β:=bif Di px then K px h .no else none
theorem Gp {x:Operand} (ho:o.op = .nilCheck x) (hr:Q8 (ρ x) h K=some r):Out P o ρ h K r:=by
 obtain ⟨h1,h2⟩:=aj hr
 exact .pure h2 (fun S2=>tu ho h1) (by rw [ho];intro c e;cases e)
end
end
section
open Go.RowKit
section
variable {P:Program} {E:Env} {o:Oper} {ρ:Operand→A} {h:H} {β:Type} {K:A→H→Fp→Option β} {r:β}
def lP:Nat→Ty→Nat→Option (List Sp)
 | 1,_,0=>some []
 | _+2,.pair _ _,0=>some [.fst]
 | n+2,.pair a b,f+1=>match lP (n+1) b f with
  | some π=>some (.snd a.size::π)
  | none=>none
 | _,_,_=>none
theorem ub {s:Nat}:∀(n:Nat) (t:Ty) (f:Nat) (π:List Sp),lP n t f=some π→BJ s π
 | 0,_,_,_,h=>by simp [lP] at h
 | 1,_,0,_,h=>by simp [lP] at h;subst h;trivial
 | 1,_,f+1,_,h=>by simp [lP] at h
 | n+2,.pair a b,0,_,h=>by simp [lP] at h;subst h;trivial
 | n+2,.pair a b,f+1,_,h=>by
  simp only [lP] at h
  split at h
  ·rename_i π' h'
   cases h
   exact ub (s:=s) (n+1) b f π' h'
  ·cases h
 | n+2,.int _,f,_,h=>by cases f<;>simp [lP] at h
 | n+2,.bool,f,_,h=>by cases f<;>simp [lP] at h
 | n+2,.unit,f,_,h=>by cases f<;>simp [lP] at h
 | n+2,.arr _ _,f,_,h=>by cases f<;>simp [lP] at h
 | n+2,.aO _,f,_,h=>by cases f<;>simp [lP] at h
 | n+2,.ptr _,f,_,h=>by cases f<;>simp [lP] at h
 | n+2,.dF _,f,_,h=>by cases f<;>simp [lP] at h
 | n+2,.jZ _ _,f,_,h=>by cases f<;>simp [lP] at h
 | n+2,.oP _ _,f,_,h=>by cases f<;>simp [lP] at h
 | n+2,.mp _,f,_,h=>by cases f<;>simp [lP] at h
def K9 (E:Env) (T f:Nat) (px:A) (h:H) (K:A→H→Fp→Option β):Option β:=match cB E.dR T with
 | some ⟨.struct fs,_,_,_,_,t,_⟩=>match fs[f]? with
  | some fd=>match cB E.dR fd.type with
   | some e=>bif Nat.blt 0 e.size then (match px with
    | .ptr o off=>K (.ptr o (off+fd.offset)) h .no
    | .tp X π=>match t with
     | some t=>match lP fs.size t f with
      | some σ=>bif Nat.beq (dE σ) fd.offset then K (.tp X (π++σ)) h .no else none
      | none=>none
     | none=>none
    | .dp t x=>match lP fs.size t f with
     | some σ=>bif Nat.beq (dE σ) fd.offset then (match nF σ t x with
      | some s=>K (.dp s.t s.x) h .no
      | none=>none) else none
     | none=>none
    | _=>none) else none
   | none=>none
  | none=>none
 | _=>none
theorem G6 (hE:b0 P E) {T f:Nat} {x:Operand} (ho:o.op = .fieldAddr T x f) (hr:K9 E T f (ρ x) h K=some r):Out P o ρ h K r:=by
 have hd:∀c,o.op≠.defer c:=by rw [ho];intro c e;cases e
 unfold K9 at hr
 split at hr
 ·rename_i fs _ _ _ _ t _ ht
  split at hr
  ·rename_i fd hf
   split at hr
   ·rename_i e he
    obtain ⟨h0,hr⟩:=aj hr
    have h0:=bf h0
    have nu:∀{v:A},(∀g u,V g (ρ x) u→∃b off,u = .pointer (some ⟨b,off,none⟩)∧V g v (.pointer (some ⟨b,off+fd.offset,none⟩)))→∀S2,fb P o ρ S2 S2 v:=fun hv S2=>
     An ho (hE.dR _ _ ht).u hf (hE.dR _ _ he).ti.size (by omega) hv
    split at hr
    ·rename_i q off hx
     refine .pure hr (nu fun g u hu=>?_) hd
     rw [hx] at hu
     cases hu with
     | ptr _ _ b s hb=>exact ⟨b,off,rfl,.ptr _ _ b s hb⟩
    ·rename_i X π hx
     split at hr
     ·rename_i t'
      split at hr
      ·rename_i σ hσ
       obtain ⟨hc,hr⟩:=aj hr
       refine .pure hr (nu fun g u hu=>?_) hd
       rw [hx] at hu
       cases hu with
       | tp _ _ b s hb hk=>
        refine ⟨b,dE π,rfl,?_⟩
        rw [←beq_eq hc,←j8]
        exact .tp X _ b s hb ((lS π σ).2 ⟨hk,ub _ _ _ _ hσ⟩)
      ·cases hr
     ·cases hr
    ·rename_i t' y hx
     split at hr
     ·rename_i σ hσ
      obtain ⟨hc,hr⟩:=aj hr
      split at hr
      ·rename_i sg XE
       refine .pure hr (nu fun g u hu=>?_) hd
       rw [hx] at hu
       cases hu with
       | dp _ _ b off f hm=>
        obtain ⟨a,c,q1,q2⟩:=mn σ t' y 0 sg XE (ub _ _ _ _ hσ)
        refine ⟨b,off,rfl,.dp sg.t sg.x b _ (fun j=>f (dE σ+j)) (fun j d hj=>?_)⟩
        have:=hm (dE σ+j) d (by
         rw [q1,zJ (by omega),show dE σ+j-a.length=j by omega,zK (zB.1 hj).1];exact hj)
        rw [←beq_eq hc,Nat.add_assoc]
        exact this
      ·cases hr
     ·cases hr
    ·cases hr
   ·cases hr
  ·cases hr
 ·cases hr
def UF:Nat→Nat→Int→(Nat→Option β)→Option β
 | 0,_,_,_=>none
 | n+1,i,m,k=>br (ah m (zN i)) (k i) (UF n (i+1) m k)
theorem wU {m:Int} {k:Nat→Option β}:∀(n i:Nat),UF n i m k=some r→∃j,k j=some r∧m=((j:Nat):Int)∧i≤j∧j<i+n
 | 0,i,h=>by cases h
 | n+1,i,h=>by
  rcases pn h with ⟨e,h1⟩ | ⟨e,h1⟩
  ·exact ⟨i,h1,of_decide_eq_true e,Nat.le_refl _,by omega⟩
  ·obtain ⟨j,k1,k2,k3,k4⟩:=wU n (i+1) h1
   exact ⟨j,k1,k2,by omega,by omega⟩
def Xh:Operand→Option Nat
 | .const (.int _ (.ofNat n))=>some n
 | _=>none
theorem nc {n:Int} (h:bn n):((nN n:Nat):Int)=n:=Int.toNat_of_nonneg h
def Xn (E:Env) (T:Nat) (px:A) (y:Operand) (py:A) (h:H) (K:A→H→Fp→Option β):Option β:=match py with
 | .v (.int _ n)=>match cB E.dR T with
  | some ⟨.array len el,_,_,_,_,_,_⟩=>match cB E.dR el with
   | some e=>match px with
    | .ptr q off=>match Xh y with
     | some i=>gd (neq (nN n) i) (bif Nat.blt i len then gd (bn n) (K (.ptr q (off+i*e.size)) h .no) else none)
     | none=>UF len 0 n (fun i=>K (.ptr q (off+i*e.size)) h .no)
    | .tp X π=>gd (bn n) (gd (bo (nN n) len) (K (.tp X (π++[.ai (nN n) len e.size])) h .no))
    | .dp t x=>gd (bn n) (gd (bo (nN n) len) (bif Nat.blt 0 e.size then (match nF [.ai (nN n) len e.size] t x with
     | some s=>K (.dp s.t s.x) h .no
     | none=>none) else none))
    | _=>none
   | none=>none
  | some ⟨.slice el,_,_,_,_,_,_⟩=>match cB E.dR el with
   | some e=>bif Nat.blt 0 e.size then (match px with
    | .tl t _ l=>bif Nat.beq t.size e.size then gd (bn n) (gd (bo (nN n) (len l)) (K (.dp t (nth t.cP l (nN n))) h .no)) else none
    | .tw X z=>bif Nat.beq z e.size then jt h X (fun t l=>bif Nat.beq z t.size then gd (bn n) (gd (bo (nN n) (len l)) (K (.tp X [.ix (nN n) z]) h (.rd [iM X]))) else none) else none
    | .ts X z off m=>bif Nat.beq z e.size then gd (bn n) (gd (bo (nN n) m) (K (.tp X [.ix (aN off (nN n)) z]) h .no)) else none
    | .tf X z off m=>bif Nat.beq z e.size then gd (bn n) (gd (bo (nN n) m) (K (.tp X [.ix (aN off (nN n)) z]) h .no)) else none
    | .aa X π m z=>bif Nat.beq z e.size then gd (bn n) (gd (bo (nN n) m) (K (.tp X (π++[.ai (nN n) m z])) h .no)) else none
    | .sl q off z m=>bif Nat.beq z e.size then UF m 0 n (fun i=>K (.ptr q (off+i*z)) h .no) else none
    | _=>none) else none
   | none=>none
  | _=>none
 | _=>none
theorem G7 {t:Ty} {l:List t.T} {i:Nat} (hi:i<l.length) {j:Nat} {c:D} (hj:(de t (nth t.cP l i))[j]?=some c):(l.map (de t)).flatten[i*t.size+j]?=some c:=by
 have e:l=l.take i++nth t.cP l i::l.drop (i+1):=by
  rw [show nth t.cP l i=l[i] by simp [nth,zA,zD hi],List.getElem_cons_drop,zP]
 have hl:((l.take i).flatMap (de t)).length=i*t.size:=by
  have:∀m:List t.T,(m.flatMap (de t)).length=m.length*t.size:=fun m=>by
   induction m with
   | nil=>simp
   | cons a m ih=>rw [List.flatMap_cons,zY,ih,eh,zR,Nat.succ_mul,Nat.add_comm]
  rw [this,List.length_take,Nat.min_eq_left (Nat.le_of_lt hi)]
 rw [lb]
 conv=>lhs;rw [e]
 rw [List.flatMap_append,List.flatMap_cons,zJ (by omega),hl,show i*t.size+j-i*t.size=j by omega,zK (zB.1 hj).1]
 exact hj
theorem KG (hE:b0 P E) {T:Nat} {x y:Operand} (ho:o.op = .indexAddr T x y) (hr:Xn E T (ρ x) y (ρ y) h K=some r):Out P o ρ h K r:=by
 have hd:∀c,o.op≠.defer c:=by rw [ho];intro c e;cases e
 unfold Xn at hr
 split at hr
 ·rename_i k n hy
  split at hr
  ·rename_i len el _ _ _ _ _ _ ht
   split at hr
   ·rename_i e he
    have nu:∀{v:A},0≤n∧n<len→(∀g u,V g (ρ x) u→∃b off,u = .pointer (some ⟨b,off,none⟩)∧V g v (.pointer (some ⟨b,off+n.toNat*e.size,none⟩)))→∀S2,fb P o ρ S2 S2 v:=fun hn hv S2=>
     rM ho (hE.dR _ _ ht).u (hE.dR _ _ he).ti.size hy hn hv
    split at hr
    ·rename_i q off hx
     have ptr:∀i:Nat,n.toNat=i→∀g u,V g (ρ x) u→∃b Q5,u = .pointer (some ⟨b,Q5,none⟩)∧V g (.ptr q (off+i*e.size)) (.pointer (some ⟨b,Q5+n.toNat*e.size,none⟩)):=fun i hi g u hu=>by
      rw [hx] at hu
      cases hu with
      | ptr _ _ b s hb=>exact ⟨b,off,rfl,by rw [hi];exact .ptr _ _ b s hb⟩
     split at hr
     ·rename_i i _
      obtain ⟨h1,hr⟩:=bE hr
      obtain ⟨h2,hr⟩:=aj hr
      obtain ⟨h3,hr⟩:=bE hr
      have h4:=nc h3
      have h1:nN n=i:=h1
      have h5:=bf h2
      exact .pure hr (nu ⟨h3,by omega⟩ (ptr i h1)) hd
     ·obtain ⟨i,h1,h2,h3,h4⟩:=wU _ _ hr
      exact .pure h1 (nu ⟨by omega,by omega⟩ (ptr i (by omega))) hd
    ·rename_i X π hx
     obtain ⟨h3,hr⟩:=bE hr
     obtain ⟨h4,hr⟩:=bE hr
     have h5:=nc h3
     have h4:nN n<len:=h4
     refine .pure hr (nu ⟨h3,by omega⟩ (fun g u hu=>?_)) hd
     rw [hx] at hu
     cases hu with
     | tp _ _ b s hb hk=>
      refine ⟨b,dE π,rfl,?_⟩
      have:=V.tp (g:=g) X (π++[.ai (nN n) len e.size]) b s hb ((lS π [.ai (nN n) len e.size]).2 ⟨hk,show nN n<len∧True from ⟨h4,trivial⟩⟩)
      rw [j8] at this
      exact this
    ·rename_i t z hx
     obtain ⟨h3,hr⟩:=bE hr
     obtain ⟨h4,hr⟩:=bE hr
     obtain ⟨_,hr⟩:=aj hr
     have h5:=nc h3
     have h4:nN n<len:=h4
     split at hr
     ·rename_i sg XE
      refine .pure hr (nu ⟨h3,by omega⟩ (fun g u hu=>?_)) hd
      rw [hx] at hu
      cases hu with
      | dp _ _ b off f hm=>
       obtain ⟨a,c,q1,q2⟩:=mn _ t z 0 sg XE ⟨h4,trivial⟩
       have q2:a.length=nN n*e.size:=q2
       refine ⟨b,off,rfl,.dp sg.t sg.x b _ (fun j=>f (nN n*e.size+j)) (fun j d hj=>?_)⟩
       have:=hm (nN n*e.size+j) d (by
        rw [q1,zJ (by omega),show nN n*e.size+j-a.length=j by omega,zK (zB.1 hj).1];exact hj)
       rw [Nat.add_assoc]
       exact this
     ·cases hr
    ·cases hr
   ·cases hr
  ·rename_i el _ _ _ _ _ _ ht
   split at hr
   ·rename_i e he
    obtain ⟨h0,hr⟩:=aj hr
    have h0:=bf h0
    have nu:∀{v:A} {S2:Hp},(∀g w u,Inv g S2 w→V g (ρ x) u→∃b off m cap,u = .slice (some ⟨b,off,none⟩) m cap∧(0≤n∧n<m)∧V g v (.pointer (some ⟨b,off+n.toNat*e.size,none⟩)))→fb P o ρ S2 S2 v:=fun hv=>
     tA ho (hE.dR _ _ ht).u (hE.dR _ _ he).ti.size hy hv
    split at hr
    ·rename_i t f l hx
     obtain ⟨h1,hr⟩:=aj hr
     obtain ⟨h3,hr⟩:=bE hr
     obtain ⟨h4,hr⟩:=bE hr
     have h5:=nc h3
     have h4:nN n<l.length:=h4
     refine .pure hr (fun S2=>nu (fun g w u hI hu=>?_)) hd
     rw [hx] at hu
     cases hu with
     | tl _ _ _ _ hv=>
      rw [←beq_eq h1] at *
      generalize qc:List.map (de t) l=es at hv
      have pg:es.length=l.length:=by rw [←qc,zH]
      cases hv with
      | s7=>simp at pg;omega
      | sl _ _ _ a cap vs hz hc hf hn nP hl hm E7=>
       obtain ⟨p,rfl⟩:∃p,a=some p:=by
        cases a with
        | none=>have:=hn rfl;omega
        | some p=>exact ⟨p,rfl⟩
       refine ⟨p.1,p.2,es.length,cap,rfl,⟨h3,by omega⟩,.dp t _ p.1 _ (fun j=>vs.getD (nN n*t.size+j) undef) (fun j c hj=>?_)⟩
       have Ff:=G7 (t:=t) (l:=l) h4 hj
       rw [qc] at Ff
       have eY:=(zB.1 Ff).1
       have BB:vs[nN n*t.size+j]?=some (vs.getD (nN n*t.size+j) undef):=by
        rw [zA,zD (by rw [←hl];exact eY)];rfl
       refine ⟨?_,E7 _ c _ Ff BB⟩
       have:=hm p _ _ rfl BB
       rw [Nat.add_assoc];exact this
    ·rename_i X z hx
     obtain ⟨h1,hr⟩:=aj hr
     obtain rfl:=beq_eq h1
     obtain ⟨t,l,hr,hX,fc⟩:=eV hr
     obtain ⟨h2,hr⟩:=aj hr
     obtain ⟨h3,hr⟩:=bE hr
     obtain ⟨h4,hr⟩:=bE hr
     have h5:=nc h3
     have h4:nN n<l.length:=h4
     have h2:=beq_eq h2
     refine .read _ hr (fun S2 hA=>nu (fun g w u hI hu=>?_)) hd
     have eg:=(hA _ (bL hX (.head _))).1.trans fc
     rw [hx] at hu
     cases hu with
     | sd _ _ ad bO=>
      rcases hI.cells _ _ eg with ⟨_,k2⟩ | ⟨b,tt,k1,_⟩
      ·have:=bj t l
       rw [k2] at this
       have:0<l.length*t.size:=Nat.mul_pos (by omega) (by omega)
       simp at *;omega
      ·rw [k1] at bO;cases bO
     | tw _ _ m b cap tt bO hn nP hp d m0=>
      rcases hI.cells _ _ eg with ⟨k1,_⟩ | ⟨b',Fw,k1,_⟩
      ·rw [k1] at bO;cases bO
      have K3:=bO
      rw [k1] at bO
      simp only [zI,zU] at bO
      obtain ⟨rfl,hlen,_⟩:=bO
      rw [bj,h2] at hlen
      have hm:l.length=m:=Nat.eq_of_mul_eq_mul_right (by omega) hlen
      refine ⟨b',d,m,cap,rfl,⟨h3,by omega⟩,?_⟩
      obtain rfl:=m0 (by omega)
      have:=V.tp (g:=g) X [.ix (nN n) e.size] b' _ K3 ⟨zW _ (by omega),trivial⟩
      rw [show dE [.ix (nN n) e.size]=nN n*e.size from rfl] at this
      rw [Nat.zero_add];exact this
    ·rename_i X z off m hx
     obtain ⟨h1,hr⟩:=aj hr
     obtain rfl:=beq_eq h1
     obtain ⟨h3,hr⟩:=bE hr
     obtain ⟨h4,hr⟩:=bE hr
     have h5:=nc h3
     have h4:nN n<m:=h4
     refine .pure hr (fun S2=>nu (fun g w u hI hu=>?_)) hd
     rw [hx] at hu
     cases hu with
     | sf _ _ _ _ _ _ hn=>omega
     | ts _ _ _ _ b cap s bO hn nP hs hp d m0=>
      refine ⟨b,d,m,cap,rfl,⟨h3,by omega⟩,?_⟩
      obtain rfl:=m0 (by omega)
      have:=V.tp (g:=g) X [.ix (aN off (nN n)) e.size] b _ bO ⟨Nat.le_trans (zW _ (show aN off (nN n)+1≤off+m by unfold aN;omega)) hs,trivial⟩
      rw [show dE [.ix (aN off (nN n)) e.size]=(off+nN n)*e.size from rfl,Nat.add_mul] at this
      exact this
    ·rename_i X z off m hx
     obtain ⟨h1,hr⟩:=aj hr
     obtain rfl:=beq_eq h1
     obtain ⟨h3,hr⟩:=bE hr
     obtain ⟨h4,hr⟩:=bE hr
     have h5:=nc h3
     have h4:nN n<m:=h4
     refine .pure hr (fun S2=>nu (fun g w u hI hu=>?_)) hd
     rw [hx] at hu
     cases hu with
     | BZ _ _ _ _ _ _ hn=>omega
     | tf _ _ _ _ b s bO nP hs d m0=>
      refine ⟨b,d,m,m,rfl,⟨h3,by omega⟩,?_⟩
      obtain rfl:=m0 (by omega)
      have:=V.tp (g:=g) X [.ix (aN off (nN n)) e.size] b _ bO ⟨Nat.le_trans (zW _ (show aN off (nN n)+1≤off+m by unfold aN;omega)) hs,trivial⟩
      rw [show dE [.ix (aN off (nN n)) e.size]=(off+nN n)*e.size from rfl,Nat.add_mul] at this
      exact this
    ·rename_i X π m z hx
     obtain ⟨h1,hr⟩:=aj hr
     obtain rfl:=beq_eq h1
     obtain ⟨h3,hr⟩:=bE hr
     obtain ⟨h4,hr⟩:=bE hr
     have h5:=nc h3
     have h4:nN n<m:=h4
     refine .pure hr (fun S2=>nu (fun g w u hI hu=>?_)) hd
     rw [hx] at hu
     cases hu with
     | aa _ _ _ _ b cap s bO hk hn nP=>
      refine ⟨b,dE π,m,cap,rfl,⟨h3,by omega⟩,?_⟩
      have:=V.tp (g:=g) X (π++[.ai (nN n) m e.size]) b s bO ((lS π [.ai (nN n) m e.size]).2 ⟨hk,show nN n<m∧True from ⟨h4,trivial⟩⟩)
      rw [j8] at this
      exact this
    ·rename_i q off z m hx
     obtain ⟨h1,hr⟩:=aj hr
     obtain rfl:=beq_eq h1
     obtain ⟨i,k1,k2,k3,k4⟩:=wU _ _ hr
     refine .pure k1 (fun S2=>nu (fun g w u hI hu=>?_)) hd
     rw [hx] at hu
     cases hu with
     | sl _ _ _ _ b cap s bO hn nP hs=>
      refine ⟨b,off,m,cap,rfl,⟨by omega,by omega⟩,?_⟩
      rw [show n.toNat=i by omega]
      exact .ptr _ _ b s bO
    ·cases hr
   ·cases hr
  ·cases hr
 ·cases hr
end
end
section
open Go.RowKit
section
variable {P:Program} {E:Env} {o:Oper} {ρ:Operand→A} {h:H} {β:Type} {K:A→H→Fp→Option β} {r:β}
def KD (E:Env) (T:Nat) (px:A) (h:H) (K:A→H→Fp→Option β):Option β:=match cB E.dR T with
 | some e=>match px with
  | .ptr q off=>bif Nat.blt q 16777216 then (match h.t.get q with
   | some (.cells cs)=>bif jK e.d then (bif Nat.ble (off+e.size) cs.length then K (.agg ((cs.drop off).take e.size)) h (.rd [dy q]) else none) else (match cs[off]? with
    | some c=>B1 c (fun v=>K v h (.rd [dy q]))
    | none=>none)
   | _=>none) else none
  | .tp X π=>qG h X π (fun s=>bif Nat.beq s.t.size e.size then (bif jK e.d then K (.agg (aE s.t s.x)) h (.rd [iM X]) else (match aE s.t s.x with
   | [c]=>B1 c (fun v=>K v h (.rd [iM X]))
   | _=>none)) else none)
  | .dp t x=>bif t.data && Nat.beq t.size e.size then (bif jK e.d then K (.agg (aE t x)) h .no else (match aE t x with
   | [c]=>B1 c (fun v=>K v h .no)
   | _=>none)) else none
  | _=>none
 | none=>none
theorem C6 (hE:b0 P E) {T:Nat} {px:A} (hr:KD E T px h K=some r):∃v l,K v h (.rd l)=some r∧∀S2,Agree (.rd l) (hp h) S2→∀(o:Oper) (ρ:Operand→A) (x:Operand),o.op = .load T x→ρ x=px→EL P o ρ S2 v:=by
 have sp:∀{c:A} {l:List Nat},B1 c (fun v=>K v h (.rd l))=some r→(∀S2,Agree (.rd l) (hp h) S2→∀(o:Oper) (ρ:Operand→A) (x:Operand),o.op = .load T x→ρ x=px→EL P o ρ S2 c) →
   ∃v l,K v h (.rd l)=some r∧∀S2,Agree (.rd l) (hp h) S2→∀(o:Oper) (ρ:Operand→A) (x:Operand),o.op = .load T x→ρ x=px→EL P o ρ S2 v:=fun h1 h2=>by
  obtain ⟨v,k1,k2⟩:=wV h1
  exact ⟨v,_,k1,fun S2 hA o ρ x ho hx g w a hI hv=>let ⟨u,q1,q2⟩:=h2 S2 hA o ρ x ho hx g w a hI hv;⟨u,q1,k2 g u q2⟩⟩
 unfold KD at hr
 split at hr
 ·rename_i e ht
  have hk:=hE.dR _ _ ht
  split at hr
  ·rename_i q off
   obtain ⟨hq,hr⟩:=aj hr
   have hq:=bf hq
   split at hr
   ·rename_i cs hg
    have fc:(hp h).ob q=some (.cells cs):=by rw [j_ hq];unfold fM;rw [hg];rfl
    cases ha:jK e.d with
    | true=>
     rw [ha] at hr;simp only [cond_true] at hr
     obtain ⟨h1,hr⟩:=aj hr
     exact ⟨_,_,hr,fun S2 hA o ρ x ho hx=>od ho hk.u ha hk.ti.size (by rw [hx];rfl) ((hA q (aF hq (.head _))).1.trans fc) (Nat.le_of_ble_eq_true h1)⟩
    | false=>
     rw [ha] at hr;simp only [cond_false] at hr
     split at hr
     ·rename_i c hc
      exact sp hr (fun S2 hA o ρ x ho hx=>vk ho hk.u ha (by rw [hx];rfl) ((hA q (aF hq (.head _))).1.trans fc) hc)
     ·cases hr
   ·cases hr
  ·rename_i X π
   obtain ⟨sg,h1,hX,h2⟩:=sr hr
   obtain ⟨h3,h1⟩:=aj h1
   have h3:=beq_eq h3
   have bu:∀{S2:Hp} {v:A} {o:Oper} {ρ:Operand→A} {x:Operand},o.op = .load T x→ρ x = .tp X π→Agree (.rd [iM X]) (hp h) S2→(∀a c,S2.ob X.id=some (.cells (a++(aE sg.t sg.x++c)))→a.length=dE π→EL P o ρ S2 v)→EL P o ρ S2 v:=fun {S2 v o ρ x} ho hx hA k=>.bu fun g w a hI hv=>by
    have E8:=hv x (by simp [ho,Op.operands])
    rw [hx] at E8
    have ha:=hA _ (bL hX (.head _))
    obtain ⟨a,c,q1,q2⟩:=h2 g _ w _ hI ha.1 ha.2 E8
    exact k a c q1 q2
   have vJ:∀{ρ:Operand→A} {x:Operand},ρ x = .tp X π→Pl (ρ x)=some (X.id,dE π):=fun hx=>by rw [hx];rfl
   cases ha:jK e.d with
   | true=>
    rw [ha] at h1;simp only [cond_true] at h1
    refine ⟨_,_,h1,fun S2 hA o ρ x ho hx=>bu ho hx hA fun a c q1 q2=>?_⟩
    have:=od (P:=P) ho hk.u ha hk.ti.size (vJ hx) q1 (by simp only [zY,bP];omega)
    rwa [←q2,List.drop_left,←h3,←bP sg.t sg.x,List.take_left] at this
   | false=>
    rw [ha] at h1;simp only [cond_false] at h1
    split at h1
    ·rename_i c0 Fg
     refine sp h1 (fun S2 hA o ρ x ho hx=>bu ho hx hA fun a c q1 q2=>?_)
     refine vk ho hk.u ha (vJ hx) q1 ?_
     rw [←q2,zJ (Nat.le_refl _),Nat.sub_self,Fg];rfl
    ·cases h1
  ·rename_i t y
   obtain ⟨h1,hr⟩:=aj hr
   simp only [zC] at h1
   have h3:=beq_eq h1.2
   cases ha:jK e.d with
   | true=>
    rw [ha] at hr;simp only [cond_true] at hr
    exact ⟨_,[],hr,fun S2 _ o ρ x ho hx=>pF ho hk.u (by rw [h3];exact hk.ti.size) hx h1.1 (by rw [ha,if_pos rfl])⟩
   | false=>
    rw [ha] at hr;simp only [cond_false] at hr
    split at hr
    ·rename_i c0 Fg
     exact sp (l:=[]) hr (fun S2 _ o ρ x ho hx=>pF ho hk.u (by rw [h3];exact hk.ti.size) hx h1.1 (by rw [ha,if_neg (by simp)];exact Fg))
    ·cases hr
  ·cases hr
 ·cases hr
theorem KB (hE:b0 P E) {T:Nat} {x:Operand} (ho:o.op = .load T x) (hr:KD E T (ρ x) h K=some r):Out P o ρ h K r:=by
 have hd:∀c,o.op≠.defer c:=by rw [ho];intro c e;cases e
 obtain ⟨v,l,k1,k2⟩:=C6 hE hr
 exact .read _ k1 (fun S2 hA=>.value (k2 S2 hA o ρ x ho rfl)) hd
def sa (P:Program) (o:Oper) (S S':Hp) (pv:A) (g:G) (w:World) (a:Act):Prop:=
 ∀(next:Act→World→Prop) (Q:Exit→Act→World→Prop),(∀v g' w',V g' pv v→Inv g' S' w'→Ext S g w S' g' w'→next (a.put o.dst v) w')→o.wp P a w next Q
theorem sa.pre {S S1 S':Hp} {pv:A} {g g1:G} {w:World} {a:Act} (k:sa P o S1 S' pv g1 w a) (e:Ext S g w S1 g1 w):sa P o S S' pv g w a:=fun next Q K=>k next Q (fun v g' w' h1 h2 h3=>K v g' w' h1 h2 (e.trans h3))
theorem B0 {S:Hp} {T:TypeId} {x y:Operand} {p off n:Nat} {cs ps:List A} {g:G} {w:World} {a:Act} (ho:o.op = .store T x y) (hs:eP P T n) (hI:Inv g S w) (hx:∃b s,g.bu p=some (some b,s)∧a.eval x = .pointer (some ⟨b,off,none⟩)) (hy:Vs g ps (a.eval y).cells.toList) (hl:ps.length=n)
  (hp:S.ob p=some (.cells cs)) (hn:off+n≤cs.length):sa P o S (S.set p (.cells (put cs off ps))) .cL g w a:=by
 intro next Q K
 obtain ⟨b,s,h,hu⟩:=hx
 obtain ⟨cur,ty,k2,oR,h3,h4⟩:=hI.store (off:=off) hp h hy (by omega)
 unfold Oper.wp
 have oS:(a.eval y).cells.size=n:=by have:=hy.1;simp at this;omega
 have sE:=run_storeCells_at P b off ty (a.eval y).cells.toList 0 cur w k2 (by simpa using oR) hy.one
 simp only [execOp,ho,hu,Instr.storeAt,Instr.sureAddr,pure_bind,storeVar,Sem.run_bind,hs.run w,Result.andThen_ok,oS,ne_eq,not_true_eq_false,if_false]
 simp only [Nat.add_zero] at sE
 simp only [sE,Result.andThen_ok,Sem.run_pure]
 exact K _ g _ (.cL _) h3 h4
theorem F4 {T:Fp} {us:List Up} {S' S2:Hp} (hT:∀u∈us,aK T u.id=true):ja T S' (app us S2)=ja T S' S2:=by
 refine Hp.ext' (fun i=>?_) (fun i=>?_)
 ·show (if aK T i=true then _ else _)=(if aK T i=true then _ else _)
  split
  ·rfl
  ·rename_i hi;exact (dH us S2 i (fun u hu e=>hi (e▸hT u hu))).1
 ·show (if aK T i=true then _ else _)↔(if aK T i=true then _ else _)
  split
  ·exact Iff.rfl
  ·rename_i hi;exact (dH us S2 i (fun u hu e=>hi (e▸hT u hu))).2
def Wq (E:Env) (T:Nat) (px py:A) (h:H) (K:A→H→Fp→Option β):Option β:=match cB E.dR T,py.cells with
 | some e,some ps=>match px with
  | .ptr q off=>bif Nat.blt q 16777216 then (match h.t.get q with
   | some (.cells cs)=>bif Nat.beq ps.length e.size && Nat.ble (off+e.size) cs.length && !(vE h (dy q)) then fq h.t q (some (.cells (put cs off ps))) (fun t1=>K .cL { h with t:=t1 } (.wr [dy q])) else none
   | _=>none) else none
  | .tp X π=>match plT h X π with
   | some u=>bif Nat.beq u.size e.size then (K_ u ps h (fun tq h1 T1=>match oQ u tq with
     | some y=>pP h1 X π u y (fun h2=>K .cL h2 (.wr (iM X::T1)))
     | none=>none)) else none
   | none=>none
  | _=>none
 | _,_=>none
theorem oX {T U:List Nat} {w:Bool} {s:List Nat} {i:Nat} (hU:∀j∈U,j∈T) (k:aK ⟨false,T,w,s⟩ i=false):aK ⟨false,U,w,s⟩ i=false:=by
 cases hx:aK ⟨false,U,w,s⟩ i with
 | false=>rfl
 | true=>rw [fe hU hx] at k;cases k
theorem J4 (hE:b0 P E) {T:Nat} {x y:Operand} (ho:o.op = .store T x y) (hr:Wq E T (ρ x) (ρ y) h K=some r):Out P o ρ h K r:=by
 have hd:∀c,o.op≠.defer c:=by rw [ho];intro c e;cases e
 unfold Wq at hr
 split at hr
 ·rename_i e ps ht rR
  have hk:=hE.dR _ _ ht
  split at hr
  ·rename_i q off hx
   obtain ⟨hq,hr⟩:=aj hr
   have hq:=bf hq
   split at hr
   ·rename_i cs hg
    have fc:(hp h).ob q=some (.cells cs):=by rw [j_ hq];unfold fM;rw [hg];rfl
    obtain ⟨h1,hr⟩:=aj hr
    simp only [zC] at h1
    obtain ⟨_,t1,k1,k2⟩:=bz hr
    exact ⟨_,_,_,k1,.of [.set q (.cells (put cs off ps))] (pf (x:=.cells (put cs off ps)) hq k2) rfl (fun u hu=>by rcases zF.1 hu with rfl;exact aF (o:=q) hq (.head _))
     (fun S2 hA=>Ak ho hk.ti.size (by rw [hx];rfl) rR (beq_eq h1.1.1) ((hA q (aF hq (.head _))).1.trans fc) (Nat.le_of_ble_eq_true h1.1.2)) hd⟩
   ·cases hr
  ·rename_i X π hx
   split at hr
   ·rename_i u hu
    obtain ⟨KM,hr⟩:=aj hr
    obtain ⟨tq,h1,T1,hr,us,c1,c2,c3⟩:=G_ hr
    split at hr
    ·rename_i y' hy
     obtain ⟨h2,k1,hX,k2,k3⟩:=FD hr
     have BC:∀u∈us,aK (Fp.wr (iM X::T1)) u.id=true:=fun u hu=>fe (fun i hi=>.tail _ hi) (c2 u hu)
     have out:∀i,aK (Fp.wr (iM X::T1)) i=false→(hp h2).ob i=(hp h).ob i∧((hp h2).fr i↔(hp h).fr i):=fun i hi=>by
      have e1:=k2 i (oX (T:=iM X::T1) (fun j hj=>by rcases zF.1 hj with rfl;exact .head _) hi)
      have e2:=dH us (hp h) i (fun u hu e=>by have:=BC u hu;rw [←e] at this;rw [show aK (Fp.wr (iM X::T1)) i=false from hi] at this;cases this)
      rw [←c1] at e2
      exact ⟨e1.1.trans e2.1,e1.2.trans e2.2⟩
     refine ⟨_,_,_,k1,⟨out,fun i hi=>out i (sc hi),fun S2 hA=>?_⟩⟩
     ·refine fb.Jg (fun g w a next Q hI hv K'=>?_) hd
      have uI:=hv x (by simp [ho,Op.operands])
      have Xw:=(hv y (by simp [ho,Op.operands])).cells rR
      obtain ⟨g1,q1,q2,q3⟩:=c3 g S2 w _ hI (hA.mono fun i hi=>.tail _ hi) Xw
      obtain ⟨z1,z2⟩:=jr (g:=g1) u tq y' hy
      have GZ:Agree (Fp.wr (iM X::T1)) (hp h1) (app us S2):=by rw [c1];exact Agree.app us hA
      rw [hx] at uI
      have Rt:=uI.mono q2.le
      obtain ⟨cs,w1,w2,w3⟩:=k3 (iM X::T1) (.head _) g1 _ w _ q1 GZ Rt
      have vJ:∃b s,g1.bu X.id=some (some b,s)∧a.eval x = .pointer (some ⟨b,dE π,none⟩):=Rt.pl rfl
      have oS:=beq_eq KM
      have st:=B0 (P:=P) ho hk.ti.size q1 vJ (z2 _ q3) (by rw [bP,oS]) w1 (by rw [←oS];exact w2)
      rw [←w3,F4 BC] at st
      exact (st.pre q2) next Q K'
    ·cases hr
   ·cases hr
  ·cases hr
 ·cases hr
def mZ (x:gF) (h:H) (k:Nat→H→Option β):Option β:=fq h.t h.aU (some x) (fun t1=>k h.aU { h with t:=t1,aU:=h.aU+1 })
theorem fT {x:gF} {k:Nat→H→Option β} (hr:mZ x h k=some r):∃h',k h.aU h'=some r∧h.aU<16777216∧(hp h).fr h.aU∧hp h'=app [.new h.aU x.low] (hp h):=by
 obtain ⟨hq,t1,k1,k2⟩:=bz hr
 have hq:h.aU<16777216:=AG hq
 refine ⟨_,k1,hq,?_,Dv hq k2⟩
 have e:(if h.aU<cM then h.aU≤h.aU else f_ h.rg h.aU)=(h.aU≤h.aU):=if_pos hq
 show (if h.aU<cM then h.aU≤h.aU else f_ h.rg h.aU)
 rw [e];exact Nat.le_refl _
theorem nx {S:Hp} {T:TypeId} {i:TypeInfo} {z:Value} {q:Nat} {zs:List A} (ho:o.op = .alloc T) (hi:P.info? T=some i) (hz:i.zero=some z) (Rq:Zs zs z) (hf:S.fr q) :
  fb P o ρ S (S.new q (.cells zs)) (.ptr q 0):=by
 intro g w a next Q hI hv K
 have hzs:=Rq g
 obtain ⟨h1,h2⟩:=hI.lQ hf (cs:=zs) (vs:=z.cells) T (by have:=hzs.1;simp at this ⊢;omega) hzs.all
 unfold Oper.wp
 simp only [execOp,ho,Instr.alloc,Sem.run_bind,zeroValue,typeInfo,run_program,Result.andThen_ok,hi,hz,Sem.run_pure,newVar,newRow,run_newObj]
 exact K _ _ _ (.ptr _ _ w.heap.size _ ct) h1 h2
theorem V.Cu {g:G} {q:Nat} {v:Value} (hv:V g (.ptr q 0) v):V g (.tp (.loc q) []) v:=by
 cases hv with
 | ptr _ _ b s hb=>exact .tp (.loc q) [] b s hb trivial
def LS (E:Env) (T:Nat) (h:H) (K:A→H→Fp→Option β):Option β:=match cB E.dR T with
 | some e=>bif e.lt then (match e.t with
  | some t=>mZ (.one t t.cP) h (fun q h'=>K (.tp (.loc q) []) h' (.wr [dy q]))
  | none=>none) else mZ (.cells (jV e.zero)) h (fun q h'=>K (.ptr q 0) h' (.wr [dy q]))
 | none=>none
theorem HC (hE:b0 P E) {T:Nat} (ho:o.op = .alloc T) (hr:LS E T h K=some r):Out P o ρ h K r:=by
 have hd:∀c,o.op≠.defer c:=by rw [ho];intro c e;cases e
 unfold LS at hr
 split at hr
 ·rename_i e ht
  have hk:=hE.dR _ _ ht
  obtain ⟨i,t1,t2,t3,t4,t5,t6⟩:=hk.ti
  cases hl:e.lt with
  | true=>
   rw [hl] at hr;simp only [cond_true] at hr
   split at hr
   ·rename_i t wL
    obtain ⟨h',k1,hq,hf,hh⟩:=fT hr
    refine ⟨_,_,_,k1,Step.BP (.of _ hh rfl (fun u hu=>by rcases zF.1 hu with rfl;exact aF (o:=h.aU) hq (.head _)) (fun S2 hA=>nx ho t1 t2 (hk.tz t wL) ((hA _ (aF hq (.head _))).2.2 hf)) hd) (fun g v hv=>hv.Cu)⟩
   ·cases hr
  | false=>
   rw [hl] at hr;simp only [cond_false] at hr
   obtain ⟨h',k1,hq,hf,hh⟩:=fT hr
   exact ⟨_,_,_,k1,.of _ hh rfl (fun u hu=>by rcases zF.1 hu with rfl;exact aF (o:=h.aU) hq (.head _)) (fun S2 hA=>nx ho t1 t2 (BK t6) ((hA _ (aF hq (.head _))).2.2 hf)) hd⟩
 ·cases hr
theorem vp {S:Hp} {T:TypeId} {x:Operand} {ps qs:List A} {q:Nat} (ho:o.op = .box T x) (hx:(ρ x).cells=some ps) (hq:∀g vs,Vs g ps vs→Vs g qs vs) (hf:S.fr q):fb P o ρ S (S.new q (.cells qs)) (.ptr q 0):=by
 intro g w a next Q hI hv K
 have e2:=hq _ _ ((hv x (by simp [ho,Op.operands])).cells hx)
 obtain ⟨h1,h2⟩:=hI.lQ hf (cs:=qs) (vs:=(a.eval x).cells) T (by have:=e2.1;simp at this ⊢;omega) e2.all
 unfold Oper.wp
 simp only [execOp,ho,Instr.box,Sem.run_bind,Result.andThen_ok,Sem.run_pure,newVar,newRow,run_newObj]
 exact K _ _ _ (.ptr _ _ w.heap.size _ ct) h1 h2
def Et (E:Env) (T:Nat) (px:A) (h:H) (K:A→H→Fp→Option β):Option β:=match cB E.dR T,px.cells with
 | some e,some ps=>bif e.lt then (match e.t with
  | some t=>match oQ t ps with
   | some x=>mZ (.one t x) h (fun q h'=>K (.tp (.loc q) []) h' (.wr [dy q]))
   | none=>none
  | none=>none) else mZ (.cells ps) h (fun q h'=>K (.ptr q 0) h' (.wr [dy q]))
 | _,_=>none
theorem Es {T:Nat} {x:Operand} (ho:o.op = .box T x) (hr:Et E T (ρ x) h K=some r):Out P o ρ h K r:=by
 have hd:∀c,o.op≠.defer c:=by rw [ho];intro c e;cases e
 unfold Et at hr
 split at hr
 ·rename_i e ps ht rR
  cases hl:e.lt with
  | true=>
   rw [hl] at hr;simp only [cond_true] at hr
   split at hr
   ·rename_i t wL
    split at hr
    ·rename_i y hy
     obtain ⟨h',k1,hq,hf,hh⟩:=fT hr
     exact ⟨_,_,_,k1,Step.BP (.of _ hh rfl (fun u hu=>by rcases zF.1 hu with rfl;exact aF (o:=h.aU) hq (.head _)) (fun S2 hA=>vp ho rR (fun g vs hv=>(jr t ps y hy).2 vs hv) ((hA _ (aF hq (.head _))).2.2 hf)) hd) (fun g v hv=>hv.Cu)⟩
    ·cases hr
   ·cases hr
  | false=>
   rw [hl] at hr;simp only [cond_false] at hr
   obtain ⟨h',k1,hq,hf,hh⟩:=fT hr
   exact ⟨_,_,_,k1,.of _ hh rfl (fun u hu=>by rcases zF.1 hu with rfl;exact aF (o:=h.aU) hq (.head _)) (fun S2 hA=>vp ho rR (fun g vs hv=>hv) ((hA _ (aF hq (.head _))).2.2 hf)) hd⟩
 ·cases hr
end
end
section
open Go.RowKit
section
variable {P:Program} {E:Env} {o:Oper} {ρ:Operand→A} {h:H} {β:Type} {K:A→H→Fp→Option β} {r:β}
def LO (E:Env) (T:Nat) (ρ:Operand→A) (ps:List (Nat×Operand)) (h:H) (K:A→H→Fp→Option β):Option β:=match cB E.dR T with
 | some e=>match e.d with
  | .struct _=>match q8 ρ (fun i=>e.pl.toArray[i]?) (jV e.zero) ps with
   | some cs=>K (.agg cs) h .no
   | none=>none
  | .array _ el=>match cB E.dR el with
   | some e'=>match q8 ρ (fun i=>some (i*e'.size,e'.size)) (jV e.zero) ps with
    | some cs=>K (.agg cs) h .no
    | none=>none
   | none=>none
  | _=>none
 | none=>none
theorem Hv (hE:b0 P E) {T:Nat} {ps:Array (Nat×Operand)} (ho:o.op = .build T ps) (hr:LO E T ρ ps.toList h K=some r):Out P o ρ h K r:=by
 have hd:∀c,o.op≠.defer c:=by rw [ho];intro c e;cases e
 unfold LO at hr
 split at hr
 ·rename_i e ht
  have hk:=hE.dR _ _ ht
  split at hr
  ·rename_i fs BF
   split at hr
   ·rename_i cs hf
    obtain ⟨i,t1,t2,t3,t4,t5,t6⟩:=hk.ti
    exact .pure hr (fun S2=>As ho (by rw [hk.u,BF]) t1 t2 t6 (hk.pl fs BF) hf) hd
   ·cases hr
  ·rename_i n el BF
   split at hr
   ·rename_i e' X_
    split at hr
    ·rename_i cs hf
     exact .pure hr (fun S2=>rN ho (by rw [hk.u,BF]) hk.ti (hE.dR _ _ X_).ti.size hf) hd
    ·cases hr
   ·cases hr
  ·cases hr
 ·cases hr
def DX (f:List A→H→Option (List A×H×List Nat)) (z:Nat):Nat→List A→H→Option (List A×H×List Nat)
 | 0,cs,h=>some (cs,h,[])
 | n+1,cs,h=>match f (cs.take z) h with
  | some (ze,h1,T1)=>match DX f z n (cs.drop z) h1 with
   | some (JM,h2,T2)=>some (ze++JM,h2,T1++T2)
   | none=>none
  | none=>none
theorem yV {f:List A→H→Option (List A×H×List Nat)} (hf:∀cs h ig h' T,f cs h=some (ig,h',T)→Cv h h' T cs ig) {z:Nat}:∀(n:Nat) (cs:List A) (h:H) (ig:List A) (h':H) (T:List Nat),DX f z n cs h=some (ig,h',T)→Cv h h' T cs ig
 | 0,cs,h,ig,h',T,e=>by
  simp only [DX,zI,zU] at e
  obtain ⟨rfl,rfl,rfl⟩:=e
  exact Cv.refl h [] _
 | n+1,cs,h,ig,h',T,e=>by
  simp only [DX] at e
  split at e
  ·rename_i ze h1 T1 e1
   split at e
   ·rename_i JM h2 T2 e2
    simp only [zI,zU] at e
    obtain ⟨rfl,rfl,rfl⟩:=e
    have:=(hf _ _ _ _ _ e1).append (yV hf n _ _ _ _ _ e2)
    rwa [zP] at this
   ·cases e
  ·cases e
theorem ni {pv:A} {S:Hp} {T El:TypeId} {n z:Nat} {parts:Array (Nat×Operand)} {ie:TypeInfo} {zv:Value} {es cs:List A} {q:Nat} {g g0:G} {w:World} {a:Act} (ho:o.op = .buildSlice T n parts) (hT:P.underlying T=some (.slice El)) (hE:P.info? El=some ie) (hz:ie.zero=some zv)
  (hs:ie.size=z) (h0:0<z) (hn:n*z≤16777216) (qc:D9 ρ z parts.toList 0=some es) (hl:parts.toList.length=n) (hI:Inv g S w) (hv:∀x∈o.op.operands,V g0 (ρ x) (a.eval x)) (hf:S.fr q) (e5:Vs g cs ((parts.toList.map fun x=>a.eval x.2).flatMap (fun v=>v.cells.toList)))
  (qQ:∀g' b,g'.bu q=some (some b,(n*z,n*z))→n≤maxLen→V g' pv (.slice (some ⟨b,0,none⟩) n n)):sa P o S (S.new q (.cells cs)) pv g w a:=by
 intro next Q K
 subst hs
 obtain ⟨e2,e1,e3,e4⟩:=qe (z:=ie.size) (a:=a) (g:=g0) parts.toList 0 es (fun x hx=>hv x.2 (by
  simp only [ho,Op.operands]
  rw [List.mem_toArray]
  exact List.mem_map.2 ⟨x,hx,rfl⟩)) qc
 have KM:((Array.range (n*ie.size)).map (zv.cells[· % zv.cells.size]!)).size=n*ie.size:=by simp
 have RN:=Go.Great.fill_whole h0 (parts.toList.map fun x=>a.eval x.2) ((Array.range (n*ie.size)).map (zv.cells[· % zv.cells.size]!)) e3 (by simp only [zH];rw [KM,hl])
 have qS:(parts.map fun (i,x)=>(i,a.eval x)).toList=((parts.toList.map fun x=>a.eval x.2).zipIdx 0).map (fun x=>(x.2,x.1)):=by rw [←e2];simp
 generalize BB:(parts.toList.map fun x=>a.eval x.2).flatMap (fun v=>v.cells.toList)=vs at *
 have Xz:vs.length=n*ie.size:=by rw [←e4.1,e1,hl]
 obtain ⟨h1,h2⟩:=hI.lQ hf (cs:=cs) (vs:=vs.toArray) El (by have:=e5.1;simp;omega) (Vs.all (vs:=vs.toArray) e5)
 have Vj:n≤n*ie.size:=Nat.le_mul_of_pos_right _ h0
 have h8:cs.length=n*ie.size:=by rw [e5.1,Xz]
 have h9:vs.toArray.size=n*ie.size:=by simp [Xz]
 have qQ:=qQ (jI g q (some w.heap.size,(cs.length,vs.toArray.size))) w.heap.size (by rw [ct,h8,h9]) (by simp only [maxLen];omega)
 unfold Oper.wp
 by_cases Ml:n=0
 ·subst Ml
  have hpe:parts.toList=[]:=zZ hl
  have Xx:vs=[]:=zZ (by rw [Xz];simp)
  have hp3:parts = #[]:=by apply Array.ext';simp [hpe]
  have eX:(execOp a.eval o).run P w = .ok (.value (.slice (some ⟨w.heap.size,0,none⟩) 0 0)) (w.alloc (.cells #[] El)):=by
   simp [execOp,ho,hp3,Instr.buildSlice,run_underlying hT,sizeOf,typeInfo,hE,Instr.fill,newRow,Array.range_zero']
  rw [eX]
  subst Xx
  exact K (.slice (some ⟨w.heap.size,0,none⟩) 0 0) _ _ qQ h1 h2
 ·have XL:¬n*ie.size=0:=by
   intro h;rcases Nat.mul_eq_zero.1 h with h | h<;>omega
  have eX:(execOp a.eval o).run P w = .ok (.value (.slice (some ⟨w.heap.size,0,none⟩) n n)) (w.alloc (.cells vs.toArray El)):=by
   have:=run_buildSlice (P:=P) w T El n (parts.map fun (i,x)=>(i,a.eval x)) vs.toArray ie zv hT hE hz (by omega) XL (by rw [qS];exact RN)
   simp only [execOp,ho,Sem.run_bind,this,Result.andThen_ok,Sem.run_pure]
  rw [eX]
  exact K _ _ _ qQ h1 h2
def LK (E:Env) (T n:Nat) (ρ:Operand→A) (ps:List (Nat×Operand)) (h:H) (K:A→H→Fp→Option β):Option β:=match cB E.dR T with
 | some ⟨.slice el,_,_,_,_,_,_⟩=>match cB E.dR el with
  | some e=>bif Nat.blt 0 e.size && Nat.ble (n*e.size) 16777216 && Nat.beq ps.length n then (match D9 ρ e.size ps 0,e.t with
   | some es,some t=>match DX (fixC 64 t) t.size n es h with
    | some (nR,h1,T1)=>match si (oQ t) t.size n nR with
     | some l=>mZ (.row t l) h1 (fun q h2=>K (.tw (.loc q) e.size) h2 (.wr (dy q::T1)))
     | none=>none
    | none=>none
   | some es,none=>mZ (.cells es) h (fun q h2=>K (.sl q 0 e.size n) h2 (.wr [dy q]))
   | _,_=>none) else none
  | none=>none
 | _=>none
theorem Step.new {T1:List Nat} {h1 h2:H} {us:List Up} {x:Ob} {pv:A} (c1:hp h1=app us (hp h)) (c2:∀u∈us,aK (.wr T1) u.id=true) (hq:h1.aU<16777216) (hf:(hp h1).fr h1.aU) (hh:hp h2=app [.new h1.aU x] (hp h1)) (hd:∀c,o.op≠.defer c)
  (k:∀S2 g w a,Agree (.wr T1) (hp h) S2→(app us S2).fr h1.aU→Inv g S2 w→(∀x∈o.op.operands,V g (ρ x) (a.eval x))→sa P o S2 ((app us S2).new h1.aU x) pv g w a):Step P o ρ h h2 (.wr (dy h1.aU::T1)) pv:=
 .of (us++[.new h1.aU x]) (by rw [iC,←c1,hh]) rfl (fun u hu=>by
  rcases zX.1 hu with hu | hu
  ·exact fe (fun i hi=>.tail _ hi) (c2 u hu)
  ·rcases zF.1 hu with rfl;exact aF (o:=h1.aU) hq (.head _)) (fun S2 hA g w a next Q hI hv K'=>by
  have nQ:(app us S2).fr h1.aU:=by
   have:=Agree.app us hA
   rw [←c1] at this
   exact (this h1.aU (aF hq (.head _))).2.2 hf
  have e:=iC us [.new h1.aU x] S2
  rw [e] at K'
  exact k S2 g w a (hA.mono fun i hi=>.tail _ hi) nQ hI hv next Q K') hd
theorem Hs (hE:b0 P E) {T n:Nat} {ps:Array (Nat×Operand)} (ho:o.op = .buildSlice T n ps) (hr:LK E T n ρ ps.toList h K=some r):Out P o ρ h K r:=by
  have hd:∀c,o.op≠.defer c:=by rw [ho];intro c e;cases e
  unfold LK at hr
  split at hr
  · rename_i el _ _ _ _ _ _ ht
    split at hr
    · rename_i e he
      obtain ⟨hc,hr⟩:=aj hr
      simp only [zC] at hc
      have h0:=bf hc.1.1
      have hn:=Nat.le_of_ble_eq_true hc.1.2
      have hl:=beq_eq hc.2
      obtain ⟨i,t1,t2,t3,t4,t5,t6⟩:=(hE.dR _ _ he).ti
      split at hr
      · rename_i es t qc wL
        split at hr
        · rename_i nR h1 T1 hf
          split at hr
          · rename_i l hy
            obtain ⟨us,c1,c2,c3⟩:=yV (fun cs h ig h' T e=>oD _ _ _ _ _ _ _ e) _ _ _ _ _ _ hf
            obtain ⟨h2,k1,hq,nQ,hh⟩:=fT hr
            refine ⟨_,_,_,k1,.new c1 c2 hq nQ hh hd (fun S2 g w a hA hf hI hv=>?_)⟩
            obtain ⟨e2,e1,e3,e4⟩:=qe (z:=e.size) (a:=a) (g:=g) ps.toList 0 es (fun x hx=>hv x.2 (by
              simp only [ho,Op.operands]
              rw [List.mem_toArray]
              exact List.mem_map.2 ⟨x,hx,rfl⟩)) qc
            obtain ⟨g1,q1,q2,q3⟩:=c3 g S2 w _ hI hA e4
            obtain ⟨z1,z2,z3⟩:=nW (g:=g1) (fun cs x h=>jr t cs x h) _ _ _ hy
            refine sa.pre ?_ q2
            refine ni (g0:=g) ho (hE.dR _ _ ht).u t1 t2 t3 h0 hn qc hl q1 hv hf ?_ (fun g' b hb hx=>.tw (.loc h1.aU) e.size n b n _ hb (Nat.le_refl _) hx (Nat.le_refl _) 0 (fun _=>rfl))
            exact z3 _ q3
          · cases hr
        · cases hr
      · rename_i es qc wL
        obtain ⟨h2,k1,hq,nQ,hh⟩:=fT hr
        refine ⟨_,_,_,k1,.of _ hh rfl (fun u hu=>by rcases zF.1 hu with rfl;exact aF (o:=h.aU) hq (.head _)) (fun S2 hA g w a next Q hI hv K'=>?_) hd⟩
        obtain ⟨e2,e1,e3,e4⟩:=qe (z:=e.size) (a:=a) (g:=g) ps.toList 0 es (fun x hx=>hv x.2 (by
              simp only [ho,Op.operands]
              rw [List.mem_toArray]
              exact List.mem_map.2 ⟨x,hx,rfl⟩)) qc
        exact ni (g0:=g) ho (hE.dR _ _ ht).u t1 t2 t3 h0 hn qc hl hI hv ((hA _ (aF hq (.head _))).2.2 nQ) e4 (fun g' b hb hx=>.sl h.aU 0 e.size n b n _ hb (Nat.le_refl _) hx (by omega)) next Q K'
      · cases hr
    · cases hr
  · cases hr
end
end
section
open Go.RowKit
section
variable {P:Program} {E:Env} {o:Oper} {ρ:Operand→A} {h:H} {β:Type} {K:A→H→Fp→Option β} {r:β}
theorem V.qm {g:G} {S:Hp} {w:World} (hI:Inv g S w) {X:Ref} {t:Ty} {l:List t.T} (h0:0<t.size) (ho:S.ob X.id=some (.cells (l.flatMap (aE t)))) {v:Value} (hv:V g (.tw X t.size) v) :
  (∃ad,g.bu X.id=some (none,(0,0))∧v = .slice ad 0 0∧l=[])∨∃b s cap d,g.bu X.id=some (some b,s)∧v = .slice (some ⟨b,d,none⟩) l.length cap∧(cap≠0→d=0)∧l.length≤cap∧cap≤maxLen∧cap*t.size≤s.2:=by
 have hlen:=bj t l
 cases hv with
 | sd _ _ ad bO=>
  rcases hI.cells _ _ ho with ⟨_,k2⟩ | ⟨b,tt,k1,_⟩
  ·refine .inl ⟨ad,bO,rfl,zZ ?_⟩
   rw [k2] at hlen
   rcases Nat.eq_zero_or_pos l.length with h | h
   ·exact h
   ·have:0<l.length*t.size:=Nat.mul_pos h h0
    simp at hlen;omega
  ·rw [k1] at bO;cases bO
 | tw _ _ m b cap tt bO hn nP hp d m0=>
  rcases hI.cells _ _ ho with ⟨k1,_⟩ | ⟨b',Fw,k1,_⟩
  ·rw [k1] at bO;cases bO
  have K3:=bO
  rw [k1] at bO
  simp only [zI,zU] at bO
  obtain ⟨rfl,hl,rfl⟩:=bO
  rw [hlen] at hl
  have hm:l.length=m:=Nat.eq_of_mul_eq_mul_right h0 hl
  subst hm
  exact .inr ⟨b',_,cap,d,K3,rfl,m0,hn,nP,hp⟩
def Rh (h:H) (px:A) (k:Nat→List Nat→Option β):Option β:=match px with
 | .e0=>k 0 []
 | .v (.slice _ n _)=>k n []
 | .tl _ _ l=>k (len l) []
 | .tw X z=>jt h X (fun t l=>bif Nat.beq z t.size && Nat.blt 0 t.size then k (len l) [iM X] else none)
 | .ts _ _ _ n=>k n []
 | .tf _ _ _ n=>k n []
 | .aa _ _ n _=>k n []
 | .sl _ _ _ n=>k n []
 | _=>none
theorem V.Oy {g:G} {t:Ty} {f:Bool} {l:List t.T} {v:Value} (hv:V g (.tl t f l) v):∃ad c,v = .slice ad l.length c:=by
 cases hv with
 | tl _ _ _ _ hd=>
  generalize qc:List.map (de t) l=es at hd
  have pg:es.length=l.length:=by rw [←qc,zH]
  cases hd with
  | s7=>rw [←pg];exact ⟨_,_,rfl⟩
  | sl _ _ _ a cap vs=>rw [←pg];exact ⟨_,_,rfl⟩
theorem Gz {px:A} {k:Nat→List Nat→Option β} (hr:Rh h px k=some r):∃n T,k n T=some r∧∀S2,Agree (.rd T) (hp h) S2→∀g w v,Inv g S2 w→V g px v→∃ad c,v = .slice ad n c:=by
 cases px with
 | e0=>exact ⟨0,[],hr,fun S2 _ g w v _ hv=>by cases hv with | e0 ad=>exact ⟨ad,0,rfl⟩⟩
 | v x=>cases x with
  | slice ad n c=>exact ⟨n,[],hr,fun S2 _ g w v _ hv=>by cases hv;exact ⟨_,_,rfl⟩⟩
  | _=>cases hr
 | tl t f l=>exact ⟨len l,[],hr,fun S2 _ g w v _ hv=>hv.Oy⟩
 | tw X z=>
  obtain ⟨t,l,hr,hX,fc⟩:=eV (show jt h X _=some r from hr)
  obtain ⟨h1,hk⟩:=aj hr
  simp only [zC] at h1
  obtain rfl:=beq_eq h1.1
  exact ⟨_,_,hk,fun S2 hA g w v hI hv=>by
   rcases hv.qm hI (bf h1.2) ((hA _ (bL hX (.head _))).1.trans fc) with ⟨ad,_,rfl,rfl⟩ | ⟨b,s,cap,d,_,rfl,_⟩
   ·exact ⟨ad,0,rfl⟩
   ·exact ⟨_,cap,rfl⟩⟩
 | ts X z off n=>exact ⟨n,[],hr,fun S2 _ g w v _ hv=>by
   cases hv with
   | sf _ _ _ _ ad _ hn=>exact ⟨ad,0,by rw [show n=0 by omega]⟩
   | ts=>exact ⟨_,_,rfl⟩⟩
 | tf X z off n=>exact ⟨n,[],hr,fun S2 _ g w v _ hv=>by
   cases hv with
   | BZ _ _ _ _ ad _ hn=>exact ⟨ad,0,by rw [show n=0 by omega]⟩
   | tf=>exact ⟨_,_,rfl⟩⟩
 | aa X π n z=>exact ⟨n,[],hr,fun S2 _ g w v _ hv=>by cases hv;exact ⟨_,_,rfl⟩⟩
 | sl q off z n=>exact ⟨n,[],hr,fun S2 _ g w v _ hv=>by cases hv;exact ⟨_,_,rfl⟩⟩
 | _=>cases hr
def xk (E:Env) (T:Nat):Option Nat:=match cB E.dR T with
 | some ⟨.slice el,_,_,_,_,_,_⟩=>some el
 | _=>none
theorem oj (hE:b0 P E) {T el:Nat} (h:xk E T=some el):P.underlying T=some (.slice el):=by
 unfold xk at h
 split at h
 ·rename_i ht;cases h;exact (hE.dR _ _ ht).u
 ·cases h
def KA (E:Env) (T:Nat) (px:A) (h:H) (K:A→H→Fp→Option β):Option β:=match xk E T with
 | some _=>Rh h px (fun n T=>K (.v (.int .i64 (zN n))) h (.rd T))
 | none=>none
theorem Gy (hE:b0 P E) {T:Nat} {x:Operand} (ho:o.op = .call { callee:=.builtin .len,args:=#[x],argTypes:=#[T] }) (hr:KA E T (ρ x) h K=some r):Out P o ρ h K r:=by
 unfold KA at hr
 split at hr
 ·rename_i el he
  obtain ⟨n,T',h1,h2⟩:=Gz hr
  exact .read _ h1 (fun S2 hA=>Gb ho ⟨el,oj hE he⟩ (h2 S2 hA)) (by rw [ho];intro c e;cases e)
 ·cases hr
def xD {α:Type} (d:α) (n:Nat) (l:List α):List α:=(List.range n).map (nth d l)
theorem AX {α β:Type} (f:α→List β) (d:α) (n:Nat) (l:List α):(xD d n l).flatMap f=Ex f d n l:=by
 unfold xD Ex
 rw [List.flatMap_map]
theorem DY {α:Type} (d:α) (n:Nat) (l:List α):(xD d n l).length=n:=by simp [xD]
def wS (h:H) (t:Ty) (py:A) (k:List t.T→List Nat→Option β):Option β:=match py with
 | .e0=>k [] []
 | .v (.slice _ 0 _)=>k [] []
 | .tl t' _ l=>match fP (.aO t') (.aO t) l with
  | some l'=>bif t.data then k l' [] else none
  | none=>none
 | .nn t' l=>match fP (.aO t') (.aO t) l with
  | some l'=>bif t.data then k l' [] else none
  | none=>none
 | .os r z o=>opt o (k [] []) (fun j=>jt h (.eK r j) (fun t' l=>match fP (.aO t') (.aO t) l with
  | some l'=>bif Nat.beq z t.size && Nat.blt 0 t.size then k l' [iM (.eK r j)] else none
  | none=>none))
 | .tw X z=>jt h X (fun t' l=>match fP (.aO t') (.aO t) l with
  | some l'=>bif Nat.beq z t.size && Nat.blt 0 t.size then k l' [iM X] else none
  | none=>none)
 | .ts X z off n=>jt h X (fun t' l=>match fP (.aO t') (.aO t) l with
  | some l'=>bif Nat.beq z t.size && Nat.blt 0 t.size then k (tk n (dr off l')) [iM X] else none
  | none=>none)
 | .tf X z off n=>jt h X (fun t' l=>match fP (.aO t') (.aO t) l with
  | some l'=>bif Nat.beq z t.size && Nat.blt 0 t.size then k (tk n (dr off l')) [iM X] else none
  | none=>none)
 | .aa X π n z=>qG h X π (fun sg=>match fP sg.t (.arr n t) sg.x with
  | some l=>bif Nat.beq z t.size then k (xD t.cP n l) [iM X] else none
  | none=>none)
 | .sl q off z n=>match h.t.get q with
  | some (.cells cs)=>bif Nat.blt q 16777216 && Nat.beq z t.size && Nat.ble (off+n*z) cs.length then (match si (oQ t) t.size n ((cs.drop off).take (n*z)) with
   | some l=>k l [dy q]
   | none=>none) else none
  | _=>none
 | _=>none
theorem Given.conv {g:G} {w:World} {v:Value} {sz m:Nat} {ps qs:List A} (k:Given g w v sz m ps) (hc:∀vs,Vs g ps vs→Vs g qs vs):Given g w v sz m qs:=by
 obtain ⟨A2,l9,us,h1,h2,h3,h4⟩:=k
 exact ⟨A2,l9,us,h1,hc _ h2,h3,h4⟩
theorem V.yb {g:G} {S:Hp} {w:World} (hI:Inv g S w) {t:Ty} (hd:t.data=true) {f:Bool} {l:List t.T} {v:Value} (hv:V g (.tl t f l) v):Given g w v t.size l.length (l.flatMap (aE t)):=by
 cases hv with
 | tl _ _ _ _ hv=>
  generalize qc:List.map (de t) l=es at hv
  have pg:es.length=l.length:=by rw [←qc,zH]
  have Ff:es.flatten=l.flatMap (de t):=by rw [←qc,lb]
  cases hv with
  | s7=>
   have:l=[]:=zZ pg.symm
   subst this
   exact .zero ⟨_,_,rfl⟩
  | sl _ _ _ a cap vs hz hc hf hn hx hl hm E7=>
   rw [Ff] at E7 hl
   have BB:kO g.mem (l.flatMap (de t)) vs:=⟨hl,E7⟩
   have h1:=DW (g:=g) (f:=aE t) (f':=de t) (fun x us hu=>kO.cells t x us hd hu) (fun x=>by rw [bP,eh]) l vs BB
   rw [pg]
   refine ⟨_,cap,vs,rfl,h1,by rw [←h1.1,bj],fun h0=>?_⟩
   cases a with
   | none=>have:=hn rfl;omega
   | some p=>
    refine ⟨_,rfl,fun j x hj=>?_⟩
    obtain ⟨cur,ty,fz,q1,q2⟩:=hI.mem _ _ _ (hm p j x rfl hj)
    rw [show (Vz p).add j=⟨p.1,p.2+j,none⟩ from Addr.add_lit _ _ _,cell_of_row w p.1 _ cur ty _ q1];exact q2
theorem piece {g:G} {S:Hp} {w:World} (hI:Inv g S w) {X:Ref} {t:Ty} {l:List t.T} {off n b cap d:Nat} {s:Nat×Nat} (_h0:0<t.size) (fc:S.ob X.id=some (.cells (l.flatMap (aE t)))) (bO:g.bu X.id=some (some b,s)) (hle:off+n≤l.length) (hd:n≠0→d=off*t.size) :
  Given g w (.slice (some ⟨b,d,none⟩) n cap) t.size (tk n (dr off l)).length ((tk n (dr off l)).flatMap (aE t)):=by
 have hl:(tk n (dr off l)).length=n:=by simp [tk,dr];omega
 rw [hl]
 rcases Nat.eq_zero_or_pos n with h0 | h0
 ·subst h0
  rw [show tk 0 (dr off l)=[] from by simp [tk]]
  exact .zero ⟨_,cap,rfl⟩
 ·obtain rfl:=hd (by omega)
  have:=hI.given (off:=off*t.size) (sz:=t.size) (m:=n) (cap:=cap) fc bO (by rw [bj,←Nat.add_mul];exact zW _ hle)
  rw [iP] at this
  exact this
theorem sX {t:Ty} {py:A} {k:List t.T→List Nat→Option β} (hr:wS h t py k=some r):∃l T,k l T=some r∧∀S2,Agree (.rd T) (hp h) S2→∀g w v,Inv g S2 w→V g py v→Given g w v t.size l.length (l.flatMap (aE t)):=by
 cases py with
 | e0=>exact ⟨[],[],hr,fun S2 _ g w v _ hv=>by cases hv with | e0 ad=>exact .zero ⟨ad,0,rfl⟩⟩
 | v x=>cases x with
  | slice ad n c=>cases n with
   | zero=>exact ⟨[],[],hr,fun S2 _ g w v _ hv=>by cases hv;exact .zero ⟨_,_,rfl⟩⟩
   | succ n=>cases hr
  | _=>cases hr
 | tl t' f l=>
  unfold wS at hr
  simp only at hr
  split at hr
  ·rename_i l' hl
   obtain ⟨e,rfl⟩:=cz hl
   cases e
   obtain ⟨h1,hr⟩:=aj hr
   exact ⟨_,[],hr,fun S2 _ g w v hI hv=>hv.yb hI h1⟩
  ·cases hr
 | nn t' l=>
  unfold wS at hr
  simp only at hr
  split at hr
  ·rename_i l' hl
   obtain ⟨e,rfl⟩:=cz hl
   cases e
   obtain ⟨h1,hr⟩:=aj hr
   exact ⟨_,[],hr,fun S2 _ g w v hI hv=>by cases hv with | nn _ _ a n c h=>exact (V.tl _ false _ _ h).yb hI h1⟩
  ·cases hr
 | os q z o=>
  rcases iu (show opt o (k [] []) _=some r from hr) with ⟨e0,hr⟩ | ⟨jj,e0,hr⟩
  ·exact ⟨[],[],hr,fun S2 _ g w v _ hv=>by
    cases hv with
    | os _ _ _ _ h0 _=>cases h0 e0 with | e0 ad=>exact .zero ⟨ad,0,rfl⟩⟩
  ·obtain ⟨t',l,hr,hX,fc⟩:=eV (show jt h (.eK q jj) _=some r from hr)
   split at hr
   ·rename_i l' hl
    obtain ⟨e,rfl⟩:=cz hl
    cases e
    obtain ⟨h1,hk⟩:=aj hr
    simp only [zC] at h1
    have ez:=beq_eq h1.1
    subst ez
    refine ⟨_,_,hk,fun S2 hA g w v hI KL=>?_⟩
    have hv:V g (.tw (.eK q jj) t.size) v:=by cases KL with | os _ _ _ _ _ h1=>exact h1 jj e0
    have eg:=(hA _ (bL hX (.head _))).1.trans fc
    rcases hv.qm hI (bf h1.2) eg with ⟨ad,_,rfl,rfl⟩ | ⟨b,s,cap,d,bO,rfl,hd,hn,_⟩
    ·exact .zero ⟨ad,0,rfl⟩
    ·rcases Nat.eq_zero_or_pos l.length with h0 | h0
     ·have:l=[]:=zZ h0
      subst this
      exact .zero ⟨_,cap,rfl⟩
     ·obtain rfl:=hd (by omega)
      have:=hI.given (off:=0) (sz:=t.size) (m:=l.length) (cap:=cap) eg bO (by rw [bj];omega)
      rw [List.drop_zero,za (by rw [bj];exact Nat.le_refl _)] at this
      exact this
   ·cases hr
 | tw X z=>
  obtain ⟨t',l,hr,hX,fc⟩:=eV (show jt h X _=some r from hr)
  split at hr
  ·rename_i l' hl
   obtain ⟨e,rfl⟩:=cz hl
   cases e
   obtain ⟨h1,hk⟩:=aj hr
   simp only [zC] at h1
   obtain rfl:=beq_eq h1.1
   refine ⟨_,_,hk,fun S2 hA g w v hI hv=>?_⟩
   have eg:=(hA _ (bL hX (.head _))).1.trans fc
   rcases hv.qm hI (bf h1.2) eg with ⟨ad,_,rfl,rfl⟩ | ⟨b,s,cap,d,bO,rfl,hd,hn,_⟩
   ·exact .zero ⟨ad,0,rfl⟩
   ·rcases Nat.eq_zero_or_pos l.length with h0 | h0
    ·have:l=[]:=zZ h0
     subst this
     exact .zero ⟨_,cap,rfl⟩
    ·obtain rfl:=hd (by omega)
     have:=hI.given (off:=0) (sz:=t.size) (m:=l.length) (cap:=cap) eg bO (by rw [bj];omega)
     rw [List.drop_zero,za (by rw [bj];exact Nat.le_refl _)] at this
     exact this
  ·cases hr
 | ts X z off n=>
  obtain ⟨t',l,hr,hX,fc⟩:=eV (show jt h X _=some r from hr)
  split at hr
  ·rename_i l' hl
   obtain ⟨e,rfl⟩:=cz hl
   cases e
   obtain ⟨h1,hk⟩:=aj hr
   simp only [zC] at h1
   obtain rfl:=beq_eq h1.1
   refine ⟨_,_,hk,fun S2 hA g w v hI hv=>?_⟩
   have eg:=(hA _ (bL hX (.head _))).1.trans fc
   have hle:=se hI (bf h1.2) eg hv
   cases hv with
   | sf _ _ _ _ ad _ hn=>
    rw [show n=0 by omega,show tk 0 (dr off l)=[] by simp [tk]]
    exact .zero ⟨ad,0,rfl⟩
   | ts _ _ _ _ b cap s bO hn hx hs KP d hd=>exact piece hI (bf h1.2) eg bO hle (fun Ml=>hd (by omega))
  ·cases hr
 | tf X z off n=>
  obtain ⟨t',l,hr,hX,fc⟩:=eV (show jt h X _=some r from hr)
  split at hr
  ·rename_i l' hl
   obtain ⟨e,rfl⟩:=cz hl
   cases e
   obtain ⟨h1,hk⟩:=aj hr
   simp only [zC] at h1
   obtain rfl:=beq_eq h1.1
   refine ⟨_,_,hk,fun S2 hA g w v hI hv=>?_⟩
   have eg:=(hA _ (bL hX (.head _))).1.trans fc
   cases hv with
   | BZ _ _ _ _ ad _ hn=>
    rw [show n=0 by omega,show tk 0 (dr off l)=[] by simp [tk]]
    exact .zero ⟨ad,0,rfl⟩
   | tf _ _ _ _ b s bO hx hs d hd=>
    have hle:off+n≤l.length:=by
     rcases hI.cells _ _ eg with ⟨k1,_⟩ | ⟨b',Fw,k1,_⟩
     ·rw [k1] at bO;cases bO
     rw [k1] at bO
     simp only [zI,zU] at bO
     obtain ⟨_,rfl⟩:=bO
     simp only [bj] at hs
     exact Nat.le_of_mul_le_mul_right hs (bf h1.2)
    exact piece hI (bf h1.2) eg bO hle hd
  ·cases hr
 | aa X π n z=>
  obtain ⟨sg,hk,hX,h2⟩:=sr (show qG h X π _=some r from hr)
  split at hk
  ·rename_i l hl
   obtain ⟨st,sx⟩:=sg
   obtain ⟨e,hl⟩:=cz hl
   simp only at e hl h2
   subst e
   simp only at hl
   subst hl
   obtain ⟨h1,hk⟩:=aj hk
   refine ⟨_,_,hk,fun S2 hA g w v hI hv=>?_⟩
   obtain rfl:=beq_eq h1
   cases hv with
   | aa _ _ _ _ b cap s bO hp hn hx=>
    have ha:=hA _ (bL hX (.head _))
    obtain ⟨a,c,q1,q2⟩:=h2 g _ w _ hI ha.1 ha.2 (.tp X π b s bO hp)
    have e1:(xD (α:=t.T) t.cP n sx).flatMap (aE t)=aE (.arr n t) sx:=AX _ _ _ _
    have e3:(xD (α:=t.T) t.cP n sx).length=n:=DY _ _ _
    have e2:(aE (.arr n t) sx).length=n*t.size:=bP (.arr n t) sx
    have:=hI.given (off:=dE π) (sz:=t.size) (m:=n) (cap:=cap) q1 bO (by simp only [zY];rw [e2];omega)
    rw [←q2,List.drop_left,←e2,List.take_left,q2] at this
    exact Eq.subst (motive:=fun k=>Given g w _ t.size k _) e3.symm (Eq.subst (motive:=fun cs=>Given g w _ t.size n cs) e1.symm this)
  ·cases hk
 | sl q off z n=>
  unfold wS at hr
  simp only at hr
  split at hr
  ·rename_i cs hg
   obtain ⟨h1,hr⟩:=aj hr
   simp only [zC] at h1
   have hq:=bf h1.1.1
   obtain rfl:=beq_eq h1.1.2
   split at hr
   ·rename_i l hy
    refine ⟨_,_,hr,fun S2 hA g w v hI hv=>?_⟩
    obtain ⟨z1,z2,z3⟩:=nW (g:=g) (fun cs x h=>jr t cs x h) _ _ _ hy
    have fc:(hp h).ob q=some (.cells cs):=by rw [j_ hq];unfold fM;rw [hg];rfl
    cases hv with
    | sl _ _ _ _ b cap s bO hn hx hs=>
     rw [z2]
     exact (hI.given ((hA q (aF hq (.head _))).1.trans fc) bO (Nat.le_of_ble_eq_true h1.2)).conv z3
   ·cases hr
  ·cases hr
 | _=>cases hr
end
end
section
open Go.RowKit
section
variable {P:Program} {E:Env} {o:Oper} {ρ:Operand→A} {h:H} {β:Type} {K:A→H→Fp→Option β} {r:β}
theorem uZ (t:Ty) (n:Nat) (x:t.T):(rep n x).flatMap (aE t)=o6 n (aE t x):=by
 unfold rep o6
 induction n with
 | zero=>rfl
 | succ n ih=>rw [List.replicate_succ,List.replicate_succ,List.flatMap_cons,List.flatten_cons,ih]
def Xf (E:Env) (T:Nat) (same:Bool) (px:A) (h:H) (K:A→H→Fp→Option β):Option β:=match xk E T with
 | some el=>match cB E.dR el,px with
  | some e,.v (.int _ m)=>match e.t with
   | some t=>bif same && Nat.blt 0 e.size && Nat.ble (16777216*e.bytes) 281474976710656 then gd (bn m) (gd (bt (nN m) 16777216) (mZ (.row t (rep (nN m) t.cP)) h (fun q h'=>K (.tw (.loc q) e.size) h' (.wr [dy q])))) else none
   | none=>none
  | _,_=>none
 | none=>none
theorem Kw (hE:b0 P E) {T:Nat} {x y:Operand} {same:Bool} (ho:o.op = .makeSlice T x y) (hs:same=true→x=y) (hr:Xf E T same (ρ x) h K=some r):Out P o ρ h K r:=by
 have hd:∀c,o.op≠.defer c:=by rw [ho];intro c e;cases e
 unfold Xf at hr
 split at hr
 ·rename_i el he
  split at hr
  ·rename_i e k m ht hx
   split at hr
   ·rename_i t wL
    obtain ⟨h1,hr⟩:=aj hr
    simp only [zC] at h1
    obtain rfl:=hs h1.1.1
    obtain ⟨h2,hr⟩:=bE hr
    obtain ⟨h3,hr⟩:=bE hr
    have h3:nN m≤16777216:=h3
    obtain ⟨h',k1,hq,hf,hh⟩:=fT hr
    have hk:=hE.dR _ _ ht
    have hb:=Nat.le_of_ble_eq_true h1.2
    refine ⟨_,_,_,k1,.of _ hh rfl (fun u hu=>by rcases zF.1 hu with rfl;exact aF (o:=h.aU) hq (.head _)) (fun S2 hA=>?_) hd⟩
    have e1:gF.low (.row t (rep (nN m) t.cP)) = .cells (o6 (nN m) (aE t t.cP)):=congrArg Ob.cells (uZ t _ _)
    rw [e1]
    have nP:ρ x = .v (.int k ((nN m:Nat):Int)):=by rw [hx,nc h2]
    exact rL ho (oj hE he) hk.ti (bf h1.1.2) nP nP (Nat.le_trans (zW _ h3) hb) (by omega) ((hA _ (aF hq (.head _))).2.2 hf) (hk.tz t wL)
   ·cases hr
  ·cases hr
 ·cases hr
def Lr (h:H) (X:Ref) (k:H→Option β):Option β:=bif vE h (iM X) then none else match X with
 | .loc o=>fq h.t o none (fun t1=>k { h with t:=t1 })
 | .eK r j=>match bA h.rg r with
  | some ⟨_,.row t',c⟩=>bif Nat.blt r 64 then gd (bo j (len (α:=Option (List t'.T)) c)) (k { h with rg:=js h.rg r (.row t') (aY (α:=Option (List t'.T)) c j none) }) else none
  | _=>none
theorem qy {t:Ty} {c:List (Option (List t.T))} {j:Nat} (hj:j<c.length) (i:Nat):dT (.row t) (aY c j none) i=if i=j then none else dT (.row t) c i:=by
 show (match k_ (aY c j none) i with | some (some l)=>some (Ob.cells (l.flatMap (aE t))) | _=>none)=if i=j then none else (match k_ c i with | some (some l)=>some (Ob.cells (l.flatMap (aE t))) | _=>none)
 rw [oz]
 by_cases h:i=j
 ·subst h;rw [if_pos ⟨rfl,hj⟩,if_pos rfl]
 ·rw [if_neg (fun k=>h k.1),if_neg h]
theorem y9 {X:Ref} {k:H→Option β} (hr:Lr h X k=some r):∃h',k h'=some r∧Aw X=true∧hp h'=app [.del X.id] (hp h)∧h'.aU=h.aU:=by
 obtain ⟨_,hr⟩:=jk hr
 cases X with
 | loc o=>
  obtain ⟨hq,t1,k1,k2⟩:=bz hr
  exact ⟨_,k1,by show Nat.blt o 16777216=true;simpa using (AG hq),qU (AG hq) k2,rfl⟩
 | eK r j=>
  simp only at hr
  split at hr
  ·rename_i _ t' c hf
   obtain ⟨h3,hr⟩:=aj hr
   obtain ⟨h4,hr⟩:=bE hr
   have eY:j<List.length (α:=Option (List t'.T)) c:=h4
   refine ⟨_,hr,h3,?_,rfl⟩
   exact qT (j:=j) (u:=.del (fF r j)) (bf h3) hf (pX (α:=Option (List t'.T)) c j _) (fun i hi=>by rw [qy (c:=c) eY,if_neg hi]) rfl (by rw [qy (c:=c) eY,if_pos rfl];exact if_pos rfl) rfl
  ·cases hr
def tO:A→Bool
 | .e0=>true
 | .v (.slice _ 0 0)=>true
 | _=>false
theorem V.AA {g:G} {p:A} {v:Value} (hv:V g p v) (h:tO p=true):∃ad,v = .slice ad 0 0:=by
 unfold tO at h
 split at h
 ·cases hv with | e0 ad=>exact ⟨ad,rfl⟩
 ·cases hv;exact ⟨_,rfl⟩
 ·cases h
theorem rO {S:Hp} {T E':TypeId} {z b m n:Nat} {X:Ref} {zv:Value} {cs ps:List A} {x y:Operand} (ho:o.op = .call { callee:=.builtin .append,args:=#[x,y],argTypes:=#[T,T] }) (hT:P.underlying T=some (.slice E')) (hE:TI P E' z b zv) (h0:0<z)
  (hp:S.ob X.id=some (.cells cs)) (hx:ρ x = .ts X z 0 n) (pT:(n+m)*z≤cs.length) (hy:∀g w v,Inv g S w→V g (ρ y) v→Given g w v z m ps):fb P o ρ S (S.set X.id (.cells (put cs (n*z) ps))) (.ts X z 0 (n+m)):=
 .app ho fun g w a hI e1 e2=>by
  obtain ⟨i,t1,t2,t3,t4,t5,t6⟩:=hE
  subst t3 t4
  have GY:eP P E' i.size:=⟨i,t1,rfl⟩
  obtain ⟨A2,l9,us,vI,pb,oq,AP⟩:=hy g w _ hI e2
  rw [hx] at e1
  generalize hu:a.eval x=vx at e1 ⊢
  cases e1 with
  | sf _ _ _ _ ad hg hn=>
   rcases hI.cells X.id cs hp with ⟨_,k2⟩ | ⟨b',t,k1,_⟩
   ·subst k2
    have hn:n=0:=by omega
    subst hn
    have hm:m=0:=by
     rcases Nat.eq_zero_or_pos m with h | h
     ·exact h
     ·have:0<(0+m)*i.size:=Nat.mul_pos (by omega) h0
      simp only [List.length_nil] at pT;omega
    subst hm
    have rR:ps=[]:=zZ (by rw [pb.1,oq];simp)
    subst rR
    have hS:S.set X.id (.cells (put [] (0*i.size) []))=S:=by
     refine Hp.ext' (fun j=>?_) (fun j=>Iff.rfl)
     show (if j=X.id then some (.cells (put [] (0*i.size) [])) else S.ob j)=S.ob j
     by_cases hj:j=X.id
     ·subst hj;rw [if_pos rfl,hp];simp [put]
     ·rw [if_neg hj]
    rw [hS,vI]
    exact ⟨_,g,w,gV w T E' o.type hT GY _ A2 0 0 l9 (Nat.le_refl _),.sf X i.size 0 (0+0) ad hg (by simp),hI,.refl S g w⟩
   ·rw [k1] at hg;cases hg
  | ts _ _ _ _ bk cap s hg Vi Mp hs KP d hd hq=>
   rw [vI]
   rw [Nat.zero_add] at KP hq
   have rR:ps.length=m*i.size:=by rw [pb.1,oq]
   have hlen:(put cs (n*i.size) ps).length=cs.length:=tg (by rw [rR,←Nat.add_mul];exact pT)
   rcases hI.cells X.id cs hp with ⟨k1,_⟩ | ⟨b',t,k1,cur,ty,k2,oR,k3⟩
   ·rw [k1] at hg;cases hg
   have Mo:=hg
   rw [k1] at hg;simp at hg
   obtain ⟨rfl,rfl⟩:=hg
   simp only at hq KP hs
   have pJ:n+m≤cap:=Nat.le_of_mul_le_mul_right (Nat.le_trans pT hq) h0
   have ng:(0+(n+m))*i.size≤(cs.length,t).1:=by rw [Nat.zero_add];exact pT
   have qQ:∀g',g'.bu X.id=some (some b',(cs.length,t))→V g' (.ts X i.size 0 (n+m)) (.slice (some ⟨b',d,none⟩) (n+m) cap):=fun g' bO=>.ts X i.size 0 (n+m) b' cap _ bO pJ Mp ng (by rw [Nat.zero_add];exact KP) d hd (by rw [Nat.zero_add];exact hq)
   rcases Nat.eq_zero_or_pos m with rfl | hm
   ·have rR:ps=[]:=zZ (by rw [rR];simp)
    subst rR
    have AN:put cs (n*i.size) []=cs:=by simp [put]
    have hS:S.set X.id (.cells (put cs (n*i.size) []))=S:=by
     rw [AN]
     refine Hp.ext' (fun j=>?_) (fun j=>Iff.rfl)
     show (if j=X.id then some (.cells cs) else S.ob j)=S.ob j
     by_cases hj:j=X.id
     ·subst hj;rw [if_pos rfl,hp]
     ·rw [if_neg hj]
    rw [hS]
    exact ⟨_,g,w,gV w T E' o.type hT GY _ A2 n cap l9 Vi,qQ g Mo,hI,.refl S g w⟩
   ·obtain ⟨Fk,rfl,ml⟩:=AP hm
    obtain rfl:=hd (by omega)
    have Mk:(n+m)*i.size≤cs.length:=pT
    rw [Nat.add_mul] at Mk
    obtain ⟨agn,ty',c1,c2,c3,c4⟩:=hI.store (off:=n*i.size) hp Mo pb (by rw [rR];exact Mk)
    rw [k2] at c1
    simp only [zI,Obj.cells.injEq,and_true] at c1
    obtain ⟨rfl,rfl⟩:=c1
    have eX:=kT (P:=P) w T o.type E' ty i hT t1 b' n cap cur k2 Fk m l9 us oq ml pb.one pJ c2
    rw [Nat.zero_mul]
    exact ⟨_,g,_,eX,by have:=qQ g Mo;rwa [Nat.zero_mul] at this,c3,c4⟩
def LQ (E:Env) (T:Nat) (px py:A) (h:H) (K:A→H→Fp→Option β):Option β:=match xk E T with
 | some el=>match cB E.dR el with
  | some e=>match e.t with
   | some t=>bif Nat.blt 0 e.size && Nat.ble (16777216*e.bytes) 140737488355328 then wS h t py (fun l T1=>
    bif tO px then gd (bt (len l) 16777216) (mZ (.row t l) h (fun q h'=>K (.tw (.loc q) e.size) h' (.pt (dy q) T1)))
    else match px with
    | .tw X z=>jt h X (fun t' l0=>match fP (.aO t') (.aO t) l0 with
     | some l0=>bif Nat.beq z e.size then gd (bt (aN (len (α:=t.T) l0) (len l)) 16777216) (Lr h X (fun h1=>mZ (.row t (cat (α:=t.T) l0 l)) h1 (fun q h2=>K (.tw (.loc q) e.size) h2 (.p2 (dy q) (iM X) T1)))) else none
     | none=>none)
    | .ts X z 0 n=>jt h X (fun t' l0=>match fP (.aO t') (.aO t) l0 with
     | some l0=>bif Nat.beq z e.size then (match py with
      | .ts _ _ _ _=>gd (bt (aN n (len l)) (len (α:=t.T) l0)) (qF h X t (cat (tk (α:=t.T) n l0) (cat l (dr (α:=t.T) (aN n (len l)) l0))) (fun h1=>K (.ts X z 0 (aN n (len l))) h1 (.wr (iM X::T1))))
      | _=>gd (bt (aN n (len l)) 16777216) (Lr h X (fun h1=>mZ (.row t (cat (tk (α:=t.T) n l0) l)) h1 (fun q h2=>K (.tw (.loc q) e.size) h2 (.p2 (dy q) (iM X) T1))))) else none
     | none=>none)
    | .tf X z off n=>br (ah (zN n) 0) (gd (bt (len l) 16777216) (mZ (.row t l) h (fun q h'=>K (.tw (.loc q) e.size) h' (.pt (dy q) T1)))) (jt h X (fun t' l0=>match fP (.aO t') (.aO t) l0 with
     | some l0=>bif Nat.beq z e.size then gd (bo 0 (len l)) (gd (bt (aN n (len l)) 16777216) (mZ (.row t (cat (tk n (dr (α:=t.T) off l0)) l)) h (fun q h2=>K (.tw (.loc q) e.size) h2 (.p2 (dy q) (iM X) T1)))) else none
     | none=>none))
    | _=>none) else none
   | none=>none
  | none=>none
 | none=>none
theorem jd (t:Ty) (a b:List t.T):(cat a b).flatMap (aE t)=a.flatMap (aE t)++b.flatMap (aE t):=List.flatMap_append
theorem uc (t:Ty) (n:Nat) (l:List t.T):(tk n l).flatMap (aE t)=(l.flatMap (aE t)).take (n*t.size):=by
 have:=iP t l 0 n
 simpa [tk] using this.symm
theorem ud (t:Ty) (n:Nat) (l:List t.T):(dr n l).flatMap (aE t)=(l.flatMap (aE t)).drop (n*t.size):=by
 have:=iP t l n l.length
 rw [za (by rw [List.length_drop,bj];omega),za (by simp)] at this
 exact this.symm
theorem Jk {t:Ty} {X:Ref} {l:List t.T} {h1 h2:H} {T1:List Nat} {pv:A} (hd:∀c,o.op≠.defer c) (hX:Aw X=true) (e1:hp h1=app [.del X.id] (hp h)) (hn:h1.aU=h.aU) (hq:h1.aU<16777216) (hf:(hp h1).fr h1.aU) (e2:hp h2=app [.new h1.aU (gF.row t l).low] (hp h1))
  (k:∀S2,Agree (.p2 (dy h1.aU) (iM X) T1) (hp h) S2→S2.fr h1.aU→fb P o ρ S2 ((S2.del X.id).new h1.aU (.cells (l.flatMap (aE t)))) pv):Step P o ρ h h2 (.p2 (dy h1.aU) (iM X) T1) pv:=
 .UR [.del X.id,.new h1.aU (.cells (l.flatMap (aE t)))] (by rw [e2,e1];rfl) (fun u hu=>by
  rcases List.mem_cons.1 hu with rfl | hu
  ·exact bL hX (.tail _ (.head _))
  ·rcases zF.1 hu with rfl;exact aF (o:=h1.aU) hq (.head _)) (fun u hu=>by
  show aK (.wr [dy h1.aU,iM X]) u.id=true
  rcases List.mem_cons.1 hu with rfl | hu
  ·exact bL hX (.tail _ (.head _))
  ·rcases zF.1 hu with rfl;exact aF (o:=h1.aU) hq (.head _)) (fun S2 hA=>k S2 hA ((hA _ (aF hq (.head _))).2.2 (by rw [e1] at hf;exact hf))) hd
theorem Hy (hE:b0 P E) {T:Nat} {x y:Operand} (ho:o.op = .call { callee:=.builtin .append,args:=#[x,y],argTypes:=#[T,T] }) (hr:LQ E T (ρ x) (ρ y) h K=some r):Out P o ρ h K r:=by
 have hd:∀c,o.op≠.defer c:=by rw [ho];intro c e;cases e
 unfold LQ at hr
 split at hr
 ·rename_i el he
  have hT:=oj hE he
  split at hr
  ·rename_i e ht
   have hk:=hE.dR _ _ ht
   split at hr
   ·rename_i t wL
    have ng:=hk.ts t wL
    obtain ⟨hb,hr⟩:=aj hr
    simp only [zC] at hb
    have h0:=bf hb.1
    have hb:=Nat.le_of_ble_eq_true hb.2
    have Fi:∀{n:Nat},n≤16777216→n*e.bytes≤140737488355328∧n≤maxLen:=fun hn=>⟨Nat.le_trans (zW _ hn) hb,by unfold maxLen;omega⟩
    obtain ⟨l,T1,hr,tS⟩:=sX hr
    rw [ng] at tS
    cases rS:tO (ρ x) with
    | true=>
     rw [rS] at hr;simp only [cond_true] at hr
     obtain ⟨h2,hr⟩:=bE hr
     have h2:l.length≤16777216:=h2
     obtain ⟨h',k1,hq,hf,hh⟩:=fT hr
     exact ⟨_,_,_,k1,.UR _ hh (fun u hu=>by rcases zF.1 hu with rfl;exact aF (o:=h.aU) hq (.head _)) (fun u hu=>by rcases zF.1 hu with rfl;exact aF (l:=[dy h.aU]) (w:=false) (s:=[]) (o:=h.aU) hq (.head _))
      (fun S2 hA=>mg ho hT hk.ti (fun g v hv=>hv.AA rS) (tS S2 (hA.mono fun i hi=>.tail _ hi)) ((hA _ (aF hq (.head _))).2.2 hf) (Fi h2).1 (Fi h2).2) hd⟩
    | false=>
     rw [rS] at hr;simp only [cond_false] at hr
     split at hr
     ·rename_i X z hx
      obtain ⟨t',l0,hr,hX,fc⟩:=eV hr
      split at hr
      ·rename_i UU hl
       obtain ⟨e',rfl⟩:=cz hl
       cases e'
       obtain ⟨hz,hr⟩:=aj hr
       have hz:=beq_eq hz
       obtain ⟨h2,hr⟩:=bE hr
       have h2:l0.length+l.length≤16777216:=h2
       obtain ⟨h1,hr,_,e1,hn⟩:=y9 hr
       obtain ⟨h',k1,hq,hf,hh⟩:=fT hr
       refine ⟨_,_,_,k1,Jk hd hX e1 hn hq hf hh (fun S2 hA nQ=>?_)⟩
       have eg:=(hA _ (bL hX (.tail _ (.head _)))).1.trans fc
       have:=qM (P:=P) (n:=l0.length) (m:=l.length) (z:=e.size) ho hT hk.ti h0 eg (fun g w v hI hv=>by
        rw [hx,hz,←ng] at hv
        rcases hv.qm hI (by rw [ng];exact h0) eg with ⟨ad,_,rfl,rfl⟩ | ⟨b,s,cap,d,bO,rfl,k2,k3,k4,k5⟩
        ·exact .inl ⟨ad,rfl,rfl⟩
        ·exact .inr ⟨b,s,cap,d,bO,rfl,k2,k3,k4,by rw [←ng];exact k5⟩) (by rw [bj,ng];exact Nat.le_refl _) (tS S2 (hA.mono fun i hi=>.tail _ (.tail _ hi))) nQ (Fi h2).1 (Fi h2).2
       rw [za (by rw [bj,ng];exact Nat.le_refl _),←jd] at this
       exact this
      ·cases hr
     ·rename_i X z n hx
      obtain ⟨t',l0,hr,hX,fc⟩:=eV hr
      split at hr
      ·rename_i UU hl
       obtain ⟨e',rfl⟩:=cz hl
       cases e'
       obtain ⟨hz,hr⟩:=aj hr
       have hz:=beq_eq hz
       split at hr
       ·obtain ⟨h2,hr⟩:=bE hr
        have h2:n+l.length≤l0.length:=h2
        obtain ⟨h1,k1,k2⟩:=mL hX hr
        refine ⟨_,_,_,k1,⟨fun i hi=>k2.1 i (oX (fun j hj=>by rcases zF.1 hj with rfl;exact .head _) hi),fun i hi=>k2.1 i (oX (T:=iM X::T1) (fun j hj=>by rcases zF.1 hj with rfl;exact .head _) (sc hi)),fun S2 hA=>?_⟩⟩
        refine fb.Jg (fb.bu fun g w a hI hv=>?_) hd
        have hv:=hv x (by simp [ho,Op.operands,Call.operands])
        have eg:=(hA _ (bL hX (.head _))).1.trans fc
        have RD:¬(hp h).fr X.id:=fun hf=>by
         have DF:=(hA _ (bL hX (.head _))).2.2 hf
         have:=hI.fresh _ DF
         rw [hx] at hv
         generalize a.eval x=vx at hv
         cases hv with
         | sf _ _ _ _ ad bO=>rw [bO] at this;cases this
         | ts _ _ _ _ b cap s bO=>rw [bO] at this;cases this
        have e1:=k2.2 RD
        have Vq:aK (.wr (iM X::T1)) X.id=true:=bL hX (.head _)
        rw [e1,ir (fun u hu=>by rcases zF.1 hu with rfl;exact Vq) hA]
        have:=rO (P:=P) (n:=n) (m:=l.length) (X:=X) ho hT hk.ti h0 eg (by rw [hx,hz]) (by rw [bj,ng];exact zW _ h2) (tS S2 (hA.mono fun i hi=>.tail _ hi))
        have e2:put (l0.flatMap (aE t)) (n*e.size) (l.flatMap (aE t))=(cat (tk n l0) (cat l (dr (aN n (len l)) l0))).flatMap (aE t):=by
         rw [jd,jd,uc,ud,ng]
         unfold put
         rw [bj,ng,←Nat.add_mul];rfl
        rw [e2] at this
        rw [hz]
        exact this
       ·obtain ⟨h2,hr⟩:=bE hr
        have h2:n+l.length≤16777216:=h2
        obtain ⟨h1,hr,_,e1,hn⟩:=y9 hr
        obtain ⟨h',k1,hq,hf,hh⟩:=fT hr
        refine ⟨_,_,_,k1,Jk hd hX e1 hn hq hf hh (fun S2 hA nQ=>fb.bu fun g0 w0 a0 RW KL=>?_)⟩
        have eg:=(hA _ (bL hX (.tail _ (.head _)))).1.trans fc
        have hle:n≤l0.length:=by
         have hv:=KL x (by simp [ho,Op.operands,Call.operands])
         rw [hx,hz,←ng] at hv
         have:=se RW (by rw [ng];exact h0) eg hv
         omega
        have:=qM (P:=P) (n:=n) (m:=l.length) (z:=e.size) ho hT hk.ti h0 eg (fun g w v hI hv=>by
         rw [hx,hz] at hv
         cases hv with
         | sf _ _ _ _ ad _ hn=>exact .inl ⟨ad,rfl,by omega⟩
         | ts _ _ _ _ b cap s bO k2 k3 k4 k5 d k6=>
          rw [Nat.zero_add] at k5
          exact .inr ⟨b,s,cap,d,bO,rfl,fun hc=>by rw [k6 hc,Nat.zero_mul],k2,k3,k5⟩) (by rw [bj,ng];exact zW _ hle) (tS S2 (hA.mono fun i hi=>.tail _ (.tail _ hi))) nQ (Fi h2).1 (Fi h2).2
        rw [←ng,←uc,←jd] at this
        rw [←ng]
        exact this
      ·cases hr
     ·rename_i X z off n hx
      rcases pn hr with ⟨Ml,hr⟩ | ⟨_,hr⟩
      ·obtain ⟨h2,hr⟩:=bE hr
       have h2:l.length≤16777216:=h2
       have Ml:n=0:=by have:=of_decide_eq_true Ml;unfold zN at this;omega
       obtain ⟨h',k1,hq,hf,hh⟩:=fT hr
       exact ⟨_,_,_,k1,.UR _ hh (fun u hu=>by rcases zF.1 hu with rfl;exact aF (o:=h.aU) hq (.head _)) (fun u hu=>by rcases zF.1 hu with rfl;exact aF (l:=[dy h.aU]) (w:=false) (s:=[]) (o:=h.aU) hq (.head _))
        (fun S2 hA=>mg ho hT hk.ti (fun g v hv=>by rw [hx,Ml] at hv;cases hv<;>exact ⟨_,rfl⟩) (tS S2 (hA.mono fun i hi=>.tail _ hi)) ((hA _ (aF hq (.head _))).2.2 hf) (Fi h2).1 (Fi h2).2) hd⟩
      obtain ⟨t',l0,hr,hX,fc⟩:=eV hr
      split at hr
      ·rename_i UU hl
       obtain ⟨e',rfl⟩:=cz hl
       cases e'
       obtain ⟨hz,hr⟩:=aj hr
       have hz:=beq_eq hz
       obtain ⟨h3,hr⟩:=bE hr
       have h3:0<l.length:=h3
       obtain ⟨h2,hr⟩:=bE hr
       have h2:n+l.length≤16777216:=h2
       obtain ⟨h',k1,hq,hf,hh⟩:=fT hr
       refine ⟨_,_,_,k1,.UR _ hh (fun u hu=>by rcases zF.1 hu with rfl;exact aF (o:=h.aU) hq (.head _)) (fun u hu=>by rcases zF.1 hu with rfl;exact aF (l:=[dy h.aU,iM X]) (w:=false) (s:=[]) (o:=h.aU) hq (.head _)) (fun S2 hA=>fb.bu fun g0 w0 a0 RW KL=>?_) hd⟩
       have eg:=(hA _ (bL hX (.tail _ (.head _)))).1.trans fc
       have hle:off+n≤l0.length:=by
        have hv:=KL x (by simp [ho,Op.operands,Call.operands])
        rw [hx,hz,←ng] at hv
        generalize a0.eval x=vx at hv
        cases hv with
        | BZ _ _ _ _ _ _ hn=>omega
        | tf _ _ _ _ b s bO _ hs=>
         rcases RW.cells _ _ eg with ⟨k1,_⟩ | ⟨b',Fw,k1,_⟩
         ·rw [k1] at bO;cases bO
         rw [k1] at bO
         simp only [zI,zU] at bO
         obtain ⟨_,rfl⟩:=bO
         simp only [bj] at hs
         exact Nat.le_of_mul_le_mul_right hs (by rw [ng];exact h0)
       have:=pS (P:=P) (off:=off*e.size) (n:=n) (m:=l.length) (z:=e.size) ho hT hk.ti h0 (fun g w v hI hv=>by
        rw [hx,hz] at hv
        cases hv with
        | BZ _ _ _ _ ad _ hn=>exact .inl ⟨ad,rfl,by omega⟩
        | tf _ _ _ _ b s bO _ _ d k6=>exact .inr ⟨b,s,d,bO,rfl,k6⟩) eg (by rw [bj,ng,←Nat.add_mul];exact zW _ hle) (tS S2 (hA.mono fun i hi=>.tail _ (.tail _ hi))) h3 ((hA _ (aF hq (.head _))).2.2 hf) (Fi h2).1 (Fi h2).2
       rw [←ng,iP,←jd] at this
       rw [←ng]
       exact this
      ·cases hr
     ·cases hr
   ·cases hr
  ·cases hr
 ·cases hr
end
end
section
open Go.RowKit
theorem mR {α β:Type} {f:α→List β} {s:Nat} (hf:∀x,(f x).length=s) (l:List α):(l.flatMap f).length=l.length*s:=by
 induction l with
 | nil=>simp
 | cons a l ih=>rw [List.flatMap_cons,zY,ih,hf,zR,Nat.succ_mul,Nat.add_comm]
theorem xz {α β:Type} {f:α→List β} {s:Nat} (hf:∀x,(f x).length=s) (l:List α) (off n:Nat):((l.flatMap f).drop (off*s)).take (n*s)=((l.drop off).take n).flatMap f:=by
 have h1:l.flatMap f=(l.take off).flatMap f++(l.drop off).flatMap f:=by rw [←List.flatMap_append,zP]
 by_cases hl:off≤l.length
 ·have h2:((l.take off).flatMap f).length=off*s:=by rw [mR hf,List.length_take,Nat.min_eq_left hl]
  rw [h1,List.drop_append,List.drop_eq_nil_of_le (by omega),List.nil_append,h2,Nat.sub_self,List.drop_zero]
  generalize l.drop off=k
  have h3:k.flatMap f=(k.take n).flatMap f++(k.drop n).flatMap f:=by rw [←List.flatMap_append,zP]
  by_cases hk:n≤k.length
  ·have h4:((k.take n).flatMap f).length=n*s:=by rw [mR hf,List.length_take,Nat.min_eq_left hk]
   rw [h3,List.take_append_of_le_length (by omega),za (by omega)]
  ·rw [za (by rw [mR hf];exact zW _ (by omega)),za (l:=k) (by omega)]
 ·rw [List.drop_eq_nil_of_le (as:=l) (by omega),List.drop_eq_nil_of_le (by rw [mR hf];exact zW _ (by omega))]
  simp
def pV (ad:Option Addr) (z lo hi c:Nat):Value:=.slice (if c=lo then ad else ad.map (·.add (lo*z))) (hi-lo) (c-lo)
theorem V.wQ {g:G} {t:Ty} {f f':Bool} {l:List t.T} {lo hi:Nat} {v:Value} (hv:V g (.tl t f l) v) (h1:lo≤hi) (h2:hi≤l.length) :
  ∃ad cap,v = .slice ad l.length cap∧l.length≤cap∧(f=true→cap=l.length)∧∀c,hi≤c→c≤cap→(f'=true→c=hi)→V g (.tl t f' (tk (hi-lo) (dr lo l))) (pV ad t.size lo hi c):=by
 cases hv with
 | tl _ _ _ _ hd=>
  generalize qc:List.map (de t) l=es at hd
  have pg:es.length=l.length:=by rw [←qc,zH]
  have Ff:es.flatten=l.flatMap (de t):=by rw [←qc,lb]
  cases hd with
  | s7=>
   have:l=[]:=zZ pg.symm
   subst this
   refine ⟨_,0,rfl,Nat.le_refl _,fun _=>rfl,fun c k1 k2 k3=>?_⟩
   have hc:c=0:=by omega
   have hl:lo=0:=by simp at h2;omega
   have hh:hi=0:=by simpa using h2
   subst hc hl hh
   exact .tl t f' _ _ (by rw [show tk (0-0) (dr 0 ([]:List t.T))=[] by simp [tk]];exact .s7 _ _ _)
  | sl _ _ _ a cap vs hz hc hf hn hx hl hm E7=>
   rw [pg] at hc hf
   rw [pg]
   refine ⟨_,cap,rfl,hc,hf,fun c k1 k2 k3=>?_⟩
   unfold pV
   by_cases pT:c=lo
   ·have e1:hi-lo=0:=by omega
    rw [if_pos pT,e1,show c-lo=0 by omega]
    exact .tl t f' _ _ (by rw [show tk 0 (dr lo l)=[] by simp [tk]];exact .s7 _ _ _)
   ·rw [if_neg pT]
    cases a with
    | none=>have:=hn rfl;omega
    | some p=>
     have hlen:(tk (hi-lo) (dr lo l)).length=hi-lo:=by simp [tk,dr];omega
     have Du:=xz (f:=de t) (fun x=>eh t x) l lo (hi-lo)
     rw [Ff] at hl E7
     have e2:((tk (hi-lo) (dr lo l)).map (de t)).flatten=((l.flatMap (de t)).drop (lo*t.size)).take ((hi-lo)*t.size):=by rw [lb,Du];rfl
     have:=VD.sl (M:=g.mem) t.size f' ((tk (hi-lo) (dr lo l)).map (de t)) (some (p.1,p.2+lo*t.size)) (c-lo) ((vs.drop (lo*t.size)).take ((hi-lo)*t.size))
      (fun e he=>by obtain ⟨x,_,rfl⟩:=List.mem_map.1 he;exact eh t x) (by rw [zH,hlen];omega) (fun h=>by rw [zH,hlen,k3 h]) (fun h=>by cases h) (by omega)
      (by rw [e2];simp only [List.length_take,List.length_drop,hl])
      (fun q j x hq hj=>by
       cases hq
       rw [List.getElem?_take] at hj
       split at hj
       ·rw [List.getElem?_drop] at hj
        have:=hm p _ x rfl hj
        rw [←Nat.add_assoc] at this;exact this
       ·cases hj)
      (fun j d x hj GS=>by
       rw [e2] at hj
       rw [List.getElem?_take] at hj GS
       split at hj
       ·rename_i eY
        rw [if_pos eY] at GS
        rw [List.getElem?_drop] at hj GS
        exact E7 _ d x hj GS
       ·cases hj)
     rw [zH,hlen] at this
     have e3:Option.map (fun x:Addr=>x.add (lo*t.size)) (Option.map Vz (some p))=Option.map Vz (some (p.1,p.2+lo*t.size)):=congrArg some (Addr.add_lit _ _ _)
     rw [e3]
     exact .tl t f' _ _ this
section
variable {P:Program} {E:Env} {o:Oper} {ρ:Operand→A} {h:H} {β:Type} {K:A→H→Fp→Option β} {r:β}
def Bj (ox:Option A) (d:Nat) (k:Nat→Option β):Option β:=match ox with
 | none=>k d
 | some (.v (.int _ m))=>gd (bn m) (k (nN m))
 | _=>none
theorem kg {x:Option Operand} {d:Nat} {k:Nat→Option β} (hr:Bj (x.map ρ) d k=some r):∃n,k n=some r∧Bd ρ d x n:=by
 unfold Bj at hr
 split at hr
 ·rename_i hx
  cases x with
  | none=>exact ⟨d,hr,rfl⟩
  | some y=>cases hx
 ·rename_i kd m hx
  cases x with
  | none=>cases hx
  | some y=>
   obtain ⟨h1,h2⟩:=bE hr
   refine ⟨_,h2,kd,?_⟩
   rw [nc h1]
   exact Option.some.inj hx
 ·cases hr
theorem V.IC {g:G} {S:Hp} {w:World} (hI:Inv g S w) {X:Ref} {t:Ty} {l:List t.T} (h0:0<t.size) (ho:S.ob X.id=some (.cells (l.flatMap (aE t)))) {v:Value} (hv:V g (.tw X t.size) v) {lo hi:Nat} (h1:lo≤hi) (h2:hi≤l.length) :
  ∃ad cap,v = .slice ad l.length cap∧l.length≤cap∧V g (.ts X t.size lo (hi-lo)) (pV ad t.size lo hi cap)∧V g (.tf X t.size lo (hi-lo)) (pV ad t.size lo hi hi):=by
 have hlen:=bj t l
 rcases hv.qm hI h0 ho with ⟨ad,bO,rfl,rfl⟩ | ⟨b,s,cap,d,bO,rfl,k2,k3,k4,k5⟩
 ·have hh:hi=0:=by simpa using h2
  have hl:lo=0:=by omega
  subst hh hl
  exact ⟨ad,0,rfl,Nat.le_refl _,.sf X t.size 0 _ ad bO rfl,.BZ X t.size 0 _ ad bO rfl⟩
 ·have hs:s.1=l.length*t.size:=by
   rcases hI.cells _ _ ho with ⟨k1,_⟩ | ⟨b',Fw,k1,_⟩
   ·rw [k1] at bO;cases bO
   rw [k1] at bO
   simp only [zI,zU] at bO
   obtain ⟨_,rfl⟩:=bO
   exact hlen
  have kI:(lo+(hi-lo))*t.size≤s.1:=by rw [hs];exact zW _ (by omega)
  refine ⟨_,cap,rfl,k3,?_,?_⟩
  ·unfold pV
   by_cases hc:cap=lo
   ·rw [if_pos hc]
    refine .ts X t.size lo (hi-lo) b (cap-lo) s bO (by omega) (by omega) kI ?_ d (fun h=>by omega) ?_
    ·rw [show lo+(cap-lo)=cap by omega];exact k5
    ·rw [show lo+(cap-lo)=cap by omega,hs];exact zW _ k3
   ·rw [if_neg hc,Option.map_some,Addr.add_lit]
    have hd:=k2 (by omega)
    refine .ts X t.size lo (hi-lo) b (cap-lo) s bO (by omega) (by omega) kI ?_ _ (fun _=>by omega) ?_
    ·rw [show lo+(cap-lo)=cap by omega];exact k5
    ·rw [show lo+(cap-lo)=cap by omega,hs];exact zW _ k3
  ·unfold pV
   by_cases hc:hi=lo
   ·rw [if_pos hc]
    exact .tf X t.size lo (hi-lo) b s bO (by omega) kI d (fun h=>by omega)
   ·rw [if_neg hc,Option.map_some,Addr.add_lit]
    have hd:=k2 (by omega)
    exact .tf X t.size lo (hi-lo) b s bO (by omega) kI _ (fun _=>by omega)
theorem V.Ox {g:G} {S:Hp} {w:World} (hI:Inv g S w) {X:Ref} {t:Ty} {l:List t.T} (h0:0<t.size) (ho:S.ob X.id=some (.cells (l.flatMap (aE t)))) {off n:Nat} {v:Value} (hv:V g (.ts X t.size off n) v) {lo hi:Nat} (h1:lo≤hi) (h2:off+hi≤l.length) :
  ∃ad cap,v = .slice ad n cap∧hi≤cap∧V g (.ts X t.size (off+lo) (hi-lo)) (pV ad t.size lo hi cap)∧V g (.tf X t.size (off+lo) (hi-lo)) (pV ad t.size lo hi hi):=by
 have hlen:=bj t l
 cases hv with
 | sf _ _ _ _ ad bO hn=>
  rcases hI.cells _ _ ho with ⟨_,k2⟩ | ⟨b',Fw,k1,_⟩
  ·rw [k2] at hlen
   have hl:l.length=0:=by
    rcases Nat.eq_zero_or_pos l.length with h | h
    ·exact h
    ·have:0<l.length*t.size:=Nat.mul_pos h h0
     simp at hlen;omega
   have hh:hi=0:=by omega
   have hl:lo=0:=by omega
   have hof:off=0:=by omega
   have Rz:n=0:=by omega
   subst hh hl hof Rz
   exact ⟨ad,0,rfl,Nat.le_refl _,.sf X t.size _ _ ad bO rfl,.BZ X t.size _ _ ad bO rfl⟩
  ·rw [k1] at bO;cases bO
 | ts _ _ _ _ b cap s bO hn hx hs hp d hd hq=>
  have KN:s.1=l.length*t.size:=by
   rcases hI.cells _ _ ho with ⟨k1,_⟩ | ⟨b',Fw,k1,_⟩
   ·rw [k1] at bO;cases bO
   rw [k1] at bO
   simp only [zI,zU] at bO
   obtain ⟨_,rfl⟩:=bO
   exact hlen
  have afH:l.length≤off+cap:=by rw [KN] at hq;exact Nat.le_of_mul_le_mul_right hq h0
  have kI:(off+lo+(hi-lo))*t.size≤s.1:=by rw [KN];exact zW _ (by omega)
  refine ⟨_,cap,rfl,by omega,?_,?_⟩
  ·unfold pV
   by_cases hc:cap=lo
   ·rw [if_pos hc]
    refine .ts X t.size (off+lo) (hi-lo) b (cap-lo) s bO (by omega) (by omega) kI ?_ d (fun h=>by omega) ?_
    ·rw [show off+lo+(cap-lo)=off+cap by omega];exact hp
    ·rw [show off+lo+(cap-lo)=off+cap by omega];exact hq
   ·rw [if_neg hc,Option.map_some,Addr.add_lit]
    have hd:=hd (by omega)
    refine .ts X t.size (off+lo) (hi-lo) b (cap-lo) s bO (by omega) (by omega) kI ?_ _ (fun _=>by rw [hd,Nat.add_mul]) ?_
    ·rw [show off+lo+(cap-lo)=off+cap by omega];exact hp
    ·rw [show off+lo+(cap-lo)=off+cap by omega];exact hq
  ·unfold pV
   by_cases hc:hi=lo
   ·rw [if_pos hc]
    exact .tf X t.size (off+lo) (hi-lo) b s bO (by omega) kI d (fun h=>by omega)
   ·rw [if_neg hc,Option.map_some,Addr.add_lit]
    have hd:=hd (by omega)
    exact .tf X t.size (off+lo) (hi-lo) b s bO (by omega) kI _ (fun _=>by rw [hd,Nat.add_mul])
def B4 (E:Env) (T:Nat) (px:A) (lo hi mx:Option A) (same:Bool) (h:H) (K:A→H→Fp→Option β):Option β:=match cB E.dR T with
 | some ⟨.slice el,_,_,_,_,_,_⟩=>match cB E.dR el with
  | some e=>match px with
   | .e0=>Bj lo 0 (fun l=>Bj hi 0 (fun n=>gd (bt l n) (gd (bt n 0) (match mx with
    | none=>K .e0 h (.rd [])
    | some _=>bif same && hi.isSome then K .e0 h (.rd []) else none))))
   | .tl t f x=>bif Nat.beq e.size t.size then Bj lo 0 (fun l=>Bj hi (len x) (fun n=>gd (bt l n) (gd (bt n (len x)) (match mx with
    | none=>K (.tl t (f && hi.isNone) (tk (aC n l) (dr l x))) h .no
    | some _=>bif same && hi.isSome then K (.tl t true (tk (aC n l) (dr l x))) h .no else none)))) else none
   | .tw X z=>jt h X (fun t x=>bif Nat.beq z e.size && Nat.beq z t.size && Nat.blt 0 z then Bj lo 0 (fun l=>Bj hi (len x) (fun n=>gd (bt l n) (gd (bt n (len x)) (match mx with
    | none=>K (.ts X z l (aC n l)) h (.rd [iM X])
    | some _=>bif same && hi.isSome then K (.tf X z l (aC n l)) h (.rd [iM X]) else none)))) else none)
   | .ts X z off m=>jt h X (fun t x=>bif Nat.beq z e.size && Nat.beq z t.size && Nat.blt 0 z then Bj lo 0 (fun l=>Bj hi m (fun n=>gd (bt l n) (gd (bt (aN off n) (len x)) (match mx with
    | none=>K (.ts X z (aN off l) (aC n l)) h (.rd [iM X])
    | some _=>bif same && hi.isSome then K (.tf X z (aN off l) (aC n l)) h (.rd [iM X]) else none)))) else none)
   | _=>none
  | none=>none
 | some ⟨.array n el,_,_,_,_,_,_⟩=>match cB E.dR el with
  | some e=>bif lo.isNone && hi.isNone && mx.isNone && Nat.ble n 16777216 then (match px with
   | .tp X π=>K (.aa X π n e.size) h .no
   | .ptr q off=>match h.t.get q with
    | some (.cells cs)=>bif Nat.blt q 16777216 && Nat.ble (off+n*e.size) cs.length then K (.sl q off e.size n) h (.rd [dy q]) else none
    | _=>none
   | _=>none) else none
  | none=>none
 | _=>none
theorem isNone_map {x:Option Operand} (h:(x.map ρ).isNone=true):x=none:=by cases x with | none=>rfl | some y=>cases h
theorem isSome_map {x:Option Operand} (h:(x.map ρ).isSome=true):∃y,x=some y:=by cases x with | none=>cases h | some y=>exact ⟨y,rfl⟩
theorem qa {S:Hp} {T E':TypeId} {x:Operand} {lo hi mx:Option Operand} {z l n d:Nat} {pv pw:A} (ho:o.op = .slice T x lo hi mx) (hT:P.underlying T=some (.slice E')) (hE:eP P E' z) (tU:Bd ρ 0 lo l) (tV:Bd ρ d hi n) (h1:l≤n)
  (hr:∀g w v,Inv g S w→V g (ρ x) v→∃ad cap,v = .slice ad d cap∧n≤cap∧(mx=none→V g pv (pV ad z l n cap))∧(mx=hi→V g pw (pV ad z l n n))):(mx=none→fb P o ρ S S pv)∧(mx=hi→hi≠none→fb P o ρ S S pw):=
 ⟨fun hm=>by
  subst hm
  exact Al ho hT hE tU h1 (fun g w v hI hv=>let ⟨ad,cap,k1,k2,k3,_⟩:=hr g w v hI hv;⟨ad,d,cap,k1,tV,k2,k3 rfl⟩),
 fun hm hn=>by
  subst hm
  cases Jy:mx with
  | none=>exact absurd Jy hn
  | some y=>
   subst Jy
   exact qJ (hi:=y) (mx:=y) ho hT hE tU tV tV h1 (Nat.le_refl _) (fun g w v hI hv=>let ⟨ad,cap,k1,k2,_,k4⟩:=hr g w v hI hv;⟨ad,d,cap,k1,k2,k4 rfl⟩)⟩
theorem sZ (hE:b0 P E) {T:Nat} {x:Operand} {lo hi mx:Option Operand} {same:Bool} (ho:o.op = .slice T x lo hi mx) (hs:same=true→mx=hi) (hr:B4 E T (ρ x) (lo.map ρ) (hi.map ρ) (mx.map ρ) same h K=some r):Out P o ρ h K r:=by
 have hd:∀c,o.op≠.defer c:=by rw [ho];intro c e;cases e
 unfold B4 at hr
 split at hr
 ·rename_i el _ _ _ _ _ _ ht
  have hT:=(hE.dR _ _ ht).u
  split at hr
  ·rename_i e he
   have hz:=(hE.dR _ _ he).ti.size
   have fin:∀{T':List Nat} {pv pw:A} {Sx:Hp→Prop},(∀S2,Agree (.rd T') (hp h) S2→(mx=none→fb P o ρ S2 S2 pv)∧(mx=hi→hi≠none→fb P o ρ S2 S2 pw))→(match mx.map ρ with | none=>K pv h (.rd T') | some _=>bif same && (hi.map ρ).isSome then K pw h (.rd T') else none)=some r→Out P o ρ h K r:=fun {T' pv pw Sx} k hr=>by
    cases hm:mx with
    | none=>
     rw [hm] at hr
     exact .read _ hr (fun S2 hA=>(k S2 hA).1 hm) hd
    | some y=>
     rw [hm] at hr
     obtain ⟨h1,hr⟩:=aj hr
     simp only [zC] at h1
     obtain ⟨y',xn⟩:=isSome_map h1.2
     exact .read _ hr (fun S2 hA=>(k S2 hA).2 (hs h1.1) (by rw [xn];intro h;cases h)) hd
   split at hr
   ·rename_i hx
    obtain ⟨l,hr,tU⟩:=kg hr
    obtain ⟨n,hr,tV⟩:=kg hr
    obtain ⟨h1,hr⟩:=bE hr
    obtain ⟨h2,hr⟩:=bE hr
    have h1:l≤n:=h1
    have h2:n≤0:=h2
    have hn:n=0:=by omega
    have hl:l=0:=by omega
    subst hn hl
    exact fin (T':=[]) (Sx:=fun _=>True) (fun S2 _=>qa (pw:=.e0) ho hT hz tU tV h1 (fun g w v hI hv=>by
     rw [hx] at hv
     cases hv with
     | e0 ad=>exact ⟨ad,0,rfl,Nat.le_refl _,fun _=>.e0 _,fun _=>.e0 _⟩)) hr
   ·rename_i t f x' hx
    obtain ⟨hq,hr⟩:=aj hr
    have hq:=beq_eq hq
    obtain ⟨l,hr,tU⟩:=kg hr
    obtain ⟨n,hr,tV⟩:=kg hr
    obtain ⟨h1,hr⟩:=bE hr
    obtain ⟨h2,hr⟩:=bE hr
    have h1:l≤n:=h1
    have h2:n≤x'.length:=h2
    refine fin (T':=[]) (Sx:=fun _=>True) (fun S2 _=>qa ho hT hz tU tV h1 (fun g w v hI hv=>?_)) hr
    rw [hx] at hv
    obtain ⟨ad,cap,k1,k2,k3,_⟩:=hv.wQ (f':=f && (hi.map ρ).isNone) h1 h2
    refine ⟨ad,cap,k1,by omega,fun hm=>?_,fun _=>?_⟩
    ·obtain ⟨ad',aaB,j1,j2,j3,j4⟩:=hv.wQ (f':=f && (hi.map ρ).isNone) h1 h2
     rw [k1] at j1;cases j1
     rw [hq]
     refine j4 cap (by omega) (Nat.le_refl _) (fun hf=>?_)
     simp only [zC] at hf
     have hh:=isNone_map hf.2
     subst hh
     have:n=len x':=tV
     rw [k3 hf.1,this];rfl
    ·obtain ⟨ad',aaB,j1,j2,j3,j4⟩:=hv.wQ (f':=true) h1 h2
     rw [k1] at j1;cases j1
     rw [hq]
     exact j4 n (Nat.le_refl _) (by omega) (fun _=>rfl)
   ·rename_i X z hx
    obtain ⟨t,x',hr,hX,fc⟩:=eV hr
    obtain ⟨hq,hr⟩:=aj hr
    simp only [zC] at hq
    have Vg:=beq_eq hq.1.1
    have Dt:=beq_eq hq.1.2
    have h0:=bf hq.2
    obtain ⟨l,hr,tU⟩:=kg hr
    obtain ⟨n,hr,tV⟩:=kg hr
    obtain ⟨h1,hr⟩:=bE hr
    obtain ⟨h2,hr⟩:=bE hr
    have h1:l≤n:=h1
    have h2:n≤x'.length:=h2
    refine fin (T':=[iM X]) (Sx:=fun _=>True) (fun S2 hA=>qa ho hT hz tU tV h1 (fun g w v hI hv=>?_)) hr
    have eg:=(hA _ (bL hX (.head _))).1.trans fc
    rw [hx,Dt] at hv
    obtain ⟨ad,cap,k1,k2,k3,k4⟩:=hv.IC hI (by omega) eg h1 h2
    rw [←Dt] at k3 k4
    rw [←Vg]
    exact ⟨ad,cap,k1,by omega,fun _=>k3,fun _=>k4⟩
   ·rename_i X z off m hx
    obtain ⟨t,x',hr,hX,fc⟩:=eV hr
    obtain ⟨hq,hr⟩:=aj hr
    simp only [zC] at hq
    have Vg:=beq_eq hq.1.1
    have Dt:=beq_eq hq.1.2
    have h0:=bf hq.2
    obtain ⟨l,hr,tU⟩:=kg hr
    obtain ⟨n,hr,tV⟩:=kg hr
    obtain ⟨h1,hr⟩:=bE hr
    obtain ⟨h2,hr⟩:=bE hr
    have h1:l≤n:=h1
    have h2:off+n≤x'.length:=h2
    refine fin (T':=[iM X]) (Sx:=fun _=>True) (fun S2 hA=>qa ho hT hz tU tV h1 (fun g w v hI hv=>?_)) hr
    have eg:=(hA _ (bL hX (.head _))).1.trans fc
    rw [hx,Dt] at hv
    obtain ⟨ad,cap,k1,k2,k3,k4⟩:=hv.Ox hI (by omega) eg h1 h2
    rw [←Dt] at k3 k4
    rw [←Vg]
    exact ⟨ad,cap,k1,k2,fun _=>k3,fun _=>k4⟩
   ·cases hr
  ·cases hr
 ·rename_i n el _ _ _ _ _ _ ht
  have hT:=(hE.dR _ _ ht).u
  split at hr
  ·rename_i e he
   have hz:=(hE.dR _ _ he).ti.size
   obtain ⟨h1,kJ⟩:=aj hr
   clear hr
   simp only [zC] at h1
   have e1:=isNone_map h1.1.1.1
   have e2:=isNone_map h1.1.1.2
   have e3:=isNone_map h1.1.2
   have hn:=Nat.le_of_ble_eq_true h1.2
   clear h1
   subst e1 e2 e3
   split at kJ
   ·rename_i X π hx
    exact .pure kJ (fun S2=>na ho hT ⟨_,hz⟩ (fun g w v hI hv=>by
     rw [hx] at hv
     cases hv with
     | tp _ _ b s bO hk=>exact ⟨b,_,rfl,.aa X π n e.size b n s bO hk (Nat.le_refl _) (by unfold maxLen;omega)⟩)) hd
   ·rename_i q off hx
    split at kJ
    ·rename_i cs hg
     obtain ⟨h2,kJ⟩:=aj kJ
     simp only [zC] at h2
     have hq:=bf h2.1
     have h3:=Nat.le_of_ble_eq_true h2.2
     have fc:(hp h).ob q=some (.cells cs):=by rw [j_ hq];unfold fM;rw [hg];rfl
     exact .read _ kJ (fun S2 hA=>na ho hT ⟨_,hz⟩ (fun g w v hI hv=>by
      rw [hx] at hv
      cases hv with
      | ptr _ _ b s bO=>
       have hs:s.1=cs.length:=by
        rcases hI.cells _ _ ((hA q (aF hq (.head _))).1.trans fc) with ⟨k1,_⟩ | ⟨b',Fw,k1,_⟩
        ·rw [k1] at bO;cases bO
        rw [k1] at bO
        simp only [zI,zU] at bO
        obtain ⟨_,rfl⟩:=bO
        rfl
       exact ⟨b,off,rfl,.sl q off e.size n b n s bO (Nat.le_refl _) (by unfold maxLen;omega) (by rw [hs];exact h3)⟩)) hd
    ·cases kJ
   ·cases kJ
  ·cases hr
 ·cases hr
end
end
section
open Go.RowKit
section
variable {P:Program} {E:Env} {o:Oper} {ρ:Operand→A} {h:H} {β:Type} {K:A→H→Fp→Option β} {r:β}
theorem Step.put {h1:H} {X:Ref} {x:Ob} {T1:List Nat} {pv:A} (hd:∀c,o.op≠.defer c) (hX:Aw X=true) (k2:wE h h1 X x) (Af:∀(g:G) (S:Hp) (w:World) (a:Act),Inv g S w→(∀x∈o.op.operands,V g (ρ x) (a.eval x))→g.bu X.id≠none)
  (k:∀S2,Agree (.pt (iM X) T1) (hp h) S2→fb P o ρ S2 (S2.set X.id x) pv):Step P o ρ h h1 (.pt (iM X) T1) pv where
 out:=fun i hi=>k2.1 i (by
  have hi:(false || (iM X::T1).any (Nat.beq (res i)))=false:=hi
  rw [List.any_cons,Bool.or_eq_false_iff,Bool.or_eq_false_iff] at hi
  show (false || [iM X].any (Nat.beq (res i)))=false
  rw [List.any_cons,hi.2.1];rfl)
 rd:=fun i hi=>k2.1 i (by simpa [wt,aK,Fp.pt,Fp.wr] using hi)
 ok:=fun S2 hA=>by
  refine fb.Jg (fb.bu fun g w a hI hv=>?_) hd
  have Vq:aK (.pt (iM X) T1) X.id=true:=bL hX (.head _)
  have RD:¬(hp h).fr X.id:=fun hf=>Af g S2 w a hI hv (hI.fresh _ ((hA _ Vq).2.2 hf))
  rw [k2.2 RD,ir (fun u hu=>by rcases zF.1 hu with rfl;exact Vq) hA]
  exact k S2 hA
theorem V.atw {g:G} {X:Ref} {z:Nat} {v:Value} (hv:V g (.tw X z) v):g.bu X.id≠none:=by cases hv<;>simp_all
theorem V.ats {g:G} {X:Ref} {z off n:Nat} {v:Value} (hv:V g (.ts X z off n) v):g.bu X.id≠none:=by cases hv<;>simp_all
def Ej (E:Env) (T:Nat) (px py:A) (h:H) (K:A→H→Fp→Option β):Option β:=match xk E T with
 | some el=>match cB E.dR el with
  | some e=>match e.t,px with
   | some t,.tw X z=>bif Nat.blt 0 e.size then wS h t py (fun l T1=>jt h X (fun t' l0=>match fP (.aO t') (.aO t) l0 with
    | some l0=>bif Nat.beq z e.size then gd (bo 0 (len (α:=t.T) l0)) (gd (bt (len l) (len (α:=t.T) l0)) (qF h X t (cat l (dr (α:=t.T) (len l) l0)) (fun h1=>K (.v (.int .i64 (zN (len l)))) h1 (.pt (iM X) T1)))) else none
    | none=>none)) else none
   | _,_=>none
  | none=>none
 | none=>none
theorem Ei (hE:b0 P E) {T T':Nat} {x y:Operand} (ho:o.op = .call { callee:=.builtin .copy,args:=#[x,y],argTypes:=#[T,T'] }) (hr:Ej E T (ρ x) (ρ y) h K=some r):Out P o ρ h K r:=by
 have hd:∀c,o.op≠.defer c:=by rw [ho];intro c e;cases e
 unfold Ej at hr
 split at hr
 ·rename_i el he
  split at hr
  ·rename_i e ht
   have hk:=hE.dR _ _ ht
   split at hr
   ·rename_i t X z wL hx
    have ng:=hk.ts t wL
    obtain ⟨h0,hr⟩:=aj hr
    have h0:=bf h0
    obtain ⟨l,T1,hr,tS⟩:=sX hr
    obtain ⟨t',l0,hr,hX,fc⟩:=eV hr
    split at hr
    ·rename_i UU hl
     obtain ⟨e',rfl⟩:=cz hl
     cases e'
     obtain ⟨hz,hr⟩:=aj hr
     have hz:=beq_eq hz
     obtain ⟨h1,hr⟩:=bE hr
     have h1:0<l0.length:=h1
     obtain ⟨h2,hr⟩:=bE hr
     have h2:l.length≤l0.length:=h2
     obtain ⟨h',k1,k2⟩:=mL hX hr
     refine ⟨_,_,_,k1,.put hd hX k2 (fun g S w a hI hv=>?_) (fun S2 hA=>?_)⟩
     ·have hv:=hv x (by simp [ho,Op.operands,Call.operands])
      rw [hx] at hv
      exact hv.atw
     ·have eg:=(hA _ (bL hX (.head _))).1.trans fc
      have:=CL (P:=P) (ρ:=ρ) (n:=l0.length) (m:=l.length) (off:=0) (z:=e.size) ho (oj hE he) hk.ti.size (fun g w v hI hv=>by
       rw [hx,hz,←ng] at hv
       rcases hv.qm hI (by rw [ng];exact h0) eg with ⟨ad,_,rfl,rfl⟩ | ⟨b,s,cap,d,bO,rfl,k2,k3,k4,k5⟩
       ·simp at h1
       ·exact ⟨b,s,cap,d,bO,rfl,fun _=>k2 (by omega)⟩) eg (by rw [bj,ng];omega) (by have:=tS S2 (hA.mono fun i hi=>.tail _ hi);rwa [ng] at this) h2
      have e2:put (l0.flatMap (aE t)) 0 (l.flatMap (aE t))=(cat l (dr (len l) l0)).flatMap (aE t):=by
       rw [jd,ud]
       unfold put
       rw [bj,List.take_zero,List.nil_append,Nat.zero_add];rfl
      rw [e2] at this
      exact this
    ·cases hr
   ·cases hr
  ·cases hr
 ·cases hr
def LD (E:Env) (T:Nat) (px:A) (h:H) (K:A→H→Fp→Option β):Option β:=match xk E T with
 | some el=>match cB E.dR el with
  | some e=>match e.t,px with
   | some t,.ts X z off n=>bif Nat.blt 0 e.size then jt h X (fun t' l0=>match fP (.aO t') (.aO t) l0 with
    | some l0=>bif Nat.beq z e.size then gd (bo 0 n) (qF h X t (cat (tk (α:=t.T) off l0) (cat (rep n t.cP) (dr (α:=t.T) (aN off n) l0))) (fun h1=>K .cL h1 (.wr [iM X]))) else none
    | none=>none) else none
   | _,_=>none
  | none=>none
 | none=>none
theorem Ho (hE:b0 P E) {T:Nat} {x:Operand} (ho:o.op = .call { callee:=.builtin .clear,args:=#[x],argTypes:=#[T] }) (hr:LD E T (ρ x) h K=some r):Out P o ρ h K r:=by
 have hd:∀c,o.op≠.defer c:=by rw [ho];intro c e;cases e
 unfold LD at hr
 split at hr
 ·rename_i el he
  split at hr
  ·rename_i e ht
   have hk:=hE.dR _ _ ht
   split at hr
   ·rename_i t X z off n wL hx
    have ng:=hk.ts t wL
    obtain ⟨h0,hr⟩:=aj hr
    have h0:=bf h0
    obtain ⟨t',l0,hr,hX,fc⟩:=eV hr
    split at hr
    ·rename_i UU hl
     obtain ⟨e',rfl⟩:=cz hl
     cases e'
     obtain ⟨hz,hr⟩:=aj hr
     have hz:=beq_eq hz
     obtain ⟨h1,hr⟩:=bE hr
     have h1:0<n:=h1
     obtain ⟨h',k1,k2⟩:=mL hX hr
     refine ⟨_,_,_,k1,.put hd hX k2 (fun g S w a hI hv=>?_) (fun S2 hA=>fb.bu fun g0 w0 a0 RW KL=>?_)⟩
     ·have hv:=hv x (by simp [ho,Op.operands,Call.operands])
      rw [hx] at hv
      exact hv.ats
     ·have eg:=(hA _ (bL hX (.head _))).1.trans fc
      have hle:off+n≤l0.length:=by
       have hv:=KL x (by simp [ho,Op.operands,Call.operands])
       rw [hx,hz,←ng] at hv
       exact se RW (by rw [ng];exact h0) eg hv
      have:=Aq (P:=P) (ρ:=ρ) (n:=n) (off:=off*e.size) (z:=e.size) ho (oj hE he) hk.ti h0 (hk.tz t wL) (fun g w v hI hv=>by
       rw [hx,hz] at hv
       cases hv with
       | sf _ _ _ _ _ _ hn=>omega
       | ts _ _ _ _ b cap s bO hn _ _ _ d m0=>exact ⟨b,s,cap,d,bO,rfl,fun _=>m0 (by omega)⟩) h1 eg (by rw [bj,ng,←Nat.add_mul];exact zW _ hle)
      have e2:put (l0.flatMap (aE t)) (off*e.size) (o6 n (aE t t.cP))=(cat (tk off l0) (cat (rep n t.cP) (dr (aN off n) l0))).flatMap (aE t):=by
       rw [jd,jd,uc,ud,uZ,ng]
       unfold put
       rw [j0,bP,ng,←Nat.add_mul];rfl
      rw [e2] at this
      exact this
    ·cases hr
   ·cases hr
  ·cases hr
 ·cases hr
def Mc (mx:Bool) (px py:A) (h:H) (K:A→H→Fp→Option β):Option β:=match px,py with
 | .v (.int k m),.v (.int k' n)=>if k=k' then K (.v (.int k (bif mx then imax m n else lK m n))) h .no else none
 | _,_=>none
theorem Gu {Ts:Array TypeId} {x y:Operand} (ho:o.op = .call { callee:=.builtin .max,args:=#[x,y],argTypes:=Ts }) (hr:Mc true (ρ x) (ρ y) h K=some r):Out P o ρ h K r:=by
 unfold Mc at hr
 split at hr
 ·rename_i k m k' n hx hy
  split at hr
  ·rename_i hk;subst hk
   exact .pure hr (fun S2=>Ga ho hx hy) (by rw [ho];intro c e;cases e)
  ·cases hr
 ·cases hr
theorem Gs {Ts:Array TypeId} {x y:Operand} (ho:o.op = .call { callee:=.builtin .min,args:=#[x,y],argTypes:=Ts }) (hr:Mc false (ρ x) (ρ y) h K=some r):Out P o ρ h K r:=by
 unfold Mc at hr
 split at hr
 ·rename_i k m k' n hx hy
  split at hr
  ·rename_i hk;subst hk
   exact .pure hr (fun S2=>F_ ho hx hy) (by rw [ho];intro c e;cases e)
  ·cases hr
 ·cases hr
def Rb (f:FuncId) (fi ca:List A) (h:H) (K:A→H→Fp→Option β):Option β:=K (.fn f fi ca) h .no
theorem Gw {f:FuncId} {fi ca:Array Operand} (ho:o.op = .makeFunc (.func f) fi ca) (hr:Rb f (fi.toList.map ρ) (ca.toList.map ρ) h K=some r):Out P o ρ h K r:=
 .pure hr (fun S2=>tx ho) (by rw [ho];intro c e;cases e)
end
end
section
open Go.RowKit
section
variable {P:Program} {E:Env} {o:Oper} {ρ:Operand→A} {S:Hp}
def AF (es:List (A×A)) (n:Nat) (v:A):List (A×A):=es.modify n fun e=>(e.1,v)
theorem CK (hE:b0 P E) {T K T2:Nat} {X:Ref} {x y z:Operand} {e:cY} {es:List (A×A)} {vz:A} {n:Nat} {old:A} (ho:o.op = .mapUpdate T x y z) (hT:P.underlying T=some (.map K T2)) (he:cB E.dR K=some e) (ht:lX E e.d=true) {b:Bool} (hs:jb E K e.d (ρ y) (ρ y)=some b)
  (hx:ρ x = .mp X) (hm:S.ob X.id=some (.cT (.map es))) (Me:∀g v,V g (ρ z) v→V g vz v) (hr:ld (jb E K e.d (ρ y)) es 0=some (some (n,old)))
  (X0:∀g v q v',es[n]?=some q→V g (ρ y) v→V g q.1 v'→v'=v∧Instr.sameBits 10000 v v=true):fb P o ρ S (S.set X.id (.cT (.map (AF es n vz)))) .cL:=by
 intro g w a next Q hI hv K'
 have e1:=hx▸hv x (by simp [ho,Op.operands])
 have e2:=hv y (by simp [ho,Op.operands])
 have e3:=hv z (by simp [ho,Op.operands])
 obtain ⟨wv,s,jx,clock,h1,h2,h3,h4⟩:=e1.tG hI hm
 have hc:=mU hE w false he ht hs e2
 rcases h4.find (w:=w) hE he e2 hr with ⟨hh,_⟩ | ⟨n',p,x',hh,nP,_,hn,hf⟩
 ·cases hh
 cases hh
 obtain ⟨q,hq⟩:∃q,es[n]?=some q:=⟨_,zD hn⟩
 obtain ⟨k1,k2⟩:=X0 g _ q _ hq e2 (h4.2 n x' q nP hq).1
 have DG:ry g (jx.modify n fun e=>{ e with key:=a.eval y,val:=a.eval z }) (AF es n vz):=by
  refine ⟨by simp [AF,h4.1],fun m c r hy hz=>?_⟩
  unfold AF at hz
  rw [List.getElem?_modify] at hz
  rw [Array.getElem?_modify] at hy
  by_cases hmn:n=m
  ·subst hmn
   simp only [if_true,nP,hq,Option.map_some,Option.map_eq_map,zI] at hy hz
   subst hy hz
   exact ⟨by rw [←k1];exact (h4.2 n x' q nP hq).1,Me _ _ e3⟩
  ·simp only [if_neg hmn,Option.map_eq_map,Option.map_id'] at hy hz
   exact h4.2 m c r hy hz
 obtain ⟨q1,q2⟩:=hI.s_ (mB:=clock) hm h2 h3 DG
 have yN:(Instr.keyThatStays (((jx[n]?).map (·.key)).getD (a.eval y)) (a.eval y)).run P w = .ok (a.eval y) w:=by
  rw [nP]
  simp only [Option.map_some,Option.getD_some,k1]
  simp [Instr.keyThatStays,k2]
 have eX:(Instr.mapUpdate T (.map (some wv)) (a.eval y) (a.eval z)).run P w = .ok () { w with heap:=w.heap.setIfInBounds wv (.map (jx.modify n fun e=>{ e with key:=a.eval y,val:=a.eval z }) clock) }:=by
  simp only [Instr.mapUpdate,Sem.run_bind,run_underlying hT,Result.andThen_ok,MapKept.run_getObj_map h3,hc,hf,yN,MapKept.run_setObj_map _ h3]
 unfold Oper.wp
 simp only [execOp,ho,h1,Sem.run_bind,eX,Result.andThen_ok,Sem.run_pure]
 exact K' _ g _ (.cL _) q1 q2
end
def sI {β:Type} (f:A→Option Bool):List (A×A)→Nat→(Option (Nat×A)→Option β)→Option β
 | [],_,K=>K none
 | (k,v)::r,i,K=>match f k with
  | some b=>br b (K (some (i,v))) (sI f r (i+1) K)
  | none=>none
theorem oF {β:Type} {f:A→Option Bool} {r:β}:∀(es:List (A×A)) (i:Nat) (K:Option (Nat×A)→Option β),sI f es i K=some r→∃x,K x=some r∧ld f es i=some x
 | [],i,K,h=>⟨none,h,rfl⟩
 | (k,v)::es,i,K,h=>by
  unfold sI at h
  split at h
  ·rename_i b hb
   rcases pn h with ⟨rfl,h1⟩ | ⟨rfl,h1⟩
   ·exact ⟨_,h1,by unfold ld;rw [hb]⟩
   ·obtain ⟨x,k1,k2⟩:=oF es (i+1) K h1
    exact ⟨x,k1,by unfold ld;rw [hb];exact k2⟩
  ·cases h
def sK:(t:Ty)→t.T→t.T→Bool
 | .int _,x,y=>ah x y
 | .pair a b,x,y=>sK a x.1 y.1 && sK b x.2 y.2
 | _,_,_=>false
def E5 {κ α:Type} (p:κ→Bool):List (κ×α)→Nat→Option (Nat×α)
 | [],_=>none
 | (k,v)::r,i=>bif p k then some (i,v) else E5 p r (i+1)
def Kv {κ α:Type} (l:List (κ×α)) (n:Nat) (v:α):List (κ×α):=l.modify n fun e=>(e.1,v)
def Kx {κ α:Type} (l:List (κ×α)) (n:Nat):List (κ×α):=l.eraseIdx n
def mi (E:Env) (T:Nat) (k:IntKind):Bool:=match cB E.dR T with
 | some ⟨.int k',1,_,_,_,_,_⟩=>if k'=k then true else false
 | _=>false
def cn (E:Env):List Field→Nat→Ty→Bool
 | [fd],i,.int k=>Nat.beq fd.offset i && mi E fd.type k
 | fd::fs,i,.pair (.int k) t=>Nat.beq fd.offset i && mi E fd.type k && cn E fs (i+1) t
 | _,_,_=>false
def C9 (E:Env) (K:Nat) (e:cY) (ka:Bool) (t:Ty):Bool:=match e.d with
 | .int k=>!ka && (match t with
  | .int k'=>if k'=k then true else false
  | _=>false)
 | .struct fs=>ka && E.eqs.any (Nat.beq K) && cn E fs.toList 0 t
 | _=>false
theorem o_ {E:Env} {T:Nat} {k:IntKind} (h:mi E T k=true):∃e,cB E.dR T=some e∧e.d = .int k∧e.size=1:=by
 unfold mi at h
 split at h
 ·rename_i k' _ _ _ _ _ ht
  split at h
  ·rename_i hk;subst hk;exact ⟨_,ht,rfl,rfl⟩
  ·cases h
 ·cases h
theorem yY {E:Env} {T:Nat} {k:IntKind} {m n:Int} (h:mi E T k=true) (f:Nat):uK E (f+1) T [.v (.int k m)] [.v (.int k n)]=some (ah m n):=by
 obtain ⟨e,h1,h2,_⟩:=o_ h
 unfold uK
 rw [h1]
 simp only [h2,if_true]
theorem yA {E:Env} (f:Nat):∀(fs:List Field) (i:Nat) (t:Ty),cn E fs i t=true→∀(p q:List A) (x y:t.T),p.length=i→q.length=i→Hg E (uK E (f+1)) fs (p++aE t x) (q++aE t y)=some (sK t x y)
 | [],_,_,h=>by simp [cn] at h
 | [fd],i,.int k,h=>fun p q x y hp hq=>by
  simp only [cn,zC] at h
  have h1:=beq_eq h.1
  obtain ⟨e,e1,e2,e3⟩:=o_ h.2
  unfold Hg
  rw [e1]
  simp only [e3,h1]
  rw [←hp,List.drop_left,hp,←hq,List.drop_left]
  have:=yY (m:=x) (n:=y) h.2 f
  simp only [aE,List.take_succ_cons,List.take_zero,this,Hg]
  simp [sK,ll]
 | fd::fs,i,.pair (.int k) t,h=>fun p q x y hp hq=>by
  have h:(Nat.beq fd.offset i && mi E fd.type k && cn E fs (i+1) t)=true:=by
   cases fs<;>exact h
  simp only [zC] at h
  have h1:=beq_eq h.1.1
  obtain ⟨e,e1,e2,e3⟩:=o_ h.1.2
  unfold Hg
  rw [e1]
  simp only [e3,h1]
  have ih:=yA f fs (i+1) t h.2 (p++[A.v (.int k x.1)]) (q++[A.v (.int k y.1)]) x.2 y.2 (by simp [hp]) (by simp [hq])
  have ex:∀(p:List A) (x:(Ty.pair (.int k) t).T),p++aE (.pair (.int k) t) x=p++[A.v (.int k x.1)]++aE t x.2:=fun p x=>by
   show p++([A.v (.int k x.1)]++aE t x.2)=_
   rw [List.append_assoc]
  rw [ex,ex,ih]
  have Yc:((p++[A.v (.int k x.1)]++aE t x.2).drop i).take 1=[A.v (.int k x.1)]:=by rw [←hp,List.append_assoc,List.drop_left];rfl
  have hd2:((q++[A.v (.int k y.1)]++aE t y.2).drop i).take 1=[A.v (.int k y.1)]:=by rw [←hq,List.append_assoc,List.drop_left];rfl
  rw [Yc,hd2]
  exact congrArg (fun z:Option Bool=>match z,some (sK t x.2 y.2) with
   | some a,some b=>some (ll a b)
   | _,_=>none) (yY (m:=x.1) (n:=y.1) h.1.2 f)
 | [_],_,.bool,h=>by simp [cn] at h
 | _::_::_,_,.bool,h=>by simp [cn] at h
 | _::_::_,_,.int _,h=>by simp [cn] at h
 | _::_,_,.unit,h=>by simp [cn] at h
 | _::_,_,.pair .bool _,h=>by simp [cn] at h
 | _::_,_,.pair .unit _,h=>by simp [cn] at h
 | _::_,_,.pair (.pair _ _) _,h=>by simp [cn] at h
 | _::_,_,.pair (.arr _ _) _,h=>by simp [cn] at h
 | _::_,_,.pair (.aO _) _,h=>by simp [cn] at h
 | _::_,_,.pair (.ptr _) _,h=>by simp [cn] at h
 | _::_,_,.pair (.dF _) _,h=>by simp [cn] at h
 | _::_,_,.pair (.jZ _ _) _,h=>by simp [cn] at h
 | _::_,_,.pair (.oP _ _) _,h=>by simp [cn] at h
 | _::_,_,.pair (.mp _) _,h=>by simp [cn] at h
 | _::_,_,.arr _ _,h=>by simp [cn] at h
 | _::_,_,.aO _,h=>by simp [cn] at h
 | _::_,_,.ptr _,h=>by simp [cn] at h
 | _::_,_,.dF _,h=>by simp [cn] at h
 | _::_,_,.jZ _ _,h=>by simp [cn] at h
 | _::_,_,.oP _ _,h=>by simp [cn] at h
 | _::_,_,.mp _,h=>by simp [cn] at h
theorem tI {E:Env} {K:Nat} {e:cY} {ka:Bool} {t:Ty} (he:cB E.dR K=some e) (h:C9 E K e ka t=true) (x y:t.T):jb E K e.d (cb ka t x) (cb ka t y)=some (sK t x y):=by
 unfold C9 at h
 split at h
 ·rename_i k hd
  cases ka with
  | true=>simp at h
  | false=>
   simp only [Bool.not_false,Bool.true_and] at h
   split at h
   ·split at h
    ·rename_i k' hk
     subst hk
     unfold jb cb
     simp only [hd,cond_false,aE,if_true]
     rfl
    ·cases h
   ·cases h
 ·rename_i fs hd
  simp only [zC] at h
  obtain ⟨⟨rfl,hq⟩,hs⟩:=h
  have h1:=yA 0 fs.toList 0 t hs [] [] x y rfl rfl
  simp only [List.nil_append] at h1
  unfold jb cb
  simp only [hd,cond_true,iy,Bool.and_self,A.cells]
  show uK E 2 K (aE t x) (aE t y)=some (sK t x y)
  unfold uK
  rw [he]
  simp only [hd,hq,cond_true]
  exact h1
 ·cases h
theorem kA {E:Env} {K:Nat} {e:cY} {ka va:Bool} {t tv:Ty} (he:cB E.dR K=some e) (h:C9 E K e ka t=true) (x:t.T):∀(es:List (t.T×tv.T)) (i:Nat),
  ld (jb E K e.d (cb ka t x)) (es.map fun e=>(cb ka t e.1,cb va tv e.2)) i=some ((E5 (sK t x) es i).map fun p=>(p.1,cb va tv p.2))
 | [],i=>rfl
 | (k,v)::es,i=>by
  rw [List.map_cons]
  unfold ld E5
  simp only [tI he h x k]
  cases sK t x k with
  | true=>rfl
  | false=>exact kA he h x es (i+1)
theorem tQ {a b:Int} (h:ah a b=true):a=b:=by unfold ah at h;exact of_decide_eq_true h
theorem sB {E:Env}:∀(fs:List Field) (i:Nat) (t:Ty),cn E fs i t=true→∀x y:t.T,sK t x y=true→x=y
 | [],_,_,h=>by simp [cn] at h
 | [_],_,.int _,_=>fun _ _ e=>tQ e
 | fd::fs,i,.pair (.int k) t,h=>fun x y e=>by
  have h:(Nat.beq fd.offset i && mi E fd.type k && cn E fs (i+1) t)=true:=by
   cases fs<;>exact h
  simp only [zC] at h
  have e:(ah x.1 y.1 && sK t x.2 y.2)=true:=e
  simp only [zC] at e
  exact Prod.ext (tQ e.1) (sB fs (i+1) t h.2 _ _ e.2)
 | [_],_,.bool,h=>by simp [cn] at h
 | _::_::_,_,.bool,h=>by simp [cn] at h
 | _::_::_,_,.int _,h=>by simp [cn] at h
 | _::_,_,.unit,h=>by simp [cn] at h
 | _::_,_,.pair .bool _,h=>by simp [cn] at h
 | _::_,_,.pair .unit _,h=>by simp [cn] at h
 | _::_,_,.pair (.pair _ _) _,h=>by simp [cn] at h
 | _::_,_,.pair (.arr _ _) _,h=>by simp [cn] at h
 | _::_,_,.pair (.aO _) _,h=>by simp [cn] at h
 | _::_,_,.pair (.ptr _) _,h=>by simp [cn] at h
 | _::_,_,.pair (.dF _) _,h=>by simp [cn] at h
 | _::_,_,.pair (.jZ _ _) _,h=>by simp [cn] at h
 | _::_,_,.pair (.oP _ _) _,h=>by simp [cn] at h
 | _::_,_,.pair (.mp _) _,h=>by simp [cn] at h
 | _::_,_,.arr _ _,h=>by simp [cn] at h
 | _::_,_,.aO _,h=>by simp [cn] at h
 | _::_,_,.ptr _,h=>by simp [cn] at h
 | _::_,_,.dF _,h=>by simp [cn] at h
 | _::_,_,.jZ _ _,h=>by simp [cn] at h
 | _::_,_,.oP _ _,h=>by simp [cn] at h
 | _::_,_,.mp _,h=>by simp [cn] at h
theorem wY (n:Nat) (k:IntKind) (m:Int):Instr.sameBits n (.int k m) (.int k m)=true:=by cases n<;>simp [Instr.sameBits]
theorem sC {E:Env}:∀(fs:List Field) (i:Nat) (t:Ty),cn E fs i t=true→∀(x:t.T) (g:G) (vs:List Value),Vs g (aE t x) vs→(∀g' Fv,Vs g' (aE t x) Fv→Fv=vs)∧∀n,((vs.zip vs).all fun (a,b)=>Instr.sameBits n a b)=true
 | [],_,_,h=>by simp [cn] at h
 | [_],_,.int k,_=>fun x g vs hv=>by
  obtain ⟨v,rfl,h1,_⟩:=Vs.mY (show Vs g [.v (.int k x)] vs from hv)
  cases h1
  refine ⟨fun g' Fv wK=>?_,fun n=>?_⟩
  ·obtain ⟨v',rfl,Yo,_⟩:=Vs.mY (show Vs g' [.v (.int k x)] Fv from wK)
   cases Yo;rfl
  ·exact (Bool.and_true _).trans (wY n k x)
 | fd::fs,i,.pair (.int k) t,h=>fun x g vs hv=>by
  have h:(Nat.beq fd.offset i && mi E fd.type k && cn E fs (i+1) t)=true:=by
   cases fs<;>exact h
  simp only [zC] at h
  obtain ⟨v1,v2⟩:=Vs.split (show Vs g (aE (.int k) x.1++aE t x.2) vs from hv)
  obtain ⟨r1,r2⟩:=sC fs (i+1) t h.2 x.2 g _ v2
  obtain ⟨v,e1,h1,_⟩:=Vs.mY (show Vs g [.v (.int k x.1)] _ from v1)
  cases h1
  have BB:vs=Value.int k x.1::vs.drop (aE (.int k) x.1).length:=by
   have:=zP (aE (.int k) x.1).length vs
   rw [e1] at this
   exact this.symm
  refine ⟨fun g' Fv wK=>?_,fun n=>?_⟩
  ·obtain ⟨v1',v2'⟩:=Vs.split (show Vs g' (aE (.int k) x.1++aE t x.2) Fv from wK)
   obtain ⟨v',e1',Yo,_⟩:=Vs.mY (show Vs g' [.v (.int k x.1)] _ from v1')
   cases Yo
   have Xy:Fv=Value.int k x.1::Fv.drop (aE (.int k) x.1).length:=by
    have:=zP (aE (.int k) x.1).length Fv
    rw [e1'] at this
    exact this.symm
   rw [Xy,BB,r1 _ _ v2']
  ·rw [BB,List.zip_cons_cons,List.all_cons,r2 n]
   exact (Bool.and_true _).trans (wY n k x.1)
 | [_],_,.bool,h=>by simp [cn] at h
 | _::_::_,_,.bool,h=>by simp [cn] at h
 | _::_::_,_,.int _,h=>by simp [cn] at h
 | _::_,_,.unit,h=>by simp [cn] at h
 | _::_,_,.pair .bool _,h=>by simp [cn] at h
 | _::_,_,.pair .unit _,h=>by simp [cn] at h
 | _::_,_,.pair (.pair _ _) _,h=>by simp [cn] at h
 | _::_,_,.pair (.arr _ _) _,h=>by simp [cn] at h
 | _::_,_,.pair (.aO _) _,h=>by simp [cn] at h
 | _::_,_,.pair (.ptr _) _,h=>by simp [cn] at h
 | _::_,_,.pair (.dF _) _,h=>by simp [cn] at h
 | _::_,_,.pair (.jZ _ _) _,h=>by simp [cn] at h
 | _::_,_,.pair (.oP _ _) _,h=>by simp [cn] at h
 | _::_,_,.pair (.mp _) _,h=>by simp [cn] at h
 | _::_,_,.arr _ _,h=>by simp [cn] at h
 | _::_,_,.aO _,h=>by simp [cn] at h
 | _::_,_,.ptr _,h=>by simp [cn] at h
 | _::_,_,.dF _,h=>by simp [cn] at h
 | _::_,_,.jZ _ _,h=>by simp [cn] at h
 | _::_,_,.oP _ _,h=>by simp [cn] at h
 | _::_,_,.mp _,h=>by simp [cn] at h
theorem C8 {E:Env} {K:Nat} {e:cY} {ka:Bool} {t:Ty} (h:C9 E K e ka t=true) {x y:t.T} (hxy:sK t x y=true) {g:G} {v v':Value} (h1:V g (cb ka t x) v) (h2:V g (cb ka t y) v'):v'=v∧Instr.sameBits 10000 v v=true:=by
 unfold C9 at h
 split at h
 ·rename_i k hd
  cases ka with
  | true=>simp at h
  | false=>
   simp only [Bool.not_false,Bool.true_and] at h
   split at h
   ·split at h
    ·have:=tQ hxy
     subst this
     cases h1;cases h2
     exact ⟨rfl,wY _ _ _⟩
    ·cases h
   ·cases h
 ·rename_i fs hd
  simp only [zC] at h
  obtain ⟨⟨rfl,hq⟩,hs⟩:=h
  have:=sB _ _ _ hs _ _ hxy
  subst this
  have c1:=h1.cells rfl
  have c2:=h2.cells rfl
  obtain ⟨us,rfl⟩:=h1.wA rfl
  obtain ⟨us',rfl⟩:=h2.wA rfl
  obtain ⟨r1,r2⟩:=sC _ _ _ hs x g _ c1
  have e:=r1 _ _ c2
  have e:us'=us:=Array.ext' e
  subst e
  refine ⟨rfl,?_⟩
  have:=r2 9999
  simp only [Value.cells] at this
  rw [show (10000:Nat)=9999+1 from rfl,Instr.sameBits]
  simp only [this,Bool.and_true,beq_self_eq_true]
 ·cases h
end
section
variable {α β σ ρ:Type}
theorem l_ {x:Option α} {f:α→Option β} {a:α} (h:x=some a):bd x f=f a:=by rw [h];rfl
theorem Jf {x:Option α} {n:Option β} {s:α→Option β} {a:α} (h:x=some a):opt x n s=s a:=by rw [h];rfl
theorem Je {x:Option α} {n:Option β} {s:α→Option β} (h:x=none):opt x n s=n:=by rw [h];rfl
theorem aaD {b:Bool} {x y:Option α} (h:b=true):br b x y=x:=by rw [h];rfl
theorem LL {b:Bool} {x y:Option α} (h:b=false):br b x y=y:=by rw [h];rfl
theorem oC {p:Prop} {inst:Decidable p} {x:Option α} (h:p):@gd α p inst x=x:=if_pos h
theorem dN {a b:Int} {x y:Option α} (h:a<b):br (bb a b) x y=x:=by unfold bb;rw [decide_eq_true h];rfl
theorem dv {a b:Int} {x y:Option α} (h:¬a<b):br (bb a b) x y=y:=by unfold bb;rw [decide_eq_false h];rfl
theorem dO {a b:Int} {x y:Option α} (h:a≤b):br (dq a b) x y=x:=by unfold dq;rw [decide_eq_true h];rfl
theorem dP {a b:Int} {x y:Option α} (h:¬a≤b):br (dq a b) x y=y:=by unfold dq;rw [decide_eq_false h];rfl
theorem bp {a b:Int} {x y:Option α} (h:a=b):br (ah a b) x y=x:=by unfold ah;rw [decide_eq_true h];rfl
theorem bq {a b:Int} {x y:Option α} (h:¬a=b):br (ah a b) x y=y:=by unfold ah;rw [decide_eq_false h];rfl
theorem gP {a:Int} {x:Option α}:gd (bn a) x=br (dq 0 a) x none:=by unfold dq;by_cases h:0≤a<;>simp [gd,bn,h,br]
theorem gL {a b:Nat} {x:Option α}:gd (bo a b) x=br (bb a b) x none:=by unfold bb;by_cases h:a<b<;>simp [gd,bo,h,br]
theorem gM {a b:Nat} {x:Option α}:gd (bt a b) x=br (dq a b) x none:=by unfold dq;by_cases h:a≤b<;>simp [gd,bt,h,br]
theorem gN {a b:Nat} {x:Option α}:gd (neq a b) x=br (ah a b) x none:=by
 unfold ah
 by_cases h:a=b
 ·simp [gd,neq,h,br]
 ·have h2:¬(a:Int)=b:=by omega
  simp [gd,neq,h,h2,br]
theorem gQ {a b:Int} {x:Option α}:gd (GH a b) x=br (ah a b) x none:=by unfold ah;by_cases h:a=b<;>simp [gd,GH,h,br]
theorem gO {a:Int} {x:Option α}:gd (KI a) x=br (ah a 0) none x:=by unfold ah;by_cases h:a=0<;>simp [gd,KI,h,br]
theorem dM {b:Bool} {x y:Option α}:br (af b) x y=br b y x:=by cases b<;>rfl
theorem LM {a b:Bool} {x y:Option α}:br (ll a b) x y=br a (br b x y) y:=by cases a<;>cases b<;>rfl
theorem wrap_i64 (n:Int):IntKind.i64.wrap n=(n+9223372036854775808)%18446744073709551616-9223372036854775808:=by
 simp [IntKind.wrap,IntKind.bits,IntKind.signed]
 split<;>omega
theorem wrap_u64 (n:Int):IntKind.u64.wrap n=n%18446744073709551616:=by simp [IntKind.wrap,IntKind.bits,IntKind.signed]
theorem a_ {a b:Int} (h : -9223372036854775808≤a+b∧a+b≤9223372036854775807):ae .i64 a b=a+b:=by unfold ae;rw [wrap_i64];omega
theorem bV {a b:Int} (h : -9223372036854775808≤a-b∧a-b≤9223372036854775807):aJ .i64 a b=a-b:=by unfold aJ;rw [wrap_i64];omega
theorem dk {a b:Int} (h : -9223372036854775808≤a*b∧a*b≤9223372036854775807):dL .i64 a b=a*b:=by unfold dL;rw [wrap_i64];omega
theorem fY {a:Int} (h : -9223372036854775808≤a∧a≤9223372036854775807):cl .i64 a=a:=by unfold cl;rw [wrap_i64];omega
theorem gG {a:Int} (h:0≤a∧a≤18446744073709551615):cl .u64 a=a:=by unfold cl;rw [wrap_u64];omega
theorem cR {a b:Int} (h:0≤a):bJ a b=a%b:=Int.tmod_eq_emod_of_nonneg h
theorem J3 {a b:Int} (h:0≤a):a.tdiv b=a / b:=Int.tdiv_eq_ediv_of_nonneg h
theorem eF {a b:Int} (h:0≤a∧a≤9223372036854775807∧0<b):AK .i64 a b=a / b:=by
 unfold AK
 rw [J3 h.1,wrap_i64]
 have h1:0≤a / b:=Int.ediv_nonneg h.1 (by omega)
 have h2:a / b≤a:=Int.ediv_le_self b h.1
 omega
theorem jv (n:Nat):nN (n:Int)=n:=zE n
theorem fQ (n:Nat):zN n=(n:Int):=rfl
theorem dS (a:Int):nN a=a.toNat:=rfl
theorem bH (a:Int):bn a=(0≤a):=rfl
theorem bQ (a b:Nat):bo a b=(a<b):=rfl
theorem db (a b:Nat):bt a b=(a≤b):=rfl
theorem fk {d:α} {l:List α} {i:Nat} (h:i<l.length):nth d l i=l[i]:=by unfold nth;rw [zA,zD h];rfl
theorem bM {d x:α} {l:List α} {i:Nat} (h:l[i]?=some x):nth d l i=x:=by unfold nth;rw [zA,h];rfl
theorem Gi {d x:α} {l:List α} {i j:Nat}:nth d (aY l i x) j=if i=j∧j<l.length then x else nth d l j:=by
 unfold nth aY
 rw [zA,zA,List.getElem?_set]
 by_cases h:i=j
 ·subst h
  by_cases h1:i<l.length
  ·simp [h1]
  ·simp [h1]
 ·simp [h]
theorem Cc {l:List (Option (List α))} {j:Nat} {r:List α}:aZ l j=some r↔l[j]?=some (some r):=by
 unfold aZ
 rw [zA]
 cases h:l[j]? with
 | none=>simp
 | some x=>simp
theorem oZ {l:List (Option (List α))} {j:Nat} {r:List α} (h:aZ l j=some r):j<l.length:=(zB.1 (Cc.1 h)).1
theorem yf {l:List (Option (List α))} {i j:Nat} {x:Option (List α)} (h:i<l.length):aZ (aY l i x) j=if i=j then x else aZ l j:=by
 unfold aZ aY
 rw [zA,zA,List.getElem?_set]
 by_cases e:i=j
 ·subst e;simp [h]
 ·simp [e]
theorem cp {l:List (Option (List α))} {j:Nat} {r:List α} {x:Option (List α)} (h:aZ l j=some r):aZ (aY l j x) j=x:=by rw [yf (oZ h),if_pos rfl]
theorem vt {d x:α} {l:List α} {i:Nat} (h:i<l.length):nth d (aY l i x) i=x:=by rw [Gi,if_pos ⟨rfl,h⟩]
theorem yg {l:List (Option (List α))} {j:Nat} {x:Option (List α)}:aZ (cat l [x]) j=if j=l.length then x else aZ l j:=by
 unfold aZ cat
 rw [zA,zA]
 by_cases e:j=l.length
 ·subst e;simp
 ·rw [if_neg e]
  by_cases h1:j<l.length
  ·rw [zK h1]
  ·rw [zb (by simp;omega),zb (by omega)]
theorem Gj {d x:α} {l:List α} {j:Nat}:nth d (cat l [x]) j=if j=l.length then x else nth d l j:=by
 unfold nth cat
 rw [zA,zA]
 by_cases e:j=l.length
 ·subst e;simp
 ·rw [if_neg e]
  by_cases h1:j<l.length
  ·rw [zK h1]
  ·rw [zb (by simp;omega),zb (by omega)]
theorem gH {l:List (Option (List α))} {x:Option (List α)}:aZ (cat l [x]) l.length=x:=by rw [yg,if_pos rfl]
theorem vu {d x:α} {l:List α}:nth d (cat l [x]) l.length=x:=by rw [Gj,if_pos rfl]
theorem nr {n:Nat} {l:List α}:(tk n l).length=min n l.length:=List.length_take
theorem nI {n:Nat} {l:List α}:(dr n l).length=l.length-n:=List.length_drop
theorem lA {n:Nat} {x:α}:(rep n x).length=n:=List.length_replicate
theorem iY {d:α} {l:List α} {n:Nat} {x:α}:(aY l n x).length=l.length:=zM
theorem xh {l k:List α}:(cat l k).length=l.length+k.length:=zY
theorem aL (l:List α):len l=l.length:=rfl
theorem Ec {S R B:List α} {i m m' k:Nat} (hi:i<S.length) (hk:k=S.length-(i+1)) (hm:m=i+k) (KU:m'=i+k):tk m (cat (tk m' (cat (tk i S) (cat (tk k (dr (i+1) S)) R))) B)=S.eraseIdx i:=by
 have e1:tk k (dr (i+1) S)=S.drop (i+1):=za (by simp [dr];omega)
 rw [e1]
 unfold tk cat
 have hl:(S.take i++S.drop (i+1)).length=i+k:=by simp;omega
 have h2:List.take m' (List.take i S++(List.drop (i+1) S++R))=List.take i S++List.drop (i+1) S:=by
  rw [←List.append_assoc];exact List.take_left' (hl.trans KU.symm)
 rw [h2]
 exact (List.take_left' (hl.trans hm.symm)).trans (List.eraseIdx_eq_take_drop_succ _ _).symm
def BI (f:(σ→Option α)→σ→Option α) (s:σ) (x:Option α) (k:Nat):Prop:=∀n,k<n→iter f n s=x
theorem BI.stop {f:(σ→Option α)→σ→Option α} {s:σ} {x:Option α} (k:Nat) (h:∀g,f g s=x):BI f s x k:=fun n hn=>by
 cases n with
 | zero=>omega
 | succ n=>exact h _
theorem BI.step {f:(σ→Option α)→σ→Option α} {s s':σ} {x:Option α} {k:Nat} (h:BI f s' x k) (e:∀g:σ→Option α,f g s=g s'):BI f s x (k+1):=fun n hn=>by
 cases n with
 | zero=>omega
 | succ n=>exact (e _).trans (h n (by omega))
theorem BI.loop {f:(σ→Option α)→σ→Option α} {s:σ} {x:Option α} {k:Nat} (h:BI f s x k) (hk:k<lu):Go.Bm.loop f s=x:=by rw [qb];exact h lu hk
theorem Jm {f:(σ→Option α)→σ→Option α} {s:σ}:Go.Bm.loop f s=f (fun s=>f (fun s=>f (iter f 9223372036854775805) s) s) s:=by rw [qb];rfl
theorem lH {f:(σ→Option α)→σ→Option α} (mk:Nat→σ) (res:Nat→Option α) (N:Nat) (hN:N<lu) (he:∀g,f g (mk N)=res N) (h:∀k,k<N→(∀g,f g (mk k)=res k)∨(res k=res (k+1)∧∀g,f g (mk k)=g (mk (k+1)))):Go.Bm.loop f (mk 0)=res 0:=by
  have key:∀m k:Nat,k+m=N→BI f (mk k) (res k) m:=by
    intro m
    induction m with
    | zero=>
              intro k hk;obtain rfl:k=N:=by omega
              exact .stop 0 he
    | succ m ih=>
      intro k hk
      rcases h k (by omega) with h1 | ⟨h1,h2⟩
      · exact .stop _ h1
      · rw [h1];exact .step (ih (k+1) (by omega)) (fun g=>h2 g)
  exact (key N 0 (by omega)).loop hN
end
theorem bits_mask (a:Int) (j:Nat) (hj:j<63):bits .and .i64 a (2^j-1)=a%2^j:=by
 have h1:(BitVec.ofInt 64 (2^j-1)).toNat=2^j-1:=by
  rw [BitVec.toNat_ofInt]
  have h2:(2:Int)^j<2^64:=by
   have:(2:Nat)^j<2^64:=Nat.pow_lt_pow_right (by omega) (by omega)
   exact_mod_cast this
  have h3:(0:Int)<2^j:=by
   have:0<(2:Nat)^j:=Nat.pow_pos (by omega)
   exact_mod_cast this
  rw [Int.emod_eq_of_lt (by omega) (by simpa using (by omega:(2:Int)^j-1<2^64))]
  have:((2:Int)^j-1)=(((2:Nat)^j-1:Nat):Int):=by
   have:0<(2:Nat)^j:=Nat.pow_pos (by omega)
   rw [Int.natCast_sub (by omega)];simp
  rw [this];simp
 have h4:((BitVec.ofInt 64 a).toNat &&& (2^j-1))=(BitVec.ofInt 64 a).toNat%2^j:=Nat.and_two_pow_sub_one_eq_mod _ _
 have h5:(((BitVec.ofInt 64 a).toNat%2^j:Nat):Int)=a%2^j:=by
  rw [BitVec.toNat_ofInt]
  have hd:(2:Int)^j ∣ 2^64:=⟨2^(64-j),by rw [←Int.pow_add];congr 1;omega⟩
  rw [Int.natCast_emod,Int.toNat_of_nonneg (Int.emod_nonneg _ (by decide))]
  have:=Int.emod_emod_of_dvd a hd
  simpa using this
 have h6:0≤a%2^j:=Int.emod_nonneg _ (by
  have:0<(2:Nat)^j:=Nat.pow_pos (by omega)
  have:(0:Int)<2^j:=by exact_mod_cast this
  omega)
 have h7:a%2^j<9223372036854775808:=by
  have hp:(0:Int)<2^j:=by
   have:0<(2:Nat)^j:=Nat.pow_pos (by omega)
   exact_mod_cast this
  have h8:=Int.emod_lt_of_pos a hp
  have h9:(2:Int)^j≤2^63:=by
   have:(2:Nat)^j≤2^63:=Nat.pow_le_pow_right (by omega) (by omega)
   exact_mod_cast this
  omega
 have JE:(BitVec.ofInt 64 a &&& BitVec.ofInt 64 (2^j-1)).toNat=(BitVec.ofInt 64 a).toNat%2^j:=by rw [BitVec.toNat_and,h1,h4]
 show IntKind.i64.wrap ((BitVec.ofInt 64 a &&& BitVec.ofInt 64 (2^j-1)).toNat:Int)=_
 rw [JE,h5]
 exact (by rw [wrap_i64];omega)
theorem sy {n:Nat} {a:Int} (h0:0≤a) (h1:a<2^n):(BitVec.ofInt n a).toNat=a.toNat:=by
 rw [BitVec.toNat_ofInt,Int.emod_eq_of_lt h0 (by exact_mod_cast h1)]
theorem wx {a b:Int} (ha:0≤a∧a<9223372036854775808) (hb:0≤b∧b<9223372036854775808):bits .or .i64 a b=((a.toNat ||| b.toNat:Nat):Int):=by
 show IntKind.i64.wrap ((BitVec.ofInt 64 a ||| BitVec.ofInt 64 b).toNat:Int)=_
 rw [BitVec.toNat_or,sy ha.1 (by omega),sy hb.1 (by omega)]
 have:a.toNat ||| b.toNat<2^63:=Nat.or_lt_two_pow (by omega) (by omega)
 exact (by rw [wrap_i64];omega)
theorem kB {a m:Int} (j:Nat) (hj:j<63) (hm:m=2^j-1):bits .and .i64 a m=a%2^j:=by rw [hm,bits_mask a j hj]
theorem yp {a b:Int} (ha:0≤a∧a<9223372036854775808) (hb:0≤b∧b<9223372036854775808):bJ (bits .or .i64 a b) 8=0↔a%8=0∧b%8=0:=by
 rw [wx ha hb,cR (by omega)]
 obtain ⟨x,rfl⟩:=Int.eq_ofNat_of_zero_le ha.1
 obtain ⟨y,rfl⟩:=Int.eq_ofNat_of_zero_le hb.1
 have h:(x ||| y)%8=(x%8) ||| (y%8):=by
  have:=Nat.or_mod_two_pow (a:=x) (b:=y) (n:=3)
  simpa using this
 have h2:(x ||| y)%8=0↔x%8=0∧y%8=0:=by rw [h];exact Nat.or_eq_zero_iff
 simp only [zE]
 omega
theorem B8 : ∀ k : Fin 64, 3 ≤ k.val → (7#64)[k.val]'k.isLt = false := by decide
theorem HA {a:Int} (ha:0≤a∧a<9223372036854775808):bits .andNot .i64 a 7=a-a%8:=by
 obtain ⟨x,rfl⟩:=Int.eq_ofNat_of_zero_le ha.1
 have h1:(BitVec.ofInt 64 (x:Int) &&& ~~~ BitVec.ofInt 64 7).toNat=x-x%8:=by
  have hx:x<2^64:=by omega
  have e:BitVec.ofInt 64 (x:Int) &&& ~~~ BitVec.ofInt 64 7=(BitVec.ofNat 64 x >>> 3) <<< 3:=by
   rw [BitVec.ofInt_natCast]
   ext i hi
   simp only [BitVec.getElem_and,BitVec.getElem_not,BitVec.getElem_shiftLeft]
   by_cases h3:i<3
   ·have:i=0∨i=1∨i=2:=by omega
    rcases this with rfl | rfl | rfl<;>simp<;>decide
   ·have h7:(BitVec.ofInt 64 7)[i]=false:=by
     have:BitVec.ofInt 64 7=7#64:=rfl
     rw [this]
     exact B8 ⟨i,hi⟩ (by simpa using h3)
    rw [h7]
    simp [h3]
    congr 1
    omega
  rw [e]
  simp only [BitVec.toNat_shiftLeft,BitVec.toNat_ushiftRight,BitVec.toNat_ofNat,Nat.mod_eq_of_lt hx,Nat.shiftRight_eq_div_pow,Nat.shiftLeft_eq]
  omega
 show IntKind.i64.wrap ((BitVec.ofInt 64 (x:Int) &&& ~~~ BitVec.ofInt 64 7).toNat:Int)=_
 rw [h1,wrap_i64];omega
end Go.Bm
namespace Go.oT
open Go.Bm
abbrev uD:=Int×Int×Int×Int
abbrev Xt:=Int×Int
abbrev pC:=Int×Bool
abbrev oU:=Int×Int×Int
abbrev Hnd:=Int×Int×Int
abbrev m5:=Int×Int×Int×Int
abbrev sb:=Int×Int×Int×Int×Int×Int×Int
def within (a lo hi:Int):Bool:=decide (lo≤a) && decide (a≤hi)
theorem kD {a lo hi:Int}:within a lo hi=true↔lo≤a∧a≤hi:=by simp [within]
def eQ (p:m5):Bool:=within p.1 1 8 && (within p.2.1 1 4 && (within p.2.2.1 0 2048 && (within p.2.2.2 0 8192 && (decide (p.2.2.1%8=0) && decide (p.2.2.2%8=0)))))
theorem gu {p:m5}:eQ p=true↔(1≤p.1∧p.1≤8)∧(1≤p.2.1∧p.2.1≤4)∧(0≤p.2.2.1∧p.2.2.1≤2048)∧(0≤p.2.2.2∧p.2.2.2≤8192)∧p.2.2.1%8=0∧p.2.2.2%8=0:=by
 simp [eQ,kD]
def HM (n:Int):Int:=n+7-(n+7)%8
def fL (c:uD):Bool:=within c.2.2.2 0 16777215 && (if c.1=0∨c.1=1 then decide (c.2.1=0) && decide (c.2.2.1 = -1) else if c.1=2 then within c.2.1 1 7 && within c.2.2.1 (-1) 7 else if c.1=3 then decide (c.2.1=0) && within c.2.2.1 (-1) 7 else false)
def xO:uD:=(0,0,0,0)
def rf (c:uD) (fr:Int):uD×Int:=
 if fL c=false∨within fr 0 7=false then (xO,1)
 else if c.1=0 then (xO,11)
 else if c.1=3 then (xO,10)
 else if c.1=1 then ((2,c.2.1+1,fr,c.2.2.2),0)
 else if c.2.2.1≠fr then (xO,15)
 else if c.2.1=7 then (xO,16)
 else ((c.1,c.2.1+1,c.2.2.1,c.2.2.2),0)
def lZ (c:uD) (s:Int):Int:=if fL c=false then 1 else if c.1≠s then 11 else 0
def re (c:uD):uD×Int:=if lZ c 2≠0 then (xO,lZ c 2) else if c.2.1=1 then ((3,0,c.2.2.1,c.2.2.2),0) else ((c.1,c.2.1-1,c.2.2.1,c.2.2.2),0)
def sA (e:Int):Int:=(e+1)%16777216
def uh (c:uD):uD×Int:=if lZ c 3≠0 then (xO,lZ c 3) else ((1,0,-1,sA c.2.2.2),0)
def LP (l:List pC):Int:=match l.getLast? with
 | some e=>e.1
 | none=>0
def lf:List pC→Int→Option Nat
 | [],_=>none
 | e::l,s=>if e=(s,true) then some 0 else (lf l s).map (· + 1)
def reach (l:List pC) (s:Int):Bool:=decide (s=0) || (lf l s).isSome
def parent (l:List pC) (s:Int):Int:=match lf l s with
 | some i=>LP (l.take i)
 | none=>-1
def ux (l:List pC) (s:Int):Nat→Int→Bool
 | 0,_=>false
 | n+1,b=>if b=s then true else ux l s n (parent l b)
def JR (l:List pC) (s b:Int):Bool:=decide (s=0) || ux l s 9 b
def ph (jY bytes:Int):Int×Int:=if within jY 0 6=false∨within bytes 0 512=false then (0,1) else (2+jY+(bytes+7) / 8,0)
end Go.oT
namespace Go.Bm
section
variable {α β σ ρ:Type}
def Ok (x:Option α) (P:α→Prop):Prop:=∃a,x=some a∧P a
theorem Ok.some {a:α} {P:α→Prop} (h:P a):Ok (some a) P:=⟨a,rfl,h⟩
theorem Ok.mono {x:Option α} {P Q:α→Prop} (h:Ok x P) (k:∀a,P a→Q a):Ok x Q:=let ⟨a,e,h⟩:=h;⟨a,e,k a h⟩
theorem Ok.bd {x:Option α} {f:α→Option β} {Q:α→Prop} {P:β→Prop} (h:Ok x Q) (k:∀a,Q a→Ok (f a) P):Ok (Go.Bm.bd x f) P:=by
 obtain ⟨a,rfl,h⟩:=h
 exact k a h
theorem Ok.fI {x:Option α} {f:α→Option β} {a:α} {P:β→Prop} (h:x=Option.some a) (k:Ok (f a) P):Ok (Go.Bm.bd x f) P:=by rw [l_ h];exact k
theorem Ok.br {c:Bool} {x y:Option α} {P:α→Prop} (h1:c=true→Ok x P) (h2:c=false→Ok y P):Ok (Go.Bm.br c x y) P:=by
 cases c with
 | true=>exact h1 rfl
 | false=>exact h2 rfl
theorem Ok.gd {p:Prop} {inst:Decidable p} {x:Option α} {P:α→Prop} (h:p) (k:Ok x P):Ok (@Go.Bm.gd α p inst x) P:=by rw [oC h];exact k
theorem Ok.gJ {o:Option α} {a:α} {n:Option β} {s:α→Option β} {P:β→Prop} (h:o=Option.some a) (k:Ok (s a) P):Ok (opt o n s) P:=by rw [Jf h];exact k
theorem Ok.Ai {o:Option α} {n:Option β} {s:α→Option β} {P:β→Prop} (h:o=none) (k:Ok n P):Ok (opt o n s) P:=by rw [Je h];exact k
theorem Ok.opt {o:Option α} {n:Option β} {s:α→Option β} {P:β→Prop} (h:o=none→Ok n P) (k:∀a,o=Option.some a→Ok (s a) P):Ok (Go.Bm.opt o n s) P:=by
 cases o with
 | none=>exact h rfl
 | some a=>exact k a rfl
theorem Ok.jn {f:(σ→Option ρ)→Option ρ} {K:σ→Option ρ} {P:ρ→Prop} (h:Ok (f K) P):Ok (Go.Bm.jn f K) P:=by rw [gK];exact h
theorem Ok.oi {f:(σ→Option ρ)→Option ρ} {K:σ→Option ρ} {P:ρ→Prop} (Q:σ→Prop) (hK:∀s,Q s→Ok (K s) P) (h:∀k,(∀s,Q s→Ok (k s) P)→Ok (f k) P):Ok (Go.Bm.jn f K) P:=by rw [gK];exact h K hK
theorem Ok.loop {f:(σ→Option α)→σ→Option α} {P:α→Prop} (I:Nat→σ→Prop) (h:∀m s g,I m s→(∀m' s',m' < m→I m' s'→Ok (g s') P)→Ok (f g s) P) {N:Nat} {s0:σ} (hN:N<lu) (h0:I N s0):Ok (Go.Bm.loop f s0) P:=by
 have key:∀m n s,m<n→I m s→Ok (iter f n s) P:=by
  intro m
  induction m using Nat.strongRecOn with
  | _ m ih=>
   intro n s hn hs
   cases n with
   | zero=>omega
   | succ n=>exact h m s (iter f n) hs (fun m' s' hm AM=>ih m' hm n s' (by omega) AM)
 rw [qb]
 exact key N lu s0 hN h0
theorem d_ {a b:Int}:bb a b=true↔a<b:=decide_eq_true_iff
theorem C5 {a b:Int}:dq a b=true↔a≤b:=decide_eq_true_iff
theorem cQ {a b:Int}:ah a b=true↔a=b:=decide_eq_true_iff
theorem kr {a b:Int}:bb a b=false↔¬a<b:=decide_eq_false_iff_not
theorem pI {a b:Int}:dq a b=false↔¬a≤b:=decide_eq_false_iff_not
theorem cu {a b:Int}:ah a b=false↔¬a=b:=decide_eq_false_iff_not
theorem iv {a:Bool}:af a=true↔a=false:=by cases a<;>simp [af]
theorem g6 {a:Bool}:af a=false↔a=true:=by cases a<;>simp [af]
end
section
open Go.RowKit
section
variable {P:Program} {E:Env} {o:Oper} {ρ:Operand→A} {h:H} {β:Type} {K:A→H→Fp→Option β} {r:β}
def xl:A→Bool
 | .agg _=>true
 | _=>false
theorem V.sc1 {g:G} {p:A} {v:Value} {cs:List A} (hv:V g p v) (ha:xl p=false) (hc:p.cells=some cs):v.oneCell'=true:=by
 cases hv with
 | v x=>
  unfold A.cells at hc
  cases hx:v.oneCell' with
  | true=>rfl
  | false=>simp only [hx,cond_false] at hc;cases hc
 | agg=>cases ha
 | jD=>cases hc
 | un=>cases hc
 | cL=>cases hc
 | op r o v h0 h1=>exact V.Av (.op r o v h0 h1)
 | os r z o v h0 h1=>exact V.Av (.os r z o v h0 h1)
 | om r o v h0 h1=>exact V.Av (.om r o v h0 h1)
 | tl t f l v hd=>exact hd.one
 | _=>rfl
def kX (a:Bool) (t:Ty) (p:A):Option t.T:=bif a then (match p with
 | .agg cs=>oQ t cs
 | _=>none) else bif xl p then none else (match p.cells with
 | some cs=>bif Nat.beq t.size 1 then oQ t cs else none
 | none=>none)
theorem j6 {a:Bool} {t:Ty} {p:A} {x:t.T} (hx:kX a t p=some x) {g:G} {v:Value} (hv:V g p v):V g (cb a t x) v:=by
 unfold kX at hx
 unfold cb
 cases a with
 | true=>
  simp only [cond_true] at hx ⊢
  split at hx
  ·rename_i cs
   obtain ⟨us,rfl⟩:=hv.wA rfl
   exact Vs.agg ((jr (g:=g) t cs x hx).2 _ (hv.cells rfl))
  ·cases hx
 | false=>
  simp only [cond_false] at hx ⊢
  cases ha:xl p with
  | true=>rw [ha] at hx;cases hx
  | false=>
   rw [ha] at hx;simp only [cond_false] at hx
   split at hx
   ·rename_i cs hc
    obtain ⟨h1,hx⟩:=aj hx
    have h1:=beq_eq h1
    have Mg:=(jr (g:=g) t cs x hx).2 _ (hv.cells hc)
    rw [sw (hv.sc1 ha hc)] at Mg
    have hl:(aE t x).length=1:=by rw [bP];exact h1
    match he:aE t x,hl with
    | [c],_=>
     rw [he] at Mg
     exact (Mg.2 0 c v rfl rfl).1
   ·cases hx
theorem fb.conv {S S':Hp} {ρ':Operand→A} {pv:A} (hc:∀x∈o.op.operands,∀g v,V g (ρ x) v→V g (ρ' x) v) (k:fb P o ρ' S S' pv):fb P o ρ S S' pv:=
 fun g w a next Q hI hv K=>k g w a next Q hI (fun x hx=>hc x hx g _ (hv x hx)) K
def told (ρ:Operand→A) (y:Operand) (p:A):Operand→A:=fun z=>open Classical in if z=y then p else ρ z
theorem gm {ρ:Operand→A} {y:Operand} {p:A}:told ρ y p y=p:=if_pos rfl
theorem nV {ρ:Operand→A} {y z:Operand} {p:A} (h:z≠y):told ρ y p z=ρ z:=if_neg h
theorem oY {ρ:Operand→A} {y:Operand} {p:A} (h:∀g v,V g (ρ y) v→V g p v):∀(x:Operand) (g:G) (v:Value),V g (ρ x) v→V g (told ρ y p x) v:=fun x g v hv=>by
 by_cases hx:x=y
 ·subst hx;rw [gm];exact h g v hv
 ·rw [nV hx];exact hv
def Q_ (h:H) (r j:Nat) (k:(ka:Bool)→(tk:Ty)→(va:Bool)→(tv:Ty)→List (tk.T×tv.T)→Option β):Option β:=match bA h.rg r with
 | some ⟨_,.map ka tk va tv,c⟩=>bif Nat.blt r 64 then k ka tk va tv (nth (α:=List (tk.T×tv.T)) [] c j) else none
 | _=>none
def gh (ka:Bool) (tk:Ty) (va:Bool) (tv:Ty) (es:List (tk.T×tv.T)):List (A×A):=es.map fun e=>(cb ka tk e.1,cb va tv e.2)
theorem z7 {ka va:Bool} {tk tv:Ty} {c:List (List (tk.T×tv.T))} {j:Nat} (h:j<c.length):dT (.map ka tk va tv) c j=some (.cT (.map (gh ka tk va tv (nth [] c j)))):=by
 show (match k_ (α:=List (tk.T×tv.T)) c j with | some es=>some (Ob.cT (.map (gh ka tk va tv es))) | none=>none)=_
 have e:k_ c j=some (nth [] c j):=by simp [k_,nth,zA,zD h]
 rw [e]
theorem xc {q j:Nat} {k:(ka:Bool)→(tk:Ty)→(va:Bool)→(tv:Ty)→List (tk.T×tv.T)→Option β} (hr:Q_ h q j k=some r):∃(ka:Bool) (tk:Ty) (va:Bool) (tv:Ty) (es:List (tk.T×tv.T)),k ka tk va tv es=some r∧q<64∧(∃x:Rg,bA h.rg q=some x∧∃c:List (List (tk.T×tv.T)),x=⟨x.r,.map ka tk va tv,c⟩∧es=nth [] c j) ∧
  ∀g S (w:World) b s,Inv g S w→S.ob (fF q j)=(hp h).ob (fF q j)→(S.fr (fF q j)↔(hp h).fr (fF q j))→g.bu (fF q j)=some (some b,s)→S.ob (fF q j)=some (.cT (.map (gh ka tk va tv es))):=by
 unfold Q_ at hr
 split at hr
 ·rename_i rr ka tk va tv c hf
  obtain ⟨h1,h2⟩:=aj hr
  have h3:q<64:=bf h1
  refine ⟨ka,tk,va,tv,_,h2,h3,⟨_,hf,c,rfl,rfl⟩,fun g S w b s hI e e2 hg=>?_⟩
  have eY:j<List.length (α:=List (tk.T×tv.T)) c:=by
   rcases Nat.lt_or_ge j (List.length (α:=List (tk.T×tv.T)) c) with eY | uJ
   ·exact eY
   ·have:S.fr (fF q j):=e2.2 (by rw [gA.2,fZ h3 hf];exact uJ)
    have:=hI.fresh _ this
    rw [this] at hg;cases hg
  rw [e,gA.1,kU h3 hf]
  exact z7 eY
 ·cases hr
def AH (ok:Bool) (z:A) (res:Option (Nat×A)) (h:H) (T:Fp) (K:A→H→Fp→Option β):Option β:=bif ok then K (.jD [zo z res,.v (.bool res.isSome)]) h T else B1 (zo z res) (fun v=>K v h T)
theorem yz {ok:Bool} {z:A} {res:Option (Nat×A)} {T:List Nat} (hd:∀c,o.op≠.defer c) (hr:AH ok z res h (.rd T) K=some r) (k:∀S2,Agree (.rd T) (hp h) S2→fb P o ρ S2 S2 (bif ok then .jD [zo z res,.v (.bool res.isSome)] else zo z res)):Out P o ρ h K r:=by
 unfold AH at hr
 cases ok with
 | true=>exact .read T hr k hd
 | false=>exact .sp hr (.read _ k hd)
def Kz (E:Env) (T:Nat) (ok:Bool) (px py:A) (h:H) (K:A→H→Fp→Option β):Option β:=match cB E.dR T with
 | some ⟨.map KT VT,_,_,_,_,_,_⟩=>match cB E.dR KT,cB E.dR VT with
  | some e,some e2=>match BN e2.zero with
   | some z=>match px with
    | .mp (.loc q)=>match h.t.get q with
     | some (.cT (.map es))=>match jb E KT e.d py py with
      | some _=>bif lX E e.d && Nat.blt q 16777216 then sI (jb E KT e.d py) es 0 (fun res=>AH ok z res h (.rd [dy q]) K) else none
      | none=>none
     | _=>none
    | .mp (.eK q j)=>Q_ h q j (fun ka tk va tv es=>bif C9 E KT e ka tk && lX E e.d then (match kX ka tk py with
     | some x=>opt (E5 (sK tk x) es 0) (AH ok z none h (.rd [im q]) K) (fun p=>AH ok z (some (p.1,cb va tv p.2)) h (.rd [im q]) K)
     | none=>none) else none)
    | _=>none
   | none=>none
  | _,_=>none
 | _=>none
theorem Gx (hE:b0 P E) {T:Nat} {x y:Operand} {ok:Bool} (ho:o.op = .lookup T x y ok) (hr:Kz E T ok (ρ x) (ρ y) h K=some r):Out P o ρ h K r:=by
 have hd:∀c,o.op≠.defer c:=by rw [ho];intro c e;cases e
 unfold Kz at hr
 split at hr
 ·rename_i KT VT _ _ _ _ _ _ ht
  have hT:=(hE.dR _ _ ht).u
  split at hr
  ·rename_i e e2 he RO
   obtain ⟨i,t1,t2,t3,t4,t5,t6⟩:=(hE.dR _ _ RO).ti
   split at hr
   ·rename_i z hz
    have hzz:=BM hz t6
    split at hr
    ·rename_i q hx
     split at hr
     ·rename_i es hg
      split at hr
      ·rename_i b hs
       obtain ⟨h1,hr⟩:=aj hr
       simp only [zC] at h1
       have hq:=bf h1.2
       obtain ⟨res,k1,k2⟩:=oF _ _ _ hr
       have fc:(hp h).ob q=some (.cT (.map es)):=by rw [j_ hq];unfold fM;rw [hg];rfl
       exact yz hd k1 (fun S2 hA=>qK hE ho hT he RO h1.1 hs hx ((hA q (aF hq (.head _))).1.trans fc) k2 hzz)
      ·cases hr
     ·cases hr
    ·rename_i q j hx
     obtain ⟨ka,tk,va,tv,es,hr,hq,_,fc⟩:=xc hr
     obtain ⟨h1,hr⟩:=aj hr
     simp only [zC] at h1
     split at hr
     ·rename_i kx qV
      have jN:x≠y:=fun e=>by
       rw [←e,hx] at qV
       unfold kX at qV
       cases ka with
       | true=>cases qV
       | false=>
        simp only [cond_false,xl,A.cells] at qV
        obtain ⟨_,qV⟩:=aj qV
        have hs:=h1.1
        unfold C9 at hs
        split at hs
        ·simp only [Bool.not_false,Bool.true_and] at hs
         split at hs
         ·simp [oQ] at qV
         ·cases hs
        ·simp at hs
        ·cases hs
      have main:∀res,E5 (sK tk kx) es 0=res→AH ok z (res.map fun p=>(p.1,cb va tv p.2)) h (.rd [im q]) K=some r→Out P o ρ h K r:=fun res hm hr=>by
       refine yz hd hr (fun S2 hA=>fb.bu fun g w a hI hv=>?_)
       have uI:=hv x (by simp [ho,Op.operands])
       rw [hx] at uI
       have ha:=hA (fF q j) (cg (r:=q) (j:=j) hq (.head _))
       have vL:∃b s,g.bu (fF q j)=some (some b,s):=by
        generalize a.eval x=vx at uI
        cases uI with
        | mp _ b s bO=>exact ⟨b,s,bO⟩
       obtain ⟨b,s,bO⟩:=vL
       have eg:=fc g S2 w b s hI ha.1 ha.2 bO
       refine fb.conv (ρ':=told ρ y (cb ka tk kx)) (fun x _ g v hv=>oY (fun g v hv=>j6 qV hv) x g v hv) ?_
       have hf:=kA (va:=va) (tv:=tv) he h1.1 kx es 0
       rw [hm] at hf
       exact qK (X:=.eK q j) (es:=gh ka tk va tv es) hE ho hT he RO h1.2 (b:=sK tk kx kx) (by rw [gm];exact tI he h1.1 kx kx) (by rw [nV jN,hx]) eg (by rw [gm];exact hf) hzz
      rcases iu hr with ⟨e,hr⟩ | ⟨p,e,hr⟩
      ·exact main none e hr
      ·exact main (some p) e hr
     ·cases hr
    ·cases hr
   ·cases hr
  ·cases hr
 ·cases hr
def Ra (h:H) (K:A→H→Fp→Option β):Option β:=mZ (.cT (.map [])) h (fun q h'=>K (.mp (.loc q)) h' (.wr [dy q]))
theorem Gv {T:Nat} (ho:o.op = .makeMap T none) (hr:Ra h K=some r):Out P o ρ h K r:=by
 have hd:∀c,o.op≠.defer c:=by rw [ho];intro c e;cases e
 obtain ⟨h',k1,hq,hf,hh⟩:=fT hr
 exact ⟨_,_,_,k1,.of _ hh rfl (fun u hu=>by rcases zF.1 hu with rfl;exact aF (o:=h.aU) hq (.head _)) (fun S2 hA=>vn ho ((hA _ (aF hq (.head _))).2.2 hf)) hd⟩
def Ad (h:H) (q j:Nat) (ka:Bool) (tk:Ty) (va:Bool) (tv:Ty) (es:List (tk.T×tv.T)) (k:H→Option β):Option β:=bif vE h (im q) then none else match bA h.rg q with
 | some ⟨_,.map Xj UD VE UC,c⟩=>if ka=Xj∧va=VE then (match fP (.aO (.pair tk tv)) (.aO (.pair UD UC)) es with
  | some nR=>k { h with rg:=js h.rg q (.map Xj UD VE UC) (aY (α:=List (UD.T×UC.T)) c j nR) }
  | none=>none) else none
 | _=>none
theorem qz {ka va:Bool} {tk tv:Ty} {c:List (List (tk.T×tv.T))} {j:Nat} {es:List (tk.T×tv.T)} (hj:j<c.length) (i:Nat):dT (.map ka tk va tv) (aY c j es) i=if i=j then some (.cT (.map (gh ka tk va tv es))) else dT (.map ka tk va tv) c i:=by
 show (match k_ (α:=List (tk.T×tv.T)) (aY c j es) i with | some es=>some (Ob.cT (.map (gh ka tk va tv es))) | none=>none)=if i=j then some (.cT (.map (gh ka tk va tv es))) else (match k_ (α:=List (tk.T×tv.T)) c i with | some es=>some (Ob.cT (.map (gh ka tk va tv es))) | none=>none)
 rw [oz]
 by_cases h:i=j
 ·rw [if_pos ⟨h,hj⟩,if_pos h]
 ·rw [if_neg (fun k=>h k.1),if_neg h]
theorem tm {q j:Nat} {ka:Bool} {tk:Ty} {va:Bool} {tv:Ty} {es:List (tk.T×tv.T)} {k:H→Option β} (h3:q<64) (hr:Ad h q j ka tk va tv es k=some r):∃h',k h'=some r∧wE h h' (.eK q j) (.cT (.map (gh ka tk va tv es))):=by
 obtain ⟨_,hr⟩:=jk hr
 split at hr
 ·rename_i rr Xj UD VE UC c hf
  split at hr
  ·rename_i e
   obtain ⟨rfl,rfl⟩:=e
   split at hr
   rotate_left
   ·cases hr
   rename_i nR qc
   obtain ⟨e,qc⟩:=cz qc
   cases e
   obtain rfl:es=nR:=qc
   refine ⟨_,hr,fun i hi=>?_,fun nQ=>?_⟩
   ·have hn:=qn h3 hi
    have:=lL (h:=h) (k:=.map ka tk va tv) (c:=aY (α:=List (tk.T×tv.T)) c j es) hf i
    rw [if_neg hn,if_neg hn] at this
    exact this
   ·have eY:j<List.length (α:=List (tk.T×tv.T)) c:=by
     rcases Nat.lt_or_ge j (List.length (α:=List (tk.T×tv.T)) c) with eY | uJ
     ·exact eY
     ·exact absurd (by rw [show (Ref.eK q j).id=fF q j from rfl,gA.2,fZ h3 hf];exact uJ) nQ
    exact qT (j:=j) (u:=.set (fF q j) _) h3 hf (pX (α:=List (tk.T×tv.T)) c j _) (fun i hi=>by rw [qz (c:=c) eY,if_neg hi]) rfl (by rw [qz (c:=c) eY,if_pos rfl];exact wW) rfl
  ·cases hr
 ·cases hr
def yw (E:Env) (T:Nat) (ins ne:Bool) (px py pz:A) (h:H) (K:A→H→Fp→Option β):Option β:=match cB E.dR T with
 | some ⟨.map KT _,_,_,_,_,_,_⟩=>match cB E.dR KT with
  | some e=>match px with
   | .mp (.loc q)=>match h.t.get q with
    | some (.cT (.map es))=>match jb E KT e.d py py with
     | some _=>bif lX E e.d && Nat.blt q 16777216 && !(vE h (dy q)) then sI (jb E KT e.d py) es 0 (fun res=>match res with
      | none=>fq h.t q (some (.cT (.map (es++[(py,pz)])))) (fun t1=>K .cL { h with t:=t1 } (.wr [dy q]))
      | some _=>none) else none
     | none=>none
    | _=>none
   | .mp (.eK q j)=>Q_ h q j (fun ka tk va tv es=>bif C9 E KT e ka tk && lX E e.d && ne then (match kX ka tk py,kX va tv pz with
    | some x,some y=>opt (E5 (sK tk x) es 0) (Ad h q j ka tk va tv (cat es [(x,y)]) (fun h'=>K .cL h' (.wr [im q])))
     (fun p=>bif ins then none else Ad h q j ka tk va tv (Kv es p.1 y) (fun h'=>K .cL h' (.wr [im q])))
    | _,_=>none) else none)
   | _=>none
  | none=>none
 | _=>none
theorem vB {κ α:Type} {p:κ→Bool}:∀(l:List (κ×α)) (i n:Nat) (v:α),E5 p l i=some (n,v)→∃m k,n=i+m∧l[m]?=some (k,v)∧p k=true
 | [],_,_,_,h=>by cases h
 | (k,v)::l,i,n,v',h=>by
  unfold E5 at h
  cases hk:p k with
  | true=>rw [hk] at h;cases h;exact ⟨0,k,rfl,rfl,hk⟩
  | false=>
   rw [hk] at h
   obtain ⟨m,k',h1,h2,h3⟩:=vB l (i+1) n v' h
   exact ⟨m+1,k',by omega,h2,h3⟩
theorem V.Gr {g:G} {X:Ref} {v:Value} (hv:V g (.mp X) v):∃b s,g.bu X.id=some (some b,s):=by
 cases hv with
 | mp _ b s bO=>exact ⟨b,s,bO⟩
theorem vg {E:Env} {K:Nat} {e:cY} {ka:Bool} {tk:Ty} {X:Ref} {kx:tk.T} (hs:C9 E K e ka tk=true) (qV:kX ka tk (.mp X)=some kx):False:=by
 unfold kX at qV
 cases ka with
 | true=>cases qV
 | false=>
  simp only [cond_false,xl,A.cells] at qV
  obtain ⟨_,qV⟩:=aj qV
  unfold C9 at hs
  split at hs
  ·simp only [Bool.not_false,Bool.true_and] at hs
   split at hs
   ·simp [oQ] at qV
   ·cases hs
  ·simp at hs
  ·cases hs
theorem vw (hE:b0 P E) {T:Nat} {x y z:Operand} {ins ne:Bool} (hzy:ne=true→z≠y) (ho:(ins=false∧o.op = .mapUpdate T x y z)∨(ins=true∧o.op = .insert T x y z)) (hr:yw E T ins ne (ρ x) (ρ y) (ρ z) h K=some r):Out P o ρ h K r:=by
 have hd:∀c,o.op≠.defer c:=by rcases ho with ⟨_,ho⟩ | ⟨_,ho⟩<;>(rw [ho];intro c e;cases e)
 have Dz:o.op = .mapUpdate T x y z∨o.op = .insert T x y z:=by rcases ho with ⟨_,ho⟩ | ⟨_,ho⟩<;>simp [ho]
 have nD:x∈o.op.operands:=by rcases Dz with ho | ho<;>simp [ho,Op.operands]
 unfold yw at hr
 split at hr
 ·rename_i KT VT _ _ _ _ _ _ ht
  have hT:=(hE.dR _ _ ht).u
  split at hr
  ·rename_i e he
   split at hr
   ·rename_i q hx
    split at hr
    ·rename_i es hg
     split at hr
     ·rename_i b hs
      obtain ⟨h1,hr⟩:=aj hr
      simp only [zC] at h1
      have hq:=bf h1.1.2
      obtain ⟨res,k1,k2⟩:=oF _ _ _ hr
      have fc:(hp h).ob q=some (.cT (.map es)):=by rw [j_ hq];unfold fM;rw [hg];rfl
      split at k1
      ·obtain ⟨_,t1,k3,k4⟩:=bz k1
       exact ⟨_,_,_,k3,.of [.set q (.cT (.map (es++[(ρ y,ρ z)])))] (pf (x:=.cT (.map (es++[(ρ y,ρ z)]))) hq k4) rfl (fun u hu=>by rcases zF.1 hu with rfl;exact aF (o:=q) hq (.head _))
        (fun S2 hA=>yt hE Dz hT he h1.1.1 hs hx ((hA q (aF hq (.head _))).1.trans fc) (fun g v hv=>hv) (fun g v hv=>hv) k2) hd⟩
      ·cases k1
     ·cases hr
    ·cases hr
   ·rename_i q j hx
    obtain ⟨ka,tk,va,tv,es,hr,hq,_,fc⟩:=xc hr
    obtain ⟨h1,hr⟩:=aj hr
    simp only [zC] at h1
    split at hr
    ·rename_i kx vy qV Xw
     have jN:x≠y:=fun e=>by rw [←e,hx] at qV;exact vg h1.1.1 qV
     have hX:Aw (.eK q j)=true:=by show Nat.blt q 64=true;simpa using hq
     have Af:∀(g:G) (S:Hp) (w:World) (a:Act),Inv g S w→(∀x∈o.op.operands,V g (ρ x) (a.eval x))→g.bu (Ref.eK q j).id≠none:=fun g S w a hI hv=>by
      have uI:=hv x nD
      rw [hx] at uI
      obtain ⟨b,s,bO⟩:=uI.Gr
      rw [bO];intro h;cases h
     have here:∀S2,Agree (.wr (iM (.eK q j)::[])) (hp h) S2→∀{S':Hp} {pv:A},(S2.ob (fF q j)=some (.cT (.map (gh ka tk va tv es)))→fb P o ρ S2 S' pv)→fb P o ρ S2 S' pv:=fun S2 hA _ _ k=>fb.bu fun g w a hI hv=>by
      have uI:=hv x nD
      rw [hx] at uI
      obtain ⟨b,s,bO⟩:=uI.Gr
      have ha:=hA (fF q j) (cg (r:=q) (j:=j) hq (.head _))
      exact k (fc g S2 w b s hI ha.1 ha.2 bO)
     have Vb:told ρ y (cb ka tk kx) x = .mp (.eK q j):=by rw [nV jN,hx]
     have Me:∀g v,V g (told ρ y (cb ka tk kx) z) v→V g (cb va tv vy) v:=fun g v hv=>by
      rw [nV (hzy h1.2)] at hv;exact j6 Xw hv
     have conv:=fun {S S':Hp} {pv:A}=>fb.conv (P:=P) (o:=o) (ρ:=ρ) (ρ':=told ρ y (cb ka tk kx)) (S:=S) (S':=S') (pv:=pv) (fun x _ g v hv=>oY (fun g v hv=>j6 qV hv) x g v hv)
     have hs:jb E KT e.d (told ρ y (cb ka tk kx) y) (told ρ y (cb ka tk kx) y)=some (sK tk kx kx):=by rw [gm];exact tI he h1.1.1 kx kx
     have hf:=kA (va:=va) (tv:=tv) he h1.1.1 kx es 0
     rcases iu hr with ⟨e1,hr⟩ | ⟨p,e1,hr⟩
     ·obtain ⟨h',k1,k2⟩:=tm hq hr
      refine ⟨_,_,_,k1,.put hd hX k2 Af (fun S2 hA=>here S2 hA fun eg=>?_)⟩
      have e2:gh ka tk va tv (cat es [(kx,vy)])=gh ka tk va tv es++[(cb ka tk kx,cb va tv vy)]:=by simp [gh,cat]
      rw [e2]
      rw [e1] at hf
      exact conv (yt (X:=.eK q j) hE Dz hT he h1.1.2 hs Vb eg (fun g v hv=>by rw [gm] at hv;exact hv) Me (by rw [gm];exact hf))
     ·cases hi:ins with
      | true=>rw [hi] at hr;cases hr
      | false=>
       rw [hi] at hr;simp only [cond_false] at hr
       obtain ⟨h',k1,k2⟩:=tm hq hr
       refine ⟨_,_,_,k1,.put hd hX k2 Af (fun S2 hA=>here S2 hA fun eg=>?_)⟩
       have e2:gh ka tk va tv (Kv es p.1 vy)=AF (gh ka tk va tv es) p.1 (cb va tv vy):=by
        unfold gh Kv AF
        apply List.ext_getElem?
        intro m
        simp only [zL,List.getElem?_modify]
        cases es[m]? with
        | none=>rfl
        | some u=>
         by_cases hm:p.1=m
         ·simp [hm]
         ·simp [hm]
       rw [e2]
       rw [e1] at hf
       obtain ⟨m,kk,m1,m2,m3⟩:=vB es 0 p.1 p.2 e1
       have hmu:o.op = .mapUpdate T x y z:=by
        rcases ho with ⟨_,ho⟩ | ⟨hh,_⟩
        ·exact ho
        ·rw [hi] at hh;cases hh
       refine conv (CK (X:=.eK q j) (n:=p.1) hE hmu hT he h1.1.2 hs Vb eg Me (by rw [gm];exact hf) (fun g v u v' hu hv wK=>?_))
       rw [gm] at hv
       have vI:(gh ka tk va tv es)[p.1]?=some (cb ka tk kk,cb va tv p.2):=by
        rw [m1,Nat.zero_add]
        unfold gh
        rw [zL,m2];rfl
       rw [vI] at hu
       cases hu
       exact C8 h1.1.1 m3 hv wK
    ·cases hr
   ·cases hr
  ·cases hr
 ·cases hr
end
end
section
open Go.RowKit
section
variable {P:Program} {E:Env} {o:Oper} {ρ:Operand→A} {h:H} {β:Type} {K:A→H→Fp→Option β} {r:β}
def C2 (E:Env) (T:Nat) (px py:A) (h:H) (K:A→H→Fp→Option β):Option β:=match cB E.dR T with
 | some ⟨.map KT _,_,_,_,_,_,_⟩=>match cB E.dR KT with
  | some e=>match px with
   | .mp (.loc q)=>match h.t.get q with
    | some (.cT (.map es))=>match jb E KT e.d py py with
     | some _=>bif lX E e.d && Nat.blt q 16777216 && !(vE h (dy q)) then sI (jb E KT e.d py) es 0 (fun res=>fq h.t q (some (.cT (.map (D3 es res)))) (fun t1=>K .cL { h with t:=t1 } (.wr [dy q]))) else none
     | none=>none
    | _=>none
   | .mp (.eK q j)=>Q_ h q j (fun ka tk va tv es=>bif C9 E KT e ka tk && lX E e.d then (match kX ka tk py with
    | some x=>opt (E5 (sK tk x) es 0) (Ad h q j ka tk va tv es (fun h'=>K .cL h' (.wr [im q])))
     (fun p=>Ad h q j ka tk va tv (Kx es p.1) (fun h'=>K .cL h' (.wr [im q])))
    | none=>none) else none)
   | _=>none
  | none=>none
 | _=>none
theorem D6 {ka:Bool} {tk:Ty} {va:Bool} {tv:Ty} (es:List (tk.T×tv.T)) (p:Option (Nat×tv.T)) :
  gh ka tk va tv (match p with | some p=>Kx es p.1 | none=>es)=D3 (gh ka tk va tv es) (p.map fun p=>(p.1,cb va tv p.2)):=by
 cases p with
 | none=>rfl
 | some p=>
  show (es.eraseIdx p.1).map _=(es.map _).eraseIdx p.1
  generalize p.1=n
  induction es generalizing n with
  | nil=>rfl
  | cons a es ih=>cases n with
   | zero=>rfl
   | succ n=>simp only [List.map_cons,List.eraseIdx_cons_succ,List.map_cons,ih n]
theorem C1 (hE:b0 P E) {T:Nat} {x y:Operand} {Ts:Array TypeId} (ho:o.op = .call { callee:=.builtin .delete,args:=#[x,y],argTypes:=Ts }) (h0:Ts[0]?=some T) (hr:C2 E T (ρ x) (ρ y) h K=some r):Out P o ρ h K r:=by
 have hd:∀c,o.op≠.defer c:=by rw [ho];intro c e;cases e
 have nD:x∈o.op.operands:=by simp [ho,Op.operands,Call.operands]
 unfold C2 at hr
 split at hr
 ·rename_i KT VT _ _ _ _ _ _ ht
  have hT:=(hE.dR _ _ ht).u
  split at hr
  ·rename_i e he
   split at hr
   ·rename_i q hx
    split at hr
    ·rename_i es hg
     split at hr
     ·rename_i b hs
      obtain ⟨h1,hr⟩:=aj hr
      simp only [zC] at h1
      have hq:=bf h1.1.2
      obtain ⟨res,k1,k2⟩:=oF _ _ _ hr
      have fc:(hp h).ob q=some (.cT (.map es)):=by rw [j_ hq];unfold fM;rw [hg];rfl
      obtain ⟨_,t1,k3,k4⟩:=bz k1
      exact ⟨_,_,_,k3,.of [.set q (.cT (.map (D3 es res)))] (pf (x:=.cT (.map (D3 es res))) hq k4) rfl (fun u hu=>by rcases zF.1 hu with rfl;exact aF (o:=q) hq (.head _))
       (fun S2 hA=>qL hE ho h0 hT he h1.1.1 hs hx ((hA q (aF hq (.head _))).1.trans fc) k2) hd⟩
     ·cases hr
    ·cases hr
   ·rename_i q j hx
    obtain ⟨ka,tk,va,tv,es,hr,hq,_,fc⟩:=xc hr
    obtain ⟨h1,hr⟩:=aj hr
    simp only [zC] at h1
    split at hr
    ·rename_i kx qV
     have jN:x≠y:=fun e=>by rw [←e,hx] at qV;exact vg h1.1 qV
     have hX:Aw (.eK q j)=true:=by show Nat.blt q 64=true;simpa using hq
     have Af:∀(g:G) (S:Hp) (w:World) (a:Act),Inv g S w→(∀x∈o.op.operands,V g (ρ x) (a.eval x))→g.bu (Ref.eK q j).id≠none:=fun g S w a hI hv=>by
      have uI:=hv x nD
      rw [hx] at uI
      obtain ⟨b,s,bO⟩:=uI.Gr
      rw [bO];intro h;cases h
     have here:∀S2,Agree (.wr (iM (.eK q j)::[])) (hp h) S2→∀{S':Hp} {pv:A},(S2.ob (fF q j)=some (.cT (.map (gh ka tk va tv es)))→fb P o ρ S2 S' pv)→fb P o ρ S2 S' pv:=fun S2 hA _ _ k=>fb.bu fun g w a hI hv=>by
      have uI:=hv x nD
      rw [hx] at uI
      obtain ⟨b,s,bO⟩:=uI.Gr
      have ha:=hA (fF q j) (cg (r:=q) (j:=j) hq (.head _))
      exact k (fc g S2 w b s hI ha.1 ha.2 bO)
     have Vb:told ρ y (cb ka tk kx) x = .mp (.eK q j):=by rw [nV jN,hx]
     have conv:=fun {S S':Hp} {pv:A}=>fb.conv (P:=P) (o:=o) (ρ:=ρ) (ρ':=told ρ y (cb ka tk kx)) (S:=S) (S':=S') (pv:=pv) (fun x _ g v hv=>oY (fun g v hv=>j6 qV hv) x g v hv)
     have hs:jb E KT e.d (told ρ y (cb ka tk kx) y) (told ρ y (cb ka tk kx) y)=some (sK tk kx kx):=by rw [gm];exact tI he h1.1 kx kx
     have hf:=kA (va:=va) (tv:=tv) he h1.1 kx es 0
     have main:∀p,E5 (sK tk kx) es 0=p→Ad h q j ka tk va tv (match p with | some p=>Kx es p.1 | none=>es) (fun h'=>K .cL h' (.wr [im q]))=some r→Out P o ρ h K r:=fun p Dw hr=>by
      obtain ⟨h',k1,k2⟩:=tm hq hr
      refine ⟨_,_,_,k1,.put hd hX k2 Af (fun S2 hA=>here S2 hA fun eg=>?_)⟩
      rw [Dw] at hf
      rw [D6]
      exact conv (qL (X:=.eK q j) hE ho h0 hT he h1.2 hs Vb eg (by rw [gm];exact hf))
     rcases iu hr with ⟨e1,hr⟩ | ⟨p,e1,hr⟩
     ·exact main none e1 hr
     ·exact main (some p) e1 hr
    ·cases hr
   ·cases hr
  ·cases hr
 ·cases hr
def xq:List (Nat×Nat)→Nat→Option Nat
 | [],_=>none
 | (t,r)::l,T=>bif Nat.beq t T then some r else xq l T
def Ct (h:H) (q:Nat) (t:Ty) (x:t.T) (k:Nat→H→Option β):Option β:=bif vE h (im q) then none else match bA h.rg q with
 | some ⟨_,.box t',c⟩=>match fP t t' x with
  | some x'=>bif Nat.blt q 64 then k (len (α:=t'.T) c) { h with rg:=js h.rg q (.box t') (cat (α:=t'.T) c [x']) } else none
  | none=>none
 | _=>none
theorem vf {q:Nat} {t:Ty} {x:t.T} {k:Nat→H→Option β} (hr:Ct h q t x k=some r):∃h' j,k j h'=some r∧q<64∧(hp h).fr (fF q j)∧hp h'=app [.new (fF q j) (.cells (aE t x))] (hp h):=by
 obtain ⟨_,hr⟩:=jk hr
 split at hr
 ·rename_i rr t' c hf
  split at hr
  ·rename_i x' hx
   obtain ⟨e,hx⟩:=cz hx
   subst e
   obtain rfl:x=x':=hx
   obtain ⟨h1,hr⟩:=aj hr
   have h3:q<64:=bf h1
   refine ⟨_,_,hr,h3,?_,?_⟩
   ·rw [gA.2,fZ h3 hf];exact Nat.le_refl _
   ·exact ot (k:=.box t) (c:=cat (α:=t.T) c [x]) (n:=List.length (α:=t.T) c) h3 hf rfl (oh (α:=t.T) c _) (fun j=>qB (c:=c) (x:=x) j)
  ·cases hr
 ·cases hr
theorem V.FU {g:G} {q j:Nat} {v:Value} (hv:V g (.ptr (fF q j) 0) v):V g (.tp (.eK q j) []) v:=by
 cases hv with
 | ptr _ _ b s hb=>exact .tp (.eK q j) [] b s hb trivial
def LR (E:Env) (hm:List (Nat×Nat)) (T:Nat) (h:H) (K:A→H→Fp→Option β):Option β:=match xq hm T with
 | some q=>match cB E.dR T with
  | some e=>match e.t with
   | some t=>Ct h q t t.cP (fun j h'=>K (.tp (.eK q j) []) h' (.wr [im q]))
   | none=>none
  | none=>none
 | none=>LS E T h K
theorem HB (hE:b0 P E) {hm:List (Nat×Nat)} {T:Nat} (ho:o.op = .alloc T) (hr:LR E hm T h K=some r):Out P o ρ h K r:=by
 have hd:∀c,o.op≠.defer c:=by rw [ho];intro c e;cases e
 unfold LR at hr
 split at hr
 ·rename_i q _
  split at hr
  ·rename_i e ht
   have hk:=hE.dR _ _ ht
   obtain ⟨i,t1,t2,t3,t4,t5,t6⟩:=hk.ti
   split at hr
   ·rename_i t wL
    obtain ⟨h',j,k1,hq,hf,hh⟩:=vf hr
    exact ⟨_,_,_,k1,Step.BP (.of _ hh rfl (fun u hu=>by rcases zF.1 hu with rfl;exact cg (r:=q) (j:=j) hq (.head _)) (fun S2 hA=>nx ho t1 t2 (hk.tz t wL) ((hA _ (cg (r:=q) (j:=j) hq (.head _))).2.2 hf)) hd) (fun g v hv=>hv.FU)⟩
   ·cases hr
  ·cases hr
 ·exact HC hE ho hr
def LJ (E:Env) (hm:List (Nat×Nat)) (T:Nat) (px:A) (h:H) (K:A→H→Fp→Option β):Option β:=match xq hm T with
 | some q=>match cB E.dR T,px.cells with
  | some e,some ps=>match e.t with
   | some t=>match fixC 64 t ps h with
    | some (tq,h1,T1)=>match oQ t tq with
     | some x=>Ct h1 q t x (fun j h'=>K (.tp (.eK q j) []) h' (.wr (im q::T1)))
     | none=>none
    | none=>none
   | none=>none
  | _,_=>none
 | none=>Et E T px h K
theorem Step.Xd {T1:List Nat} {h1 h2:H} {us:List Up} {x:Ob} {pv:A} {q j:Nat} (c1:hp h1=app us (hp h)) (c2:∀u∈us,aK (.wr T1) u.id=true) (hq:q<64) (hf:(hp h1).fr (fF q j)) (hh:hp h2=app [.new (fF q j) x] (hp h1)) (hd:∀c,o.op≠.defer c)
  (k:∀S2 g w a,Agree (.wr T1) (hp h) S2→(app us S2).fr (fF q j)→Inv g S2 w→(∀x∈o.op.operands,V g (ρ x) (a.eval x))→sa P o S2 ((app us S2).new (fF q j) x) pv g w a):Step P o ρ h h2 (.wr (im q::T1)) pv:=
 .of (us++[.new (fF q j) x]) (by rw [iC,←c1,hh]) rfl (fun u hu=>by
  rcases zX.1 hu with hu | hu
  ·exact fe (fun i hi=>.tail _ hi) (c2 u hu)
  ·rcases zF.1 hu with rfl;exact cg (r:=q) (j:=j) hq (.head _)) (fun S2 hA g w a next Q hI hv K'=>by
  have nQ:(app us S2).fr (fF q j):=by
   have:=Agree.app us hA
   rw [←c1] at this
   exact (this (fF q j) (cg hq (.head _))).2.2 hf
  have e:=iC us [.new (fF q j) x] S2
  rw [e] at K'
  exact k S2 g w a (hA.mono fun i hi=>.tail _ hi) nQ hI hv next Q K') hd
theorem Ht {S:Hp} {T:TypeId} {x:Operand} {qs:List A} {q:Nat} {g:G} {w:World} {a:Act} (ho:o.op = .box T x) (hI:Inv g S w) (e2:Vs g qs (a.eval x).cells.toList) (hf:S.fr q):sa P o S (S.new q (.cells qs)) (.ptr q 0) g w a:=by
 intro next Q K
 obtain ⟨h1,h2⟩:=hI.lQ hf (cs:=qs) (vs:=(a.eval x).cells) T (by have:=e2.1;simp at this ⊢;omega) e2.all
 unfold Oper.wp
 simp only [execOp,ho,Instr.box,Sem.run_bind,Result.andThen_ok,Sem.run_pure,newVar,newRow,run_newObj]
 exact K _ _ _ (.ptr _ _ w.heap.size _ ct) h1 h2
theorem Hr {hm:List (Nat×Nat)} {T:Nat} {x:Operand} (ho:o.op = .box T x) (hr:LJ E hm T (ρ x) h K=some r):Out P o ρ h K r:=by
 have hd:∀c,o.op≠.defer c:=by rw [ho];intro c e;cases e
 unfold LJ at hr
 split at hr
 ·rename_i q _
  split at hr
  ·rename_i e ps ht rR
   split at hr
   ·rename_i t wL
    split at hr
    ·rename_i tq h1 T1 hf
     split at hr
     ·rename_i y hy
      obtain ⟨us,c1,c2,c3⟩:=oD _ _ _ _ _ _ _ hf
      obtain ⟨h',j,k1,hq,nQ,hh⟩:=vf hr
      refine ⟨_,_,_,k1,Step.BP (pv:=.ptr (fF q j) 0) (.Xd c1 c2 hq nQ hh hd (fun S2 g w a hA hf hI hv=>?_)) (fun g v hv=>?_)⟩
      ·obtain ⟨g1,q1,q2,q3⟩:=c3 g S2 w _ hI hA ((hv x (by simp [ho,Op.operands])).cells rR)
       refine sa.pre ?_ q2
       exact Ht ho q1 ((jr t tq y hy).2 _ q3) hf
      ·cases hv with
       | ptr _ _ b s h0=>exact .tp (.eK q j) [] b s h0 trivial
     ·cases hr
    ·cases hr
   ·cases hr
  ·cases hr
 ·exact Es ho hr
end
end
section
variable {P:Program} {E:Env} {o:Oper} {ρ:Operand→A} {h:H} {β:Type} {K:A→H→Fp→Option β} {r:β}
def Yr (E:Env) (T f:Nat) (px:A) (h:H) (K:A→H→Fp→Option β):Option β:=match px with
 | .agg cs=>match cB E.dR T with
  | some ⟨.struct fs,_,_,_,_,_,_⟩=>match fs[f]? with
   | some fd=>match cB E.dR fd.type with
    | some e=>bif jK e.d then K (.agg ((cs.drop fd.offset).take e.size)) h .no else (match (cs.drop fd.offset).take e.size with
     | [p]=>B1 p (fun v=>K v h .no)
     | _=>none)
    | none=>none
   | none=>none
  | _=>none
 | _=>none
theorem V.Uv {g:G} {cs:List A} {u:Value} (h:V g (.agg cs) u):∃vs,u = .agg vs∧Vs g cs vs.toList:=by
 cases h with
 | agg _ vs hl h1 hh=>
  refine ⟨vs,rfl,by simpa using hl,fun j c x a b=>?_⟩
  have b':vs[j]?=some x:=by simpa using b
  exact ⟨hh j c x a b',h1 x (zG b)⟩
theorem K5 (hE:b0 P E) {T f:Nat} {x:Operand} (ho:o.op = .field T x f) (hr:Yr E T f (ρ x) h K=some r):Out P o ρ h K r:=by
 have hd:∀c,o.op≠.defer c:=by rw [ho];intro c e;cases e
 unfold Yr at hr
 split at hr
 ·rename_i cs hx
  split at hr
  ·rename_i fs _ _ _ _ t _ ht
   split at hr
   ·rename_i fd hf
    split at hr
    ·rename_i e he
     have key:∀{S2:Hp} {v:A},(∀g xs,Vs g ((cs.drop fd.offset).take e.size) xs→∃u,valOf e.d xs u∧V g v u)→fb P o ρ S2 S2 v:=fun {S2 v} hk=>.value fun g w a _ hv=>by
      have e1:=hv x (by simp [ho,Op.operands])
      rw [hx] at e1
      obtain ⟨vs,e2,e3⟩:=e1.Uv
      obtain ⟨u,h1,h2⟩:=hk g _ (e3.part fd.offset e.size)
      refine ⟨u,?_,h2⟩
      simp only [execOp,ho,e2,Sem.run_bind,Instr.field,run_underlying (hE.dR _ _ ht).u,Result.andThen_ok,hf,asAgg,Sem.run_pure,n6 (hE.dR _ _ he) h1 w]
     cases ha:jK e.d with
     | true=>
      rw [ha] at hr
      refine .pure hr (fun S2=>key fun g xs xo=>⟨.agg xs.toArray,by simp [valOf,ha],?_⟩) hd
      exact .agg _ _ (by simpa using xo.1) (fun v hm=>by
       obtain ⟨j,hj⟩:=List.getElem?_of_mem hm
       simp only [List.toList_toArray] at hj
       have eY:j<((cs.drop fd.offset).take e.size).length:=by
        have:=(zB.1 hj).1;have:=xo.1;omega
       exact (xo.2 j _ v (zD eY) hj).2) (fun i c y h1 h2=>(xo.2 i c y h1 (by simpa using h2)).1)
     | false=>
      rw [ha] at hr
      simp only [cond_false] at hr
      split at hr
      ·rename_i p hp
       refine .sp hr (.pure (fun S2=>key fun g xs xo=>?_) hd)
       rw [hp] at xo
       obtain ⟨z,e1,e2⟩:=xo.single
       exact ⟨z,by simp [valOf,ha,e1],e2⟩
      ·cases hr
    ·cases hr
   ·cases hr
  ·cases hr
 ·cases hr
def isNil (py:A):Bool:=match py with
 | .v (.slice none 0 0)=>true
 | _=>false
theorem Dj {py:A} (h:isNil py=true):py = .v (.slice none 0 0):=by
 unfold isNil at h
 split at h
 ·rfl
 ·cases h
def D4 (E:Env) (op:BinOp) (T:Nat) (X:Ref) (z:Nat) (h:H) (K:A→H→Fp→Option β):Option β:=bif isEq op then (match cB E.dR T with
  | some e=>match e.d with
   | .slice _=>jt h X (fun t l=>bif Nat.beq z t.size && Nat.blt 0 z then gd (bo 0 (len l)) (K (.v (.bool (AB op false))) h (.rd [iM X])) else none)
   | _=>none
  | none=>none) else none
def Lg (E:Env) (op:BinOp) (T:Nat) (px py:A) (h:H) (K:A→H→Fp→Option β):Option β:=match px with
 | .tw X z=>bif isNil py then D4 E op T X z h K else Ev E op T px py h K
 | .os r z o=>bif isNil py then opt o none (fun j=>D4 E op T (.eK r j) z h K) else Ev E op T px py h K
 | _=>Ev E op T px py h K
theorem Gc {S:Hp} {op:BinOp} {T T' E:TypeId} {x y:Operand} (ho:o.op = .binOp op T x y T') (hT:P.underlying T=some (.slice E)) (nE:op = .eql∨op = .neq)
  (hy:ρ y = .v (.slice none 0 0)) (hx:∀g w v,Inv g S w→V g (ρ x) v→∃a n c,v = .slice (some a) n c):fb P o ρ S S (.v (.bool (if op = .eql then false else !false))):=
 .value fun g w a hI hv=>by
  have e2:=hv y (by simp [ho,Op.operands])
  rw [hy] at e2
  have e2:=e2.gx
  obtain ⟨A,n,c,h1⟩:=hx g w _ hI (hv x (by simp [ho,Op.operands]))
  have eX:=yh (P:=P) w hT (some A) n c
  refine ⟨.bool (if op = .eql then false else !false),?_,.v _⟩
  have kb:(eqGuard op T x y (.slice (some A) n c) (.slice none 0 0)).run P w = .ok () w:=by
   rcases nE with rfl | rfl<;>rfl
  rcases nE with rfl | rfl
  ·have hb:(binOp .eql T (.slice (some A) n c) (.slice none 0 0)).run P w = .ok (.bool false) w:=by
    simp only [binOp];simp [Op.equal,Op.maxDepth,eX]
   simp only [execOp,ho,h1,e2,Sem.run_bind,kb,Result.andThen_ok,if_true,hb,Sem.run_pure]
  ·have hb:(binOp .neq T (.slice (some A) n c) (.slice none 0 0)).run P w = .ok (.bool (!false)) w:=by
    simp only [binOp];simp [Op.equal,Op.maxDepth,eX]
   simp only [execOp,ho,h1,e2,Sem.run_bind,kb,Result.andThen_ok,hb,Sem.run_pure]
   rfl
theorem yX (hE:b0 P E) {op:BinOp} {T T':TypeId} {x y:Operand} {X:Ref} {z:Nat} (ho:o.op = .binOp op T x y T') (hn:isNil (ρ y)=true) (hx:∀g v,V g (ρ x) v→V g (.tw X z) v) (hr:D4 E op T X z h K=some r):Out P o ρ h K r:=by
 have hd:∀c,o.op≠.defer c:=by rw [ho];intro c e;cases e
 have hy:=Dj hn
 unfold D4 at hr
 obtain ⟨hq,hr⟩:=aj hr
 split at hr
 ·rename_i e ht
  split at hr
  ·rename_i el BF
   obtain ⟨t,l,hr,hX,fc⟩:=eV hr
   obtain ⟨hz,hr⟩:=aj hr
   simp only [zC] at hz
   have Rq:=beq_eq hz.1
   have h0:=bf hz.2
   obtain ⟨hl,hr⟩:=bE hr
   have hl:0<l.length:=hl
   refine .read _ hr (fun S2 hA=>?_) hd
   have eg:=(hA _ (bL hX (.head _))).1.trans fc
   rw [oe _ hq]
   refine Gc ho (by rw [(hE.dR _ _ ht).u,BF]) (lJ hq) hy (fun g w v hI hv=>?_)
   have hv:=hx _ _ hv
   rw [Rq] at hv
   rcases hv.qm hI (by omega) eg with ⟨ad,_,rfl,rfl⟩ | ⟨b,s,cap,d,_,rfl,_⟩
   ·cases hl
   ·exact ⟨_,_,_,rfl⟩
  ·cases hr
 ·cases hr
theorem Hf (hE:b0 P E) {op:BinOp} {T T':TypeId} {x y:Operand} (ho:o.op = .binOp op T x y T') (hr:Lg E op T (ρ x) (ρ y) h K=some r):Out P o ρ h K r:=by
 unfold Lg at hr
 split at hr
 ·rename_i X z hx
  cases hn:isNil (ρ y) with
  | true=>
   rw [hn] at hr
   exact yX hE ho hn (fun g v hv=>by rwa [hx] at hv) hr
  | false=>
   rw [hn] at hr
   exact um hE ho hr
 ·rename_i ri z oo hx
  cases hn:isNil (ρ y) with
  | true=>
   rw [hn] at hr
   rcases iu (show opt oo none (fun j=>D4 E op T (.eK ri j) z h K)=some r from hr) with ⟨_,h2⟩ | ⟨j,h1,h2⟩
   ·cases h2
   ·exact yX hE ho hn (fun g v hv=>by
     rw [hx] at hv
     cases hv with
     | os _ _ _ _ _ k1=>exact k1 j h1) h2
  | false=>
   rw [hn] at hr
   exact um hE ho hr
 ·exact um hE ho hr
end
section
open Go.RowKit
section
variable {P:Program} {E:Env} {o:Oper} {ρ:Operand→A} {h:H} {β:Type} {K:A→H→Fp→Option β} {r:β}
structure sP (P:Program) (f:FuncId) (aa:List A) (h h':H) (T:Fp) (pv:A):Prop where
 out:∀i,aK T i=false→(hp h').ob i=(hp h).ob i∧((hp h').fr i↔(hp h).fr i)
 rd:∀i,wt T i=false→(hp h').ob i=(hp h).ob i∧((hp h').fr i↔(hp h).fr i)
 fn:uC P f
 ok:∀S2,Agree T (hp h) S2→PC P f aa S2 (ja T (hp h') S2) pv
def RC (P:Program) (y:A) (aa:List A) (S S':Hp) (r:A):Prop:=
 ∀g w u (vs:List Value),Inv g S w→V g y u→aa.length=vs.length→(∀(i:Nat) (p:A) (v:Value),aa[i]?=some p→vs[i]?=some v→V g p v) →
  ∃(b:Nat) (rr:Loop),u = .func (.yield b) #[] #[]∧w.heap[b]?=some (.loop rr)∧rr.params.size=vs.length ∧
   RoundIn (FR none) 0 P b rr.fn ((rr.params.zip vs.toArray).foldl (fun tmps (t,a)=>tmps.setIfInBounds t a) rr.tmps) rr.assign rr.body w (fun e w'=>∃v g',e = .returned v∧V g' r v∧Inv g' S' w'∧Ext S g w S' g' w')
structure JS (P:Program) (y:A) (aa:List A) (h h':H) (T:Fp) (pv:A):Prop where
 out:∀i,aK T i=false→(hp h').ob i=(hp h).ob i∧((hp h').fr i↔(hp h).fr i)
 rd:∀i,wt T i=false→(hp h').ob i=(hp h).ob i∧((hp h').fr i↔(hp h).fr i)
 ok:∀S2,Agree T (hp h) S2→RC P y aa S2 (ja T (hp h') S2) pv
theorem Au {y:A} {x:Operand} {xs:Array Operand} {ts:Array TypeId} {S S':Hp} {r:A} (ho:o.op = .call { callee:=.value x,args:=xs,argTypes:=ts }) (hx:ρ x=y) (h:RC P y (xs.toList.map ρ) S S' r):Bo P o ρ S S' r:=by
 intro ro g w a next Q hI hv K
 have e1:=hx▸hv x (by simp [ho,Op.operands,Call.operands])
 obtain ⟨b,rr,hu,h1,h2,h3⟩:=h g w (a.eval x) (xs.toList.map a.eval) hI e1 (by simp) (fun i p v k1 k2=>by
  simp only [zL,Option.map_eq_some_iff,Array.getElem?_toList] at k1 k2
  obtain ⟨y,hy,rfl⟩:=k1
  obtain ⟨y',xn,rfl⟩:=k2
  rw [hy] at xn
  obtain rfl:=Option.some.inj xn
  exact hv y (by simp only [ho,Op.operands,Call.operands];exact Array.mem_append.2 (.inr (Array.mem_of_getElem? hy))))
 refine ⟨fun f _=>trivial,?_⟩
 rw [Oper.semAt_eq _ _ _ (by rw [ho];intro c h;cases h)]
 have ea : #[]++Array.map a.eval xs=(xs.toList.map a.eval).toArray:=by apply Array.ext';simp
 have e:(execOp a.eval o).run P w = .ok (.round b rr.fn ((rr.params.zip (xs.toList.map a.eval).toArray).foldl (fun tmps (t,a)=>tmps.setIfInBounds t a) rr.tmps) rr.assign rr.body) w:=by
  simp only [execOp,ho,resolve,hu,Deferred.ofValue,pure_bind,invoke]
  rw [ea]
  exact run_yield h1 (by simp [h2])
 rw [e]
 refine ⟨fun h=>by simp [FR,Fence.wide] at h,RoundIn.mono (F:=FR ro) h3 ?_⟩
 rintro e w' ⟨v,g',rfl,k1,k2,k3⟩
 exact K v g' w' k1 k2 k3
structure Cx where
 call:(β:Type)→FuncId→List A→H→(A→H→Fp→Option β)→Option β
 hm:List (Nat×Nat)
 rB:(β:Type)→A→List A→H→(A→H→Fp→Option β)→Option β
structure lq (P:Program) (cx:Cx):Prop where
 call:∀(β:Type) (f:FuncId) (aa:List A) (h:H) (K:A→H→Fp→Option β) (r:β),cx.call β f aa h K=some r→∃pv h' T,K pv h' T=some r∧sP P f aa h h' T pv
 rB:∀(β:Type) (y:A) (aa:List A) (h:H) (K:A→H→Fp→Option β) (r:β),cx.rB β y aa h K=some r→∃pv h' T,K pv h' T=some r∧JS P y aa h h' T pv
def Er (cx:Cx) (px:A) (aa:List A) (h:H) (K:A→H→Fp→Option β):Option β:=match px with
 | .fn f fi ca=>cx.call β f (fi++aa++ca) h K
 | .rB _ _ _ _ _ _ _=>cx.rB β px aa h K
 | _=>none
theorem Ep {cx:Cx} (hx:lq P cx) {x:Operand} {xs:Array Operand} {ts:Array TypeId} (ho:o.op = .call { callee:=.value x,args:=xs,argTypes:=ts }) (hr:Er cx (ρ x) (xs.toList.map ρ) h K=some r):Out P o ρ h K r:=by
 have hd:∀c,o.op≠.defer c:=by rw [ho];intro c e;cases e
 unfold Er at hr
 split at hr
 ·rename_i f fi ca Dw
  obtain ⟨pv,h',T,k1,k2⟩:=hx.call β f _ h K r hr
  exact ⟨pv,h',T,k1,⟨k2.out,k2.rd,fun S2 hA=>(Ar ho k2.fn Dw (k2.ok S2 hA)).Jg hd⟩⟩
 ·rename_i Dw
  obtain ⟨pv,h',T,k1,k2⟩:=hx.rB β _ _ h K r hr
  exact ⟨pv,h',T,k1,⟨k2.out,k2.rd,fun S2 hA=>Au ho Dw (Dw▸k2.ok S2 hA)⟩⟩
 ·cases hr
def ye:Operand→Operand→Bool
 | .tmp i,.tmp j=>Nat.beq i j
 | .const (.int .i64 (.ofNat a)),.const (.int .i64 (.ofNat b))=>Nat.beq a b
 | _,_=>false
theorem uR {x y:Operand} (h:ye x y=true):x=y:=by
 unfold ye at h
 split at h
 ·rw [beq_eq h]
 ·rw [beq_eq h]
 ·cases h
def US:Operand→Operand→Bool
 | .tmp i,.tmp j=>!(Nat.beq i j)
 | .tmp _,.const _=>true
 | .const _,.tmp _=>true
 | _,_=>false
theorem CX {x y:Operand} (h:US x y=true):y≠x:=by
 rintro rfl
 cases y<;>simp [US] at h
def uS:Option Operand→Option Operand→Bool
 | some x,some y=>ye x y
 | _,_=>false
theorem B_ {x y:Option Operand} (h:uS x y=true):x=y:=by
 unfold uS at h
 split at h
 ·rw [uR h]
 ·cases h
def LN (E:Env) (b:Builtin) (xs:List Operand) (ts:List TypeId) (ρ:Operand→A) (h:H) (K:A→H→Fp→Option β):Option β:=match b,xs,ts with
 | .append,[x,y],[T,T']=>bif Nat.beq T T' then LQ E T (ρ x) (ρ y) h K else none
 | .len,[x],[T]=>KA E T (ρ x) h K
 | .min,[x,y],_=>Mc false (ρ x) (ρ y) h K
 | .max,[x,y],_=>Mc true (ρ x) (ρ y) h K
 | .copy,[x,y],[T,_]=>Ej E T (ρ x) (ρ y) h K
 | .clear,[x],[T]=>LD E T (ρ x) h K
 | .delete,[x,y],T::_=>C2 E T (ρ x) (ρ y) h K
 | _,_,_=>none
theorem Hu (hE:b0 P E) {b:Builtin} {xs:Array Operand} {ts:Array TypeId} (ho:o.op = .call { callee:=.builtin b,args:=xs,argTypes:=ts }) (hr:LN E b xs.toList ts.toList ρ h K=some r):Out P o ρ h K r:=by
 obtain ⟨xs⟩:=xs
 obtain ⟨ts⟩:=ts
 simp only at hr
 unfold LN at hr
 split at hr
 ·obtain ⟨hT,hk⟩:=aj hr
  clear hr
  obtain rfl:=beq_eq hT
  exact Hy hE ho hk
 ·exact Gy hE ho hr
 ·exact Gs ho hr
 ·exact Gu ho hr
 ·exact Ei hE ho hr
 ·exact Ho hE ho hr
 ·exact C1 hE ho rfl hr
 ·cases hr
theorem Bo.aaA {P:Program} {Q4:Op} {ρ:Operand→A} {S S':Hp} {v:A} (hd:∀c,o.op≠.defer c) (m0:∀c,Q4≠.defer c) (hs:∀x∈Q4.operands,x∈o.op.operands) (he:∀(g:G) (a:Act),(∀x∈o.op.operands,V g (ρ x) (a.eval x))→execOp a.eval o=execOp a.eval { o with op:=Q4 }) (h:Bo P { o with op:=Q4 } ρ S S' v):Bo P o ρ S S' v:=by
 intro r g w a next Q hI hv K
 have h1:=h r g w a next Q hI (fun x hx=>hv x (hs x hx)) K
 refine ⟨fun f _=>trivial,?_⟩
 have h2:=h1.2
 rw [Oper.semAt_eq _ _ _ m0] at h2
 rw [Oper.semAt_eq _ _ _ hd,he g a hv]
 exact h2
def KF (E:Env) (T:Nat) (X:Ref) (z:Nat) (lo hi mx:Option A) (h:H) (K:A→H→Fp→Option β):Option β:=match cB E.dR T with
 | some ⟨.slice el,_,_,_,_,_,_⟩=>match cB E.dR el with
  | some e=>jt h X (fun t x=>bif Nat.beq z e.size && Nat.beq z t.size && Nat.blt 0 z then Bj lo 0 (fun l=>Bj hi 0 (fun n=>Bj mx 0 (fun m=>gd (bt l n) (gd (bt n m) (gd (bt m (len x)) (K .cL h (.rd [iM X]))))))) else none)
  | none=>none
 | _=>none
theorem GD (hE:b0 P E) {T:Nat} {X:Ref} {z:Nat} {x lo hi mx:Operand} (ho:o.op = .slice T x (some lo) (some hi) (some mx)) (hx:ρ x = .tw X z) (hr:KF E T X z (some (ρ lo)) (some (ρ hi)) (some (ρ mx)) h K=some r):Out P o ρ h K r:=by
 have hd:∀c,o.op≠.defer c:=by rw [ho];intro c e;cases e
 unfold KF at hr
 split at hr
 ·rename_i el _ _ _ _ _ _ ht
  have hT:=(hE.dR _ _ ht).u
  split at hr
  ·rename_i e he
   have hz:=(hE.dR _ _ he).ti.size
   obtain ⟨t,x',hr,hX,fc⟩:=eV hr
   obtain ⟨hq,hr⟩:=aj hr
   simp only [zC] at hq
   have Vg:=beq_eq hq.1.1
   have Dt:=beq_eq hq.1.2
   have h0:=bf hq.2
   obtain ⟨l,hr,tU⟩:=kg (x:=some lo) hr
   obtain ⟨n,hr,tV⟩:=kg (x:=some hi) hr
   obtain ⟨m,hr,Vj⟩:=kg (x:=some mx) hr
   obtain ⟨h1,hr⟩:=bE hr
   obtain ⟨h2,hr⟩:=bE hr
   obtain ⟨h3,hr⟩:=bE hr
   have h1:l≤n:=h1
   have h2:n≤m:=h2
   have h3:m≤x'.length:=h3
   refine .read [iM X] hr (fun S2 hA=>qJ ho hT hz tU tV Vj h1 h2 (fun g w v hI hv=>?_)) hd
   have eg:=(hA _ (bL hX (.head _))).1.trans fc
   rw [hx,Dt] at hv
   obtain ⟨ad,cap,k1,k2,_,_⟩:=hv.IC (lo:=l) (hi:=n) hI (by omega) eg h1 (by omega)
   exact ⟨ad,_,cap,k1,by omega,.cL _⟩
  ·cases hr
 ·cases hr
def Rp:A→Bool
 | .tw _ _=>true
 | _=>false
def J5 (E:Env) (T:Nat) (px:A) (lo hi mx:Option A) (same:Bool) (h:H) (K:A→H→Fp→Option β):Option β:=bif same then B4 E T px lo hi mx true h K else bif Rp px && lo.isSome && mx.isSome && hi.isSome then (match px with
 | .tw X z=>KF E T X z lo hi mx h K
 | _=>none) else (match mx,hi with
 | some (.v (.int k m)),some (.v (.int k' n))=>if k=k' then gd (GH m n) (B4 E T px lo hi hi true h K) else none
 | mx,hi=>B4 E T px lo hi mx false h K)
theorem FC (hE:b0 P E) {T:Nat} {x:Operand} {lo hi mx:Option Operand} (ho:o.op = .slice T x lo hi mx) (hr:J5 E T (ρ x) (lo.map ρ) (hi.map ρ) (mx.map ρ) (uS mx hi) h K=some r):Out P o ρ h K r:=by
 unfold J5 at hr
 cases hb:uS mx hi with
 | true=>rw [hb] at hr;exact sZ hE ho (fun _=>B_ hb) hr
 | false=>
  rw [hb] at hr
  simp only [cond_false] at hr
  cases ht:(Rp (ρ x) && (lo.map ρ).isSome && (mx.map ρ).isSome && (hi.map ρ).isSome) with
  | true=>
   rw [ht] at hr
   simp only [cond_true] at hr
   simp only [zC] at ht
   obtain ⟨lo',rfl⟩:=isSome_map ht.1.1.2
   obtain ⟨mx',rfl⟩:=isSome_map ht.1.2
   obtain ⟨Jy,rfl⟩:=isSome_map ht.2
   split at hr
   ·rename_i X z hx
    exact GD hE ho hx hr
   ·cases hr
  | false=>
  rw [ht] at hr
  simp only [cond_false] at hr
  split at hr
  ·rename_i k m k' n hm hn
   split at hr
   ·rename_i hk
    subst hk
    obtain ⟨he,KO⟩:=bE hr
    clear hr
    have he:m=n:=he
    subst he
    cases hi with
    | none=>cases hn
    | some hi=>
    cases mx with
    | none=>cases hm
    | some mx=>
    have hn:ρ hi = .v (.int k m):=Option.some.inj hn
    have hm:ρ mx = .v (.int k m):=Option.some.inj hm
    obtain ⟨pv,h',T',k1,k2⟩:=sZ (o:={ o with op:=.slice T x lo (some hi) (some hi) }) hE rfl (fun _=>rfl) KO
    refine ⟨pv,h',T',k1,k2.out,k2.rd,fun S2 hA=>Bo.aaA (Q4:=.slice T x lo (some hi) (some hi)) (by rw [ho];intro c e;cases e) (fun c e=>by cases e) (fun y hy=>?_) (fun g a hv=>?_) (k2.ok S2 hA)⟩
    ·rw [ho]
     simp only [Op.operands,Array.mem_append] at hy ⊢
     rcases hy with (hy | hy) | hy
     ·exact .inl (.inl hy)
     ·exact .inl (.inr hy)
     ·exact .inl (.inr hy)
    ·have e1:=hv mx (by rw [ho];simp [Op.operands])
     have e2:=hv hi (by rw [ho];simp [Op.operands])
     rw [hm] at e1
     rw [hn] at e2
     have e3:=e1.gx.trans e2.gx.symm
     simp only [execOp,ho,Option.map_some,e3]
   ·cases hr
  ·exact sZ hE ho (fun h=>by cases h) hr
def Xb (E:Env) (cx:Cx) (op:Op) (ρ:Operand→A) (h:H) (K:A→H→Fp→Option β):Option β:=match op with
 | .move x=>mvK (ρ x) h K
 | .assign x=>mvK (ρ x) h K
 | .pick c x y=>CD (ρ c) (ρ x) (ρ y) h K
 | .extract x i=>Lf (ρ x) i h K
 | .binOp op T x y _=>Lg E op T (ρ x) (ρ y) h K
 | .unOp op _ x=>VF op (ρ x) h K
 | .convert s d x=>Z5 E s d (ρ x) h K
 | .nilCheck x=>Q8 (ρ x) h K
 | .fieldAddr T x f=>K9 E T f (ρ x) h K
 | .field T x f=>Yr E T f (ρ x) h K
 | .indexAddr T x y=>Xn E T (ρ x) y (ρ y) h K
 | .load T x=>KD E T (ρ x) h K
 | .store T x y=>Wq E T (ρ x) (ρ y) h K
 | .alloc T=>LR E cx.hm T h K
 | .box T x=>LJ E cx.hm T (ρ x) h K
 | .build T ps=>LO E T ρ ps.toList h K
 | .buildSlice T n ps=>LK E T n ρ ps.toList h K
 | .makeSlice T x y=>Xf E T (ye x y) (ρ x) h K
 | .slice T x lo hi mx=>J5 E T (ρ x) (lo.map ρ) (hi.map ρ) (mx.map ρ) (uS mx hi) h K
 | .makeFunc (.func f) fi ca=>Rb f (fi.toList.map ρ) (ca.toList.map ρ) h K
 | .makeMap _ none=>Ra h K
 | .lookup T x y ok=>Kz E T ok (ρ x) (ρ y) h K
 | .mapUpdate T x y z=>yw E T false (US y z) (ρ x) (ρ y) (ρ z) h K
 | .insert T x y z=>yw E T true (US y z) (ρ x) (ρ y) (ρ z) h K
 | .call c=>match c.callee with
  | .value x=>Er cx (ρ x) (c.args.toList.map ρ) h K
  | .builtin b=>LN E b c.args.toList c.argTypes.toList ρ h K
  | _=>none
 | _=>none
theorem Kt (hE:b0 P E) {cx:Cx} (hx:lq P cx) (hr:Xb E cx o.op ρ h K=some r):Out P o ρ h K r:=by
 generalize ho:o.op=op at hr
 have nd:∀{op:Op},o.op=op→(∀c,op≠.defer c)→∀c,o.op≠.defer c:=fun e k=>by rw [e];exact k
 unfold Xb at hr
 split at hr
 ·exact .pure hr (fun S2=>vm ho) (nd ho (fun c e=>by cases e))
 ·exact .pure hr (fun S2=>xb ho) (nd ho (fun c e=>by cases e))
 ·exact CC ho hr
 ·exact He ho hr
 ·exact Hf hE ho hr
 ·exact J0 ho hr
 ·exact Ls hE ho hr
 ·exact Gp ho hr
 ·exact G6 hE ho hr
 ·exact K5 hE ho hr
 ·exact KG hE ho hr
 ·exact KB hE ho hr
 ·exact J4 hE ho hr
 ·exact HB hE ho hr
 ·exact Hr ho hr
 ·exact Hv hE ho hr
 ·exact Hs hE ho hr
 ·exact Kw hE ho uR hr
 ·exact FC hE ho hr
 ·exact Gw ho hr
 ·exact Gv ho hr
 ·exact Gx hE ho hr
 ·exact vw hE CX (.inl ⟨rfl,ho⟩) hr
 ·exact vw hE CX (.inr ⟨rfl,ho⟩) hr
 ·rename_i c
  obtain ⟨cal,xs,ts⟩:=c
  simp only at hr
  split at hr
  ·exact Ep hx ho hr
  ·exact Hu hE ho hr
  ·cases hr
 ·cases hr
end
end
section
open Go.RowKit
def Fp.cat (T U:Fp):Fp:=⟨T.all || U.all,T.rs++U.rs,T.w || U.w,T.ws++U.ws⟩
theorem iL (T U:Fp) (i:Nat):aK (T.cat U) i=(aK T i || aK U i):=by
 unfold aK Fp.cat
 simp only [List.any_append]
 cases T.all<;>cases U.all<;>cases T.rs.any (Nat.beq (res i))<;>cases U.rs.any (Nat.beq (res i))<;>rfl
theorem qi {T U:Fp} {i:Nat} (h:wt (T.cat U) i=false):wt T i=false∧wt U i=false:=by
 have h:((T.w || U.w) && (T.ws++U.ws).any (Nat.beq (res i)))=false:=h
 show (T.w && T.ws.any (Nat.beq (res i)))=false∧(U.w && U.ws.any (Nat.beq (res i)))=false
 rw [List.any_append] at h
 generalize T.ws.any (Nat.beq (res i))=a at h ⊢
 generalize U.ws.any (Nat.beq (res i))=b at h ⊢
 generalize T.w=c at h ⊢
 generalize U.w=d at h ⊢
 revert h
 cases a<;>cases b<;>cases c<;>cases d<;>decide
theorem Fp.jS (T U V:Fp):(T.cat U).cat V=T.cat (U.cat V):=by
 unfold Fp.cat
 simp [Bool.or_assoc]
theorem Fp.o8 (T:Fp):Fp.no.cat T=T:=by cases T;rfl
theorem Fp.rk (T:Fp):T.cat .no=T:=by cases T;simp [Fp.cat,Fp.no]
structure nK (h h':H) (T:Fp):Prop where
 out:∀i,aK T i=false→(hp h').ob i=(hp h).ob i∧((hp h').fr i↔(hp h).fr i)
 rd:∀i,wt T i=false→(hp h').ob i=(hp h).ob i∧((hp h').fr i↔(hp h).fr i)
theorem nK.refl (h:H):nK h h .no:=⟨fun _ _=>⟨rfl,Iff.rfl⟩,fun _ _=>⟨rfl,Iff.rfl⟩⟩
theorem nK.trans {h h1 h2:H} {T U:Fp} (a:nK h h1 T) (b:nK h1 h2 U):nK h h2 (T.cat U) where
 out:=fun i hi=>by
  rw [iL,Bool.or_eq_false_iff] at hi
  have e1:=a.out i hi.1
  have e2:=b.out i hi.2
  exact ⟨e2.1.trans e1.1,e2.2.trans e1.2⟩
 rd:=fun i hi=>by
  obtain ⟨h1,h2⟩:=qi hi
  have e1:=a.rd i h1
  have e2:=b.rd i h2
  exact ⟨e2.1.trans e1.1,e2.2.trans e1.2⟩
theorem Agree.left {T U:Fp} {S S2:Hp} (h:Agree (T.cat U) S S2):Agree T S S2:=fun i hi=>h i (by rw [iL,hi];rfl)
theorem Agree.right {h h1:H} {T U:Fp} {S2:Hp} (f:nK h h1 T) (k:Agree (T.cat U) (hp h) S2):Agree U (hp h1) (ja T (hp h1) S2):=fun i hi=>by
 show (if aK T i=true then (hp h1).ob i else S2.ob i)=(hp h1).ob i∧((if aK T i=true then (hp h1).fr i else S2.fr i)↔(hp h1).fr i)
 cases ht:aK T i with
 | true=>exact ⟨if_pos rfl,by rw [if_pos rfl]⟩
 | false=>
  have e:=f.out i ht
  have k:=k i (by rw [iL,hi];simp)
  rw [if_neg (by simp),if_neg (by simp)]
  exact ⟨k.1.trans e.1.symm,k.2.trans e.2.symm⟩
theorem g4 {h1 h2:H} {T U:Fp} {S2:Hp} (f:nK h1 h2 U):ja U (hp h2) (ja T (hp h1) S2)=ja (T.cat U) (hp h2) S2:=by
 refine Hp.ext' (fun i=>?_) (fun i=>?_)
 ·show (if aK U i=true then (hp h2).ob i else (if aK T i=true then (hp h1).ob i else S2.ob i))=(if aK (T.cat U) i=true then (hp h2).ob i else S2.ob i)
  rw [iL]
  cases hu:aK U i with
  | true=>simp
  | false=>
   cases ht:aK T i with
   | true=>simp [(f.out i hu).1]
   | false=>simp
 ·show (if aK U i=true then (hp h2).fr i else (if aK T i=true then (hp h1).fr i else S2.fr i))↔(if aK (T.cat U) i=true then (hp h2).fr i else S2.fr i)
  rw [iL]
  cases hu:aK U i with
  | true=>simp
  | false=>
   cases ht:aK T i with
   | true=>simp [(f.out i hu).2]
   | false=>simp
theorem p_ {h h':H} {T:Fp} (f:nK h h' T):ja T (hp h') (hp h)=hp h':=Hp.ext' (fun i=>by
 show (if aK T i=true then _ else _)=_
 split
 ·rfl
 ·rename_i hi;exact (f.out i (by simpa using hi)).1.symm) (fun i=>by
 show (if aK T i=true then _ else _)↔_
 split
 ·exact Iff.rfl
 ·rename_i hi;exact (f.out i (by simpa using hi)).2.symm)
theorem qI (S S2:Hp):ja .no S S2=S2:=Hp.ext' (fun i=>rfl) (fun i=>Iff.rfl)
def fN (n:Nat) (F:Tr A) (ds:List Nat) (S:Hp):St:=⟨bl F.get,n,ds,S⟩
def yr (n:Nat) (F:Tr A):Operand→A
 | .tmp i=>bif Nat.blt i n then bl F.get i else .cL
 | .const v=>.v v
 | .global _=>.cL
 | .func f=>.fn f [] []
theorem xf {a b:Nat} (h:a<b):Nat.blt a b=true:=by simpa using h
theorem tD {a b:Nat} (h:¬a<b):Nat.blt a b=false:=by
 cases hx:Nat.blt a b with
 | false=>rfl
 | true=>exact absurd (bf hx) h
theorem o7 (n:Nat) (F:Tr A) (ds:List Nat) (S:Hp):yr n F=(fN n F ds S).uH 0:=by
 funext x
 cases x with
 | tmp i=>
  show (bif Nat.blt i n then bl F.get i else .cL)=(if i<n then bl F.get i else .cL)
  by_cases h:i<n
  ·rw [if_pos h,xf h];rfl
  ·rw [if_neg h,tD h];rfl
 | _=>rfl
def ZO {β:Type} (v:Value) (k:Value→β):β:=match v with
 | .int a n=>k (.int a n)
 | .bool b=>k (.bool b)
 | v=>k v
theorem Lc {β:Type} (v:Value) (k:Value→β):ZO v k=k v:=by unfold ZO;split<;>rfl
def Vu {β:Type} (p:A) (k:A→β):β:=match p with
 | .v x=>ZO x (fun x=>k (.v x))
 | .ptr o off=>k (.ptr o off)
 | .tp x π=>k (.tp x π)
 | .tw x z=>k (.tw x z)
 | .tl t f l=>k (.tl t f l)
 | .op r o=>k (.op r o)
 | p=>k p
theorem D2 {β:Type} (p:A) (k:A→β):Vu p k=k p:=by unfold Vu;split<;>first | exact Lc _ _ | rfl
def Ld {β:Type}:List A→(List A→β)→β
 | [],k=>k []
 | c::cs,k=>Vu c (fun c=>Ld cs (fun cs=>k (c::cs)))
theorem q9 {β:Type}:∀(l:List A) (k:List A→β),Ld l k=k l
 | [],_=>rfl
 | c::cs,k=>by unfold Ld;rw [D2];exact q9 cs _
def Mr {β:Type} (p:A) (k:A→β):β:=match p with
 | .agg cs=>Ld cs (fun cs=>k (.agg cs))
 | .jD cs=>Ld cs (fun cs=>k (.jD cs))
 | .fn f fi ca=>Ld fi (fun fi=>Ld ca (fun ca=>k (.fn f fi ca)))
 | p=>Vu p k
theorem xF {β:Type} (p:A) (k:A→β):Mr p k=k p:=by
 unfold Mr
 split
 ·exact q9 _ _
 ·exact q9 _ _
 ·rw [q9,q9]
 ·exact D2 _ _
def tn {β:Type} (F:Tr A) (d:Option Nat) (p:A) (k:Tr A→Option β):Option β:=match d with
 | none=>k F
 | some d=>Mr p (fun p=>fq F d (some p) k)
def Kp (l:List Nat) (F F':Tr A):Prop:=∀i,i∉l→bl F'.get i=bl F.get i
theorem Kp.refl (l:List Nat) (F:Tr A):Kp l F F:=fun _ _=>rfl
theorem Kp.trans {l k m:List Nat} {F F1 F2:Tr A} (a:Kp l F F1) (b:Kp k F1 F2) (hl:∀i∈l,i∈m) (hk:∀i∈k,i∈m):Kp m F F2:=fun i hi=>(b i (fun h=>hi (hk i h))).trans (a i (fun h=>hi (hl i h)))
theorem Kp.mono {l m:List Nat} {F F1:Tr A} (a:Kp l F F1) (hl:∀i∈l,i∈m):Kp m F F1:=fun i hi=>a i (fun h=>hi (hl i h))
theorem Kp.of {l:List Nat} {n:Nat} {F F':Tr A} (h:∀ds S,fN n F' ds S=fN n F ds S):Kp l F F':=fun i _=>congrFun (congrArg St.t (h [] ⟨fun _=>none,fun _=>False⟩)) i
theorem pZ {β:Type} {F:Tr A} {d:Option Nat} {p:A} {k:Tr A→Option β} {r:β} (h:tn F d p k=some r):∃F',k F'=some r∧Kp d.toList F F'∧∀(n:Nat) (ds:List Nat) (S S':Hp),((fN n F ds S).put d p).to S'=fN n F' ds S':=by
 cases d with
 | none=>exact ⟨F,h,.refl _ F,fun n ds S S'=>rfl⟩
 | some d=>
  have h:Mr p (fun p=>fq F d (some p) k)=some r:=h
  rw [xF] at h
  obtain ⟨_,F',k1,k2⟩:=bz h
  refine ⟨F',k1,fun i hi=>by
   simp only [bl,k2]
   rw [if_neg (fun e=>hi (by rw [e];exact .head _))],fun n ds S S'=>?_⟩
  have e:(fun i=>if i=d then p else bl F.get i)=bl F'.get:=by
   funext i
   simp only [bl,k2]
   by_cases hi:i=d
   ·rw [if_pos hi,if_pos hi]
   ·rw [if_neg hi,if_neg hi]
  simp only [St.put,St.to,fN,e]
def G2 {β:Type} (l0:List Oper) (n:Nat) (F:Tr A) (j:Nat) (want:Bool) (k:Tr A→Bool→Option β):Option β:=match (l0[j]?).bind (·.dst) with
 | some d=>match yr n F (.tmp d) with
  | .v (.bool b)=>br b (fq F d (some (.v (.bool true))) (fun F'=>k F' want)) (fq F d (some (.v (.bool false))) (fun F'=>k F' (!want)))
  | .un=>k F false
  | _=>none
 | none=>none
theorem yq {n:Nat} {F:Tr A} {d:Nat} {p:A} (h:yr n F (.tmp d)=p) (hp:p≠.cL):bl F.get d=p:=by
 have h:(bif Nat.blt d n then bl F.get d else .cL)=p:=h
 cases hb:Nat.blt d n with
 | true=>rw [hb] at h;exact h
 | false=>rw [hb] at h;exact absurd h.symm hp
theorem yQ {β:Type} {l0:List Oper} {n:Nat} {F:Tr A} {j:Nat} {want:Bool} {k:Tr A→Bool→Option β} {r:β} (h:G2 l0 n F j want k=some r):∃F' b,k F' b=some r∧(∀ds S,fN n F' ds S=fN n F ds S)∧∀ds S,mm l0.toArray (fN n F ds S) j want=some b:=by
 unfold G2 at h
 split at h
 ·rename_i d hd
  have gv:∀(b:Bool) (ds:List Nat) (S:Hp),((match yr n F (.tmp d) with | .v (.bool b)=>some (b == want) | .un=>some false | _=>none):Option Bool)=some b→mm l0.toArray (fN n F ds S) j want=some b:=fun b ds S hb=>by
   unfold mm
   rw [List.getElem?_toArray,←o7,hd]
   exact hb
  split at h
  ·rename_i b hb
   have same:∀(F':Tr A) (c:Bool),b=c→F'.get=(fun m=>if m=d then some (.v (.bool c)) else F.get m)→∀ds S,fN n F' ds S=fN n F ds S:=fun F' c hc e ds S=>by
    have:bl F'.get=bl F.get:=by
     funext i
     by_cases hi:i=d
     ·subst hi
      rw [yq hb (by intro h;cases h),hc]
      unfold bl
      rw [e];simp
     ·unfold bl
      rw [e];simp [hi]
    unfold fN
    rw [this]
   rcases pn h with ⟨rfl,h1⟩ | ⟨rfl,h1⟩
   ·obtain ⟨_,F',k1,k2⟩:=bz h1
    exact ⟨F',want,k1,same F' true rfl k2,fun ds S=>gv _ ds S (by rw [hb];cases want<;>rfl)⟩
   ·obtain ⟨_,F',k1,k2⟩:=bz h1
    exact ⟨F',!want,k1,same F' false rfl k2,fun ds S=>gv _ ds S (by rw [hb];cases want<;>rfl)⟩
  ·rename_i hb
   exact ⟨F,false,h,fun ds S=>rfl,fun ds S=>gv _ ds S (by rw [hb])⟩
  ·cases h
 ·cases h
def Gl (p:A):A:=match p with
 | .op r (some j)=>.tp (.eK r j) []
 | .op _ none=>.v (.pointer none)
 | .os r z (some j)=>.tw (.eK r j) z
 | .os _ _ none=>.e0
 | .om r (some j)=>.mp (.eK r j)
 | .om _ none=>.v (.map none)
 | p=>p
theorem Gk {p:A} {g:G} {v:Value} (h:V g p v):V g (Gl p) v:=by
 unfold Gl
 split
 ·cases h with | op _ _ _ _ h1=>exact h1 _ rfl
 ·cases h with | op _ _ _ h0 _=>rw [h0 rfl];exact .v _
 ·cases h with | os _ _ _ _ _ h1=>exact h1 _ rfl
 ·cases h with | os _ _ _ _ h0 _=>exact h0 rfl
 ·cases h with | om _ _ _ _ h1=>exact h1 _ rfl
 ·cases h with | om _ _ _ h0 _=>rw [h0 rfl];exact .v _
 ·exact h
def opn (n:Nat) (F:Tr A) (l:List Nat) (x:Operand):A:=match x with
 | .tmp i=>bif l.any (Nat.beq i) then Gl (yr n F (.tmp i)) else yr n F (.tmp i)
 | x=>yr n F x
theorem Kq {n:Nat} {F:Tr A} {l:List Nat} {x:Operand} {g:G} {v:Value} (h:V g (yr n F x) v):V g (opn n F l x) v:=by
 cases x with
 | tmp i=>
  show V g (bif l.any (Nat.beq i) then Gl (yr n F (.tmp i)) else yr n F (.tmp i)) v
  cases l.any (Nat.beq i) with
  | true=>exact Gk h
  | false=>exact h
 | _=>exact h
def qo {β:Type}:List Nat→Tr A→(Tr A→Option β)→Option β
 | [],F,k=>k F
 | i::l,F,k=>match bl F.get i with
  | .op r v=>opt v (fq F i (some (.op r none)) (fun F=>qo l F k)) (fun j=>fq F i (some (.op r (some j))) (fun F=>qo l F k))
  | .os r z v=>opt v (fq F i (some (.os r z none)) (fun F=>qo l F k)) (fun j=>fq F i (some (.os r z (some j))) (fun F=>qo l F k))
  | .om r v=>opt v (fq F i (some (.om r none)) (fun F=>qo l F k)) (fun j=>fq F i (some (.om r (some j))) (fun F=>qo l F k))
  | _=>qo l F k
theorem sY {β:Type} {r:β}:∀(l:List Nat) (F:Tr A) (k:Tr A→Option β),qo l F k=some r→∃F',k F'=some r∧bl F'.get=bl F.get
 | [],F,k,h=>⟨F,h,rfl⟩
 | i::l,F,k,h=>by
  have same:∀(p:A),bl F.get i=p→fq F i (some p) (fun F=>qo l F k)=some r→∃F',k F'=some r∧bl F'.get=bl F.get:=fun p hp h=>by
   obtain ⟨_,F1,k1,k2⟩:=bz h
   obtain ⟨F2,k3,k4⟩:=sY l F1 k k1
   refine ⟨F2,k3,k4.trans ?_⟩
   funext m
   unfold bl at hp ⊢
   rw [k2]
   by_cases hm:m=i
   ·subst hm;simp only [if_true];exact hp.symm
   ·simp only [if_neg hm]
  unfold qo at h
  split at h
  ·rename_i q v hq
   rcases iu h with ⟨e,h1⟩ | ⟨j,e,h1⟩
   ·exact same _ (by rw [hq,e]) h1
   ·exact same _ (by rw [hq,e]) h1
  ·rename_i q z v hq
   rcases iu h with ⟨e,h1⟩ | ⟨j,e,h1⟩
   ·exact same _ (by rw [hq,e]) h1
   ·exact same _ (by rw [hq,e]) h1
  ·rename_i q v hq
   rcases iu h with ⟨e,h1⟩ | ⟨j,e,h1⟩
   ·exact same _ (by rw [hq,e]) h1
   ·exact same _ (by rw [hq,e]) h1
  ·exact sY l F k h
def rG (x:Operand):List Nat:=match x with
 | .tmp i=>[i]
 | _=>[]
def Pp (op:Op):List Nat:=match op with
 | .fieldAddr _ x _=>rG x
 | .indexAddr _ x _=>rG x
 | .load _ x=>rG x
 | .store _ x _=>rG x
 | .slice _ x _ _ _=>rG x
 | .lookup _ x _ _=>rG x
 | .mapUpdate _ x _ _=>rG x
 | .insert _ x _ _=>rG x
 | .nilCheck x=>rG x
 | .call c=>match c.callee with
  | .builtin _=>c.args.toList.flatMap rG
  | _=>[]
 | _=>[]
section
variable {P:Program} {E:Env} {cx:Cx} {n:Nat} {β:Type} {r:β}
def Kr (E:Env) (cx:Cx) (n:Nat) (op:Op) (F:Tr A) (h:H) (K:Tr A→A→H→Fp→Option β):Option β:=
 qo (Pp op) F (fun F'=>Xb E cx op (opn n F' (Pp op)) h (fun pv h' T=>K F' pv h' T))
theorem CN (hE:b0 P E) (hx:lq P cx) {o:Oper} {F:Tr A} {h:H} {K:Tr A→A→H→Fp→Option β} (hr:Kr E cx n o.op F h K=some r) :
  ∃F',(∀ds S,fN n F' ds S=fN n F ds S)∧∃pv h' T,K F' pv h' T=some r∧Step P o (yr n F') h h' T pv:=by
 obtain ⟨F',h1,h2⟩:=sY _ _ _ hr
 obtain ⟨pv,h',T,k1,k2⟩:=Kt hE hx h1
 refine ⟨F',fun ds S=>by unfold fN;rw [h2],pv,h',T,k1,k2.out,k2.rd,fun S2 hA r g w a next Q hI hv=>k2.ok S2 hA r g w a next Q hI (fun x hx=>Kq (hv x hx))⟩
def pW (l:List Oper):List Nat:=l.flatMap fun o=>o.dst.toList
def u9 (E:Env) (cx:Cx) (n:Nat) (l0:List Oper):List Oper→Tr A→H→Fp→(Tr A→H→Fp→Option β)→Option β
 | [],F,h,U,K=>K F h U
 | o::l,F,h,U,K=>match o.guard with
  | none=>Kr E cx n o.op F h (fun F pv h' T=>tn F o.dst pv (fun F'=>u9 E cx n l0 l F' h' (U.cat T) K))
  | some (j,want)=>G2 l0 n F j want (fun F b=>bif b then Kr E cx n o.op F h (fun F pv h' T=>tn F o.dst pv (fun F'=>u9 E cx n l0 l F' h' (U.cat T) K)) else tn F o.dst .un (fun F'=>u9 E cx n l0 l F' h U K))
def EN (F:Tr A) (h:H) (F':Tr A) (h':H) (n:Nat) (T:Fp) (W:(Exit→St→Prop)→St→Prop) (e:Exit) (ds jg:List Nat):Prop:=
 ∀S2,Agree T (hp h) S2→∀Q:Exit→St→Prop,Q e (fN n F' jg (ja T (hp h') S2))→W Q (fN n F ds S2)
theorem tb (hE:b0 P E) (hx:lq P cx) {l0:List Oper}:∀(l:List Oper) (F:Tr A) (h:H) (U:Fp) (K:Tr A→H→Fp→Option β),u9 E cx n l0 l F h U K=some r →
  ∃F' h' T,K F' h' (U.cat T)=some r∧Kp (pW l) F F'∧nK h h' T∧∀ro S0 g0 w0 ds,EN F h F' h' n T (fun Q st=>Cp P ro S0 g0 w0 l0.toArray Q l st) .normal ds ds
 | [],F,h,U,K,hr=>⟨F,h,.no,by rw [Fp.rk];exact hr,.refl _ F,.refl h,fun ro S0 g0 w0 ds S2 hA Q hq=>by
   rw [qI] at hq;exact FM hq⟩
 | o::l,F,h,U,K,hr=>by
  have yes:∀(F:Tr A),Kr E cx n o.op F h (fun F pv h' T=>tn F o.dst pv (fun F'=>u9 E cx n l0 l F' h' (U.cat T) K))=some r →
    (∀ds S,o.guard=none∨∃j want,o.guard=some (j,want)∧mm l0.toArray (fN n F ds S) j want=some true) →
    ∃F' h' T,K F' h' (U.cat T)=some r∧Kp (pW (o::l)) F F'∧nK h h' T∧∀ro S0 g0 w0 ds,EN F h F' h' n T (fun Q st=>Cp P ro S0 g0 w0 l0.toArray Q (o::l) st) .normal ds ds:=fun F hr hg=>by
   obtain ⟨F0,e0,pv,h1,T1,k1,k2⟩:=CN hE hx hr
   obtain ⟨F1,k3,KE,k4⟩:=pZ k1
   obtain ⟨F2,h2,T2,k5,Xi,k6,k7⟩:=tb hE hx l F1 h1 (U.cat T1) K k3
   have f1:nK h h1 T1:=⟨k2.out,k2.rd⟩
   have hg:∀ds S,o.guard=none∨∃j want,o.guard=some (j,want)∧mm l0.toArray (fN n F0 ds S) j want=some true:=fun ds S=>by rw [e0];exact hg ds S
   refine ⟨F2,h2,T1.cat T2,by rw [←Fp.jS];exact k5,(Kp.of (l:=[]) e0).trans (m:=pW (o::l)) (KE.trans Xi (fun i hi=>zQ _ hi) (fun i hi=>zS _ hi)) (fun i hi=>by cases hi) (fun i hi=>hi),f1.trans k6,fun ro S0 g0 w0 ds S2 hA Q hq=>?_⟩
   rw [←e0]
   have nE:Bo P o ((fN n F0 ds S2).uH 0) (fN n F0 ds S2).S (ja T1 (hp h1) S2) pv:=by rw [←o7];exact k2.ok S2 hA.left
   have Jt:Cp P ro S0 g0 w0 l0.toArray Q l (((fN n F0 ds S2).put o.dst pv).to (ja T1 (hp h1) S2)):=by
    rw [k4]
    refine k7 ro S0 g0 w0 ds _ (Agree.right f1 hA) Q ?_
    rw [g4 k6];exact hq
   rcases hg ds S2 with hg | ⟨j,want,hg,hv⟩
   ·exact ve 0 hg nE Jt
   ·exact tc 0 hg hv nE Jt
  unfold u9 at hr
  split at hr
  ·rename_i hg
   exact yes F hr (fun _ _=>.inl hg)
  ·rename_i j want hg
   obtain ⟨F1,b,k1,k2,k3⟩:=yQ hr
   cases b with
   | true=>
    simp only [cond_true] at k1
    obtain ⟨F',h',T,q1,qp,q2,q3⟩:=yes F1 k1 (fun ds S=>.inr ⟨j,want,hg,by rw [k2];exact k3 ds S⟩)
    refine ⟨F',h',T,q1,(Kp.of (l:=[]) k2).trans qp (fun i hi=>by cases hi) (fun i hi=>hi),q2,fun ro S0 g0 w0 ds S2 hA Q hq=>?_⟩
    rw [←k2]
    exact q3 ro S0 g0 w0 ds S2 hA Q hq
   | false=>
    simp only [cond_false] at k1
    obtain ⟨F2,k4,KE,k5⟩:=pZ k1
    obtain ⟨F',h',T,q1,qp,q2,q3⟩:=tb hE hx l F2 h U K k4
    refine ⟨F',h',T,q1,(Kp.of (l:=[]) k2).trans (m:=pW (o::l)) (KE.trans qp (fun i hi=>zQ _ hi) (fun i hi=>zS _ hi)) (fun i hi=>by cases hi) (fun i hi=>hi),q2,fun ro S0 g0 w0 ds S2 hA Q hq=>?_⟩
    have:=q3 ro S0 g0 w0 ds S2 hA Q hq
    rw [←k5 n ds S2 S2] at this
    rw [←k2]
    refine vd hg (by rw [k2];exact k3 ds S2) ?_
    rw [←te (st:=fN n F1 ds S2)]
    exact this
end
end
section
open Go.RowKit
def iH (kp:Nat→Bool) (i:Nat):Bool:=!(Nat.blt i 16777216) && kp (l6 i)
def G.kY (kp:Nat→Bool) (g:G):G:=⟨fun i=>if iH kp i=true then g.bu i else none,g.mem,g.lp⟩
theorem tK (kp:Nat→Bool) (g:G):Le (g.kY kp) g:=⟨fun o p h=>(by
 have h:(if iH kp o=true then g.bu o else none)=some p:=h
 split at h
 ·exact h
 ·cases h),fun _ _ _ h=>h,fun _ _ h=>h⟩
theorem jF {kp:Nat→Bool} {g:G} {i:Nat} (h:iH kp i=true):(g.kY kp).bu i=g.bu i:=if_pos h
theorem Db {kp:Nat→Bool} {g:G} {i:Nat} (h:iH kp i=false):(g.kY kp).bu i=none:=if_neg (by rw [h];simp)
def VK (kp:Nat→Bool) (c:A):Prop:=∀g v,V g c v→V (g.kY kp) c v
def Mz (kp:Nat→Bool):Ob→Prop
 | .cells cs=>∀c∈cs,VK kp c
 | .cT (.map es)=>∀e∈es,VK kp e.1∧VK kp e.2
 | .cT _=>False
def G.join (kp:Nat→Bool) (g0 g:G):G:=⟨fun i=>if iH kp i=true then g0.bu i else g.bu i,g0.mem,g0.lp⟩
theorem AI (kp:Nat→Bool) (g0 g:G):(G.join kp g0 g).kY kp=g0.kY kp:=by
 unfold G.join G.kY
 congr 1
 funext i
 by_cases h:iH kp i=true
 ·simp only [if_pos h]
 ·simp only [if_neg h]
theorem VK.join {kp:Nat→Bool} {c:A} (h:VK kp c) {g0 g:G} {v:Value} (hv:V g0 c v):V (G.join kp g0 g) c v:=by
 have:=h g0 v hv
 rw [←AI kp g0 g] at this
 exact this.mono (tK kp _)
def Hp.join (kp:Nat→Bool) (S0 S:Hp):Hp:=⟨fun i=>if iH kp i=true then S0.ob i else S.ob i,fun i=>if iH kp i=true then S0.fr i else S.fr i⟩
theorem mG.conv {g g':G} {w w':World} {b t:Nat} {cs:List A} (h:mG g w b t cs) (hw:w'.heap[b]?=w.heap[b]?) (hc:∀c∈cs,∀v,V g c v→V g' c v):mG g' w' b t cs:=by
 obtain ⟨cur,ty,k2,oR,k3⟩:=h
 exact ⟨cur,ty,hw.trans k2,oR,k3.1,fun j c x e1 e2=>⟨hc c (zG e1) _ (k3.2 j c x e1 e2).1,(k3.2 j c x e1 e2).2⟩⟩
theorem DS {kp:Nat→Bool} {g:G} {S S0:Hp} {w:World} (hI:Inv g S w) (h0:∀i,iH kp i=false→S0.ob i=none) (h1:∀i,iH kp i=true→S.ob i=S0.ob i∧(S.fr i↔S0.fr i)) (hk:∀i x,S0.ob i=some x→Mz kp x):Inv (g.kY kp) S0 w:=by
 have kn:∀{i x},S0.ob i=some x→iH kp i=true∧S.ob i=some x:=fun {i x} h=>by
  cases h_:iH kp i with
  | false=>rw [h0 i h_] at h;cases h
  | true=>exact ⟨rfl,(h1 i h_).1.trans h⟩
 have sub:=(tK kp g).bu
 refine ⟨fun o cs h=>?_,fun o x h=>?_,fun o h=>?_,fun o b s h=>hI.lt o b s (sub _ _ h),fun o o' x x' b s s' e1 e2 e3 e4=>hI.inj o o' x x' b s s' (kn e1).2 (kn e2).2 (sub _ _ e3) (sub _ _ e4),hI.mem,fun o b s i x e1 e2=>hI.lG o b s i x (kn e1).2 (sub _ _ e2),hI.lp⟩
 ·obtain ⟨q1,q2⟩:=kn h
  rw [jF q1]
  rcases hI.cells o cs q2 with ⟨k1,k2⟩ | ⟨b,t,k1,k2⟩
  ·exact .inl ⟨k1,k2⟩
  ·exact .inr ⟨b,t,k1,k2.conv rfl (fun c hc v hv=>hk o _ h c hc g v hv)⟩
 ·obtain ⟨q1,q2⟩:=kn h
  obtain ⟨b,s,ob,k1,k2,k3⟩:=hI.cT o x q2
  refine ⟨b,s,ob,by rw [jF q1];exact k1,k2,?_⟩
  have hx:=hk o _ h
  cases x with
  | map es=>
   obtain ⟨jx,clock,e1,e2,e3⟩:=k3
   exact ⟨jx,clock,e1,e2,fun i e q a1 a2=>let hq:=hx q (zG a2);⟨hq.1 g _ (e3 i e q a1 a2).1,hq.2 g _ (e3 i e q a1 a2).2⟩⟩
  | _=>exact hx.elim
 ·cases h_:iH kp o with
  | false=>exact Db h_
  | true=>rw [jF h_];exact hI.fresh o ((h1 o h_).2.2 h)
theorem AT {kp:Nat→Bool} {g DR:G} {S S0 wN:Hp} {w w':World} (hI:Inv g S w) (h0:∀i,iH kp i=false→S0.ob i=none) (h1:∀i,iH kp i=true→S.ob i=S0.ob i∧(S.fr i↔S0.fr i))
  (hk:∀i x,iH kp i=true→wN.ob i=some x→Mz kp x) (Fj:Inv DR wN w') (x0:Ext S0 (g.kY kp) w wN DR w') :
  Inv (G.join kp DR g) (Hp.join kp wN S) w'∧Ext S g w (Hp.join kp wN S) (G.join kp DR g) w':=by
 have ow:∀{k},pM S0 (g.kY kp) k→∃o s x,iH kp o=true∧S.ob o=some x∧g.bu o=some (some k,s):=fun {k} ⟨o,s,x,e1,e2⟩=>by
  cases h_:iH kp o with
  | false=>rw [h0 o h_] at e1;cases e1
  | true=>exact ⟨o,s,x,h_,(h1 o h_).1.trans e1,(tK kp g).bu _ _ e2⟩
 have Ko:∀{k},pM S0 (g.kY kp) k→pM S g k:=fun {k} h=>by
  obtain ⟨o,s,x,_,e1,e2⟩:=ow h
  exact ⟨o,s,x,e1,e2⟩
 have other:∀{o x b s},iH kp o=false→S.ob o=some x→g.bu o=some (some b,s)→¬pM S0 (g.kY kp) b:=fun {o x b s} hn e1 e2 h=>by
  obtain ⟨o',s',x',k1,k2,k3⟩:=ow h
  have:=hI.inj o o' x x' b s s' e1 k2 e2 k3
  rw [this,k1] at hn;cases hn
 have ji:∀{i},iH kp i=true→(G.join kp DR g).bu i=DR.bu i∧(Hp.join kp wN S).ob i=wN.ob i∧((Hp.join kp wN S).fr i↔wN.fr i):=fun {i} h=>⟨if_pos h,if_pos h,by show (if iH kp i=true then _ else _)↔_;rw [if_pos h]⟩
 have jo:∀{i},iH kp i=false→(G.join kp DR g).bu i=g.bu i∧(Hp.join kp wN S).ob i=S.ob i∧((Hp.join kp wN S).fr i↔S.fr i):=fun {i} h=>by
  have h':¬iH kp i=true:=by rw [h];simp
  exact ⟨if_neg h',if_neg h',by show (if iH kp i=true then _ else _)↔_;rw [if_neg h']⟩
 have le:Le g (G.join kp DR g):=⟨fun o p e=>(by
  cases h_:iH kp o with
  | true=>rw [(ji h_).1];exact x0.le.bu o p (by rw [jF h_];exact e)
  | false=>rw [(jo h_).1];exact e),x0.le.mem,x0.le.lp⟩
 have heap:∀{o x b s},iH kp o=false→S.ob o=some x→g.bu o=some (some b,s)→w'.heap[b]?=w.heap[b]?:=fun {o x b s} hn e1 e2=>x0.frame b (hI.lt o b s e2) (other hn e1 e2)
 refine ⟨⟨fun o cs h=>?_,fun o x h=>?_,fun o h=>?_,fun o b s h=>?_,fun o o' x x' b s s' e1 e2 e3 e4=>?_,Fj.mem,fun o b s i x e1 e2=>?_,Fj.lp⟩,⟨le,x0.os,x0.tape,x0.output,x0.size,fun k Vm DD=>x0.frame k Vm (fun h=>DD (Ko h)),fun k h=>?_,fun o p h=>?_,fun o h=>?_,fun b i x h=>?_,fun b l h=>x0.lpo b l h⟩⟩
 ·cases h_:iH kp o with
  | true=>
   rw [(ji h_).2.1] at h
   rw [(ji h_).1]
   rcases Fj.cells o cs h with ⟨k1,k2⟩ | ⟨b,t,k1,k2⟩
   ·exact .inl ⟨k1,k2⟩
   ·exact .inr ⟨b,t,k1,k2.conv rfl (fun c hc v hv=>(hk o _ h_ h c hc).join hv)⟩
  | false=>
   rw [(jo h_).2.1] at h
   rw [(jo h_).1]
   rcases hI.cells o cs h with ⟨k1,k2⟩ | ⟨b,t,k1,k2⟩
   ·exact .inl ⟨k1,k2⟩
   ·exact .inr ⟨b,t,k1,k2.conv (heap h_ h k1) (fun c hc v hv=>hv.mono le)⟩
 ·cases h_:iH kp o with
  | true=>
   rw [(ji h_).2.1] at h
   rw [(ji h_).1]
   obtain ⟨b,s,ob,k1,k2,k3⟩:=Fj.cT o x h
   refine ⟨b,s,ob,k1,k2,?_⟩
   have hx:=hk o _ h_ h
   cases x with
   | map es=>
    obtain ⟨jx,clock,e1,e2,e3⟩:=k3
    exact ⟨jx,clock,e1,e2,fun i e q a1 a2=>let hq:=hx q (zG a2);⟨hq.1.join (e3 i e q a1 a2).1,hq.2.join (e3 i e q a1 a2).2⟩⟩
   | _=>exact hx.elim
  | false=>
   rw [(jo h_).2.1] at h
   rw [(jo h_).1]
   obtain ⟨b,s,ob,k1,k2,k3⟩:=hI.cT o x h
   exact ⟨b,s,ob,k1,(heap h_ h k1).trans k2,k3.mono le⟩
 ·cases h_:iH kp o with
  | true=>rw [(ji h_).1];exact Fj.fresh o ((ji h_).2.2.1 h)
  | false=>rw [(jo h_).1];exact hI.fresh o ((jo h_).2.2.1 h)
 ·cases h_:iH kp o with
  | true=>rw [(ji h_).1] at h;exact Fj.lt o b s h
  | false=>rw [(jo h_).1] at h;exact Nat.lt_of_lt_of_le (hI.lt o b s h) x0.size
 ·have mixed:∀{o o' x x' b s s'},iH kp o=true→iH kp o'=false→wN.ob o=some x→S.ob o'=some x'→DR.bu o=some (some b,s)→g.bu o'=some (some b,s')→False:=fun {o o' x x' b s s'} h1 h2 e1 e2 e3 e4=>by
   rcases x0.own b ⟨o,s,x,e1,e3⟩ with h | h
   ·exact other h2 e2 e4 h
   ·have:=hI.lt o' b s' e4;omega
  cases h_:iH kp o with
  | true=>
   rw [(ji h_).2.1] at e1
   rw [(ji h_).1] at e3
   cases qW:iH kp o' with
   | true=>
    rw [(ji qW).2.1] at e2
    rw [(ji qW).1] at e4
    exact Fj.inj o o' x x' b s s' e1 e2 e3 e4
   | false=>
    rw [(jo qW).2.1] at e2
    rw [(jo qW).1] at e4
    exact (mixed h_ qW e1 e2 e3 e4).elim
  | false=>
   rw [(jo h_).2.1] at e1
   rw [(jo h_).1] at e3
   cases qW:iH kp o' with
   | true=>
    rw [(ji qW).2.1] at e2
    rw [(ji qW).1] at e4
    exact (mixed qW h_ e2 e1 e4 e3).elim
   | false=>
    rw [(jo qW).2.1] at e2
    rw [(jo qW).1] at e4
    exact hI.inj o o' x x' b s s' e1 e2 e3 e4
 ·cases h_:iH kp o with
  | true=>
   rw [(ji h_).2.1] at e1
   rw [(ji h_).1] at e2
   exact Fj.lG o b s i x e1 e2
  | false=>
   rw [(jo h_).2.1] at e1
   rw [(jo h_).1] at e2
   show DR.mem b i=none
   cases hm:DR.mem b i with
   | none=>rfl
   | some y=>
    rcases x0.tF b i y hm with h | h | h
    ·have:=hI.lG o b s i x e1 e2
     have h:g.mem b i=some y:=h
     rw [this] at h;cases h
    ·exact absurd h (other h_ e1 e2)
    ·have:=hI.lt o b s e2;omega
 ·obtain ⟨o,s,x,e1,e2⟩:=h
  cases h_:iH kp o with
  | true=>
   rw [(ji h_).2.1] at e1
   rw [(ji h_).1] at e2
   rcases x0.own k ⟨o,s,x,e1,e2⟩ with h | h
   ·exact .inl (Ko h)
   ·exact .inr h
  | false=>
   rw [(jo h_).2.1] at e1
   rw [(jo h_).1] at e2
   exact .inl ⟨o,s,x,e1,e2⟩
 ·cases h_:iH kp o with
  | true=>
   rw [(ji h_).1] at h
   rcases x0.JG o p h with h | ⟨h,k⟩
   ·rw [jF h_] at h;exact .inl h
   ·rw [jF h_] at h;exact .inr ⟨h,(h1 o h_).2.2 k⟩
  | false=>rw [(jo h_).1] at h;exact .inl h
 ·cases h_:iH kp o with
  | true=>exact (h1 o h_).2.2 (x0.fr o ((ji h_).2.2.1 h))
  | false=>exact (jo h_).2.2.1 h
 ·rcases x0.tF b i x h with h | h | h
  ·exact .inl h
  ·exact .inr (.inl (Ko h))
  ·exact .inr (.inr h)
end
section
open Go.RowKit
theorem PC.frame {P:Program} {f:FuncId} {kp:Nat→Bool} {aa:List A} {S S0 wN:Hp} {r:A} (h0:∀i,iH kp i=false→S0.ob i=none) (h1:∀i,iH kp i=true→S.ob i=S0.ob i∧(S.fr i↔S0.fr i)) (hk:∀i x,S0.ob i=some x→Mz kp x)
  (BE:∀i x,iH kp i=true→wN.ob i=some x→Mz kp x) (ha:∀a∈aa,VK kp a) (hr:VK kp r) (h:PC P f aa S0 wN r):PC P f aa S (Hp.join kp wN S) r:=fun g w vs hI hl hv=>by
 refine (h (g.kY kp) w vs (DS hI h0 h1 hk) hl (fun i p v e1 e2=>ha p (zG e1) g v (hv i p v e1 e2))).mono ?_
 rintro e w' ⟨v,g',rfl,k1,k2,k3⟩
 obtain ⟨q1,q2⟩:=AT hI h0 h1 BE k2 k3
 exact ⟨v,_,rfl,hr.join k1,q1,q2⟩
def pa (kp:Nat→Bool):Ty→Bool
 | .int _=>true
 | .bool=>true
 | .unit=>true
 | .pair a b=>pa kp a && pa kp b
 | .arr _ t=>pa kp t
 | .aO _=>true
 | .ptr r=>Nat.blt r 64 && kp r
 | .dF r=>Nat.blt r 64 && kp r
 | .jZ r _=>Nat.blt r 64 && kp r
 | .oP r _=>Nat.blt r 64 && kp r
 | .mp r=>Nat.blt r 64 && kp r
theorem tJ {kp:Nat→Bool} {r j:Nat} (h:r<64) (hk:kp r=true):iH kp (fF r j)=true:=by
  have h1:=nv r j
  have h2:=lB (j:=j) h
  generalize fF r j=i at h1 h2
  unfold iH
  rw [h2,hk,Bool.and_true]
  cases hx:Nat.blt i 16777216 with
  | false=>rfl
  | true=>
            have:i<16777216:=by simpa using hx
            unfold cM at h1;omega
theorem VK.v {kp:Nat→Bool} (x:Value):VK kp (.v x):=fun g v h=>by cases h;exact .v _
theorem VK.tp {kp:Nat→Bool} {r j:Nat} (h:r<64) (hk:kp r=true):VK kp (.tp (.eK r j) []):=fun g v hv=>by
 cases hv with
 | tp _ _ b s bO hp=>exact .tp _ _ b s (by rw [show (Ref.eK r j).id=fF r j from rfl,jF (tJ h hk)];exact bO) hp
theorem VK.tw {kp:Nat→Bool} {r j z:Nat} (h:r<64) (hk:kp r=true):VK kp (.tw (.eK r j) z):=fun g v hv=>by
 have e:(g.kY kp).bu (Ref.eK r j).id=g.bu (Ref.eK r j).id:=jF (tJ h hk)
 cases hv with
 | sd _ _ ad bO=>exact .sd _ _ ad (by rw [e];exact bO)
 | tw _ _ n b cap t bO hn hx hp d hd=>exact .tw _ _ n b cap t (by rw [e];exact bO) hn hx hp d hd
theorem VK.mp {kp:Nat→Bool} {r j:Nat} (h:r<64) (hk:kp r=true):VK kp (.mp (.eK r j)):=fun g v hv=>by
 cases hv with
 | mp _ b s bO=>exact .mp _ b s (by rw [show (Ref.eK r j).id=fF r j from rfl,jF (tJ h hk)];exact bO)
theorem VK.tl {kp:Nat→Bool} {t:Ty} {f:Bool} {l:List t.T}:VK kp (.tl t f l):=fun g v hv=>by
 cases hv with
 | tl _ _ _ _ hd=>exact .tl t f l v hd
theorem vS {α β:Type} {f:α→List β} {p:β→Prop} (h:∀x,∀c∈f x,p c) (l:List α):∀c∈l.flatMap f,p c:=fun c hc=>by
 obtain ⟨x,_,hx⟩:=List.mem_flatMap.1 hc
 exact h x c hx
theorem nB {kp:Nat→Bool}:∀(t:Ty) (x:t.T),pa kp t=true→∀c∈aE t x,VK kp c
 | .int k,x,_,c,hc=>by rcases zF.1 hc with rfl;exact .v _
 | .bool,x,_,c,hc=>by rcases zF.1 hc with rfl;exact .v _
 | .unit,x,_,c,hc=>by cases hc
 | .pair a b,x,h,c,hc=>by
  simp only [pa,zC] at h
  rcases zX.1 hc with hc | hc
  ·exact nB a x.1 h.1 c hc
  ·exact nB b x.2 h.2 c hc
 | .arr n t,l,h,c,hc=>vS (f:=fun i=>aE t (nth t.cP l i)) (fun i c hc=>nB t _ h c hc) _ c hc
 | .aO t,l,_,c,hc=>by rcases zF.1 hc with rfl;exact .tl
 | .ptr r,x,h,c,hc=>by
  simp only [pa,zC] at h
  rcases zF.1 hc with rfl
  intro g v hv
  cases hv with
  | op _ _ _ h0 h1=>exact .op r x v h0 (fun j e=>VK.tp (bf h.1) h.2 g v (h1 j e))
 | .dF r,j,h,c,hc=>by
  simp only [pa,zC] at h
  rcases zF.1 hc with rfl
  exact .tp (bf h.1) h.2
 | .jZ r z,x,h,c,hc=>by
  simp only [pa,zC] at h
  rcases zF.1 hc with rfl
  intro g v hv
  cases hv with
  | os _ _ _ _ h0 h1=>exact .os r z x v (fun e=>by cases h0 e with | e0 ad=>exact .e0 ad) (fun j e=>VK.tw (bf h.1) h.2 g v (h1 j e))
 | .oP r z,j,h,c,hc=>by
  simp only [pa,zC] at h
  rcases zF.1 hc with rfl
  exact .tw (bf h.1) h.2
 | .mp r,x,h,c,hc=>by
  simp only [pa,zC] at h
  rcases zF.1 hc with rfl
  intro g v hv
  cases hv with
  | om _ _ _ h0 h1=>exact .om r x v h0 (fun j e=>VK.mp (bf h.1) h.2 g v (h1 j e))
theorem VK.agg {kp:Nat→Bool} {cs:List A} (h:∀c∈cs,VK kp c):VK kp (.agg cs):=fun g v hv=>by
 cases hv with
 | agg _ vs hl h1 h2=>exact .agg cs vs hl h1 (fun i c x e1 e2=>h c (zG e1) g x (h2 i c x e1 e2))
theorem VK.jD {kp:Nat→Bool} {cs:List A} (h:∀c∈cs,VK kp c):VK kp (.jD cs):=fun g v hv=>by
 cases hv with
 | jD _ vs hl h2=>exact .jD cs vs hl (fun i c x e1 e2=>h c (zG e1) g x (h2 i c x e1 e2))
theorem VK.cL {kp:Nat→Bool}:VK kp .cL:=fun g v _=>.cL v
theorem VK.pack {kp:Nat→Bool} {a:Bool} {t:Ty} (x:t.T) (h:pa kp t=true):VK kp (cb a t x):=by
 unfold cb
 cases a with
 | true=>exact .agg (nB t x h)
 | false=>
  simp only [cond_false]
  split
  ·rename_i c hc
   exact nB t x h c (by rw [hc];exact .head _)
  ·exact .cL
def RK.pa (kp:Nat→Bool):RK→Bool
 | .box t=>Bm.pa kp t
 | .row t=>Bm.pa kp t
 | .map _ tk _ tv=>Bm.pa kp tk && Bm.pa kp tv
theorem z8 {kp:Nat→Bool} {k:RK} {c:k.T} {j:Nat} {x:Ob} (hk:k.pa kp=true) (h:dT k c j=some x):Mz kp x:=by
 cases k with
 | box t=>
  have h:(match k_ (α:=t.T) c j with | some x=>some (Ob.cells (aE t x)) | none=>none)=some x:=h
  split at h
  ·cases h;exact nB t _ hk
  ·cases h
 | row t=>
  have h:(match k_ (α:=Option (List t.T)) c j with | some (some l)=>some (Ob.cells (l.flatMap (aE t))) | _=>none)=some x:=h
  split at h
  ·cases h;exact vS (fun y c hc=>nB t y hk c hc) _
  ·cases h
 | map ka tk va tv=>
  have h:(match k_ (α:=List (tk.T×tv.T)) c j with | some es=>some (Ob.cT (.map (gh ka tk va tv es))) | none=>none)=some x:=h
  simp only [RK.pa,zC] at hk
  split at h
  ·cases h
   intro e he
   obtain ⟨y,_,rfl⟩:=List.mem_map.1 he
   exact ⟨.pack _ hk.1,.pack _ hk.2⟩
  ·cases h
end
section
open Go.RowKit
deriving instance DecidableEq for RK
def w6:List A→A
 | [p]=>p
 | ps=>.jD ps
structure dz where
 ps:List (Bool×Ty)
 rs:List (Bool×Ty)
 rg:List (Nat×RK)
 wg:List (Nat×RK)
def ki:List (Bool×Ty)→Type
 | []=>Unit
 | p::l=>p.2.T×ki l
def mE:(l:List (Bool×Ty))→ki l→List A
 | [],_=>[]
 | p::l,x=>cb p.1 p.2 x.1::mE l x.2
def rE:List (Nat×RK)→Type
 | []=>Unit
 | p::l=>p.2.T×rE l
def dC:(l:List (Nat×RK))→rE l→List Rg
 | [],_=>[]
 | p::l,x=>⟨p.1,p.2,x.1⟩::dC l x.2
def h0 (rl wl:List (Nat×RK)) (c:rE rl) (d:rE wl):H:=⟨.nil,0,dC wl d++dC rl c,[]⟩
def J1:(l:List (Bool×Ty))→List A→Option (ki l)
 | [],[]=>some ()
 | p::l,a::aa=>match kX p.1 p.2 a,J1 l aa with
  | some x,some y=>some (x,y)
  | _,_=>none
 | _,_=>none
theorem sV:∀(l:List (Bool×Ty)) (aa:List A) (x:ki l),J1 l aa=some x→aa.length=(mE l x).length∧∀(i:Nat) (a b:A),aa[i]?=some a→(mE l x)[i]?=some b→∀g v,V g a v→V g b v
 | [],[],x,_=>⟨rfl,fun i a b h=>by simp at h⟩
 | p::l,a::aa,x,h=>by
  simp only [J1] at h
  split at h
  ·rename_i y z h1 h2
   cases h
   obtain ⟨k1,k2⟩:=sV l aa z h2
   refine ⟨congrArg Nat.succ k1,fun i a' b e1 e2=>?_⟩
   cases i with
   | zero=>
    have e1:a=a':=Option.some.inj e1
    have e2:cb p.1 p.2 y=b:=Option.some.inj e2
    subst e1 e2
    exact fun g v hv=>j6 h1 hv
   | succ i=>exact k2 i a' b e1 e2
  ·cases h
 | [],_::_,_,h=>by cases h
 | _::_,[],_,h=>by cases h
def JP (a b:RK) (c:a.T):Option b.T:=if h:a=b then some (h▸c) else none
def dn (l:List (Nat×RK)) (r:Nat):Bool:=l.any fun p=>Nat.beq p.1 r
def xy:(l:List (Nat×RK))→List Rg→Option (rE l)
 | [],_=>some ()
 | p::l,rg=>match bA rg p.1,xy l rg with
  | some ⟨_,k,c⟩,some y=>match JP k p.2 c with
   | some x=>some (x,y)
   | none=>none
  | _,_=>none
theorem yi:∀{rg:List Rg} {r:Nat} {x:Rg},bA rg r=some x→x.r=r
 | y::l,r,x,h=>by
  unfold bA at h
  cases hy:Nat.beq y.r r with
  | true=>rw [hy] at h;cases h;exact beq_eq hy
  | false=>rw [hy] at h;exact yi h
theorem dW:∀(l:List (Nat×RK)) (c:rE l) (r:Nat),dn l r=false→bA (dC l c) r=none
 | [],_,_,_=>rfl
 | p::l,c,r,h=>by
  have h:(Nat.beq p.1 r || dn l r)=false:=h
  rw [Bool.or_eq_false_iff] at h
  show (bif Nat.beq p.1 r then _ else _)=_
  rw [h.1]
  exact dW l c.2 r h.2
theorem ju:∀(l:List (Nat×RK)) (c:rE l) (r:Nat),dn l r=true→∃x,bA (dC l c) r=some x
 | p::l,c,r,h=>by
  show ∃x,(bif Nat.beq p.1 r then some (⟨p.1,p.2,c.1⟩:Rg) else bA (dC l c.2) r)=some x
  cases hq:Nat.beq p.1 r with
  | true=>exact ⟨_,rfl⟩
  | false=>
   have h:(Nat.beq p.1 r || dn l r)=true:=h
   rw [hq,Bool.false_or] at h
   exact ju l c.2 r h
theorem gW:∀(l k:List Rg) (r:Nat),bA (l++k) r=match bA l r with | some x=>some x | none=>bA k r
 | [],k,r=>rfl
 | y::l,k,r=>by
  show (bif Nat.beq y.r r then some y else bA (l++k) r)=match (bif Nat.beq y.r r then some y else bA l r) with | some x=>some x | none=>bA k r
  cases hy:Nat.beq y.r r with
  | true=>rfl
  | false=>exact gW l k r
theorem la:∀(l:List (Nat×RK)) (rg:List Rg) (c:rE l),xy l rg=some c→∀r,dn l r=true→bA (dC l c) r=bA rg r∧∃x,bA rg r=some x
 | [],_,_,_,_,h=>by cases h
 | p::l,rg,c,hg,r,h=>by
  simp only [xy] at hg
  split at hg
  ·rename_i r' k c' y h1 h2
   split at hg
   ·rename_i x hx
    cases hg
    show (bif Nat.beq p.1 r then some (⟨p.1,p.2,x⟩:Rg) else bA (dC l y) r)=_∧_
    cases hp:Nat.beq p.1 r with
    | true=>
     have e:=beq_eq hp
     subst e
     have hr:=yi h1
     simp only at hr
     subst hr
     unfold JP at hx
     split at hx
     ·rename_i ek
      obtain ⟨p1,p2⟩:=p
      simp only at ek
      subst ek
      cases hx
      rw [h1]
      exact ⟨rfl,_,rfl⟩
     ·cases hx
    | false=>
     have h:(Nat.beq p.1 r || dn l r)=true:=h
     rw [hp,Bool.false_or] at h
     exact la l rg y h2 r h
   ·cases hg
  ·cases hg
def VsL (g:G) (aa:List A) (vs:List Value):Prop:=∀(i:Nat) (a:A) (v:Value),aa[i]?=some a→vs[i]?=some v→V g a v
def CvL (h h':H) (T:List Nat) (aa wM:List A):Prop:=wM.length=aa.length∧∃us,hp h'=app us (hp h)∧(∀u∈us,aK (.wr T) u.id=true) ∧
 ∀g S w (vs:List Value),Inv g S w→Agree (.wr T) (hp h) S→aa.length=vs.length→VsL g aa vs→∃g',Inv g' (app us S) w∧Ext S g w (app us S) g' w∧VsL g' wM vs
def Hc (a:Bool) (t:Ty) (p:A) (h:H):Option (A×H×List Nat):=bif a then (match p with
 | .agg cs=>match fixC 20 t cs h with
  | some (ig,h',T)=>some (.agg ig,h',T)
  | none=>none
 | _=>none) else bif xl p then none else (match p.cells with
 | some [c]=>match fixC 20 t [c] h with
  | some ([c'],h',T)=>some (c',h',T)
  | _=>none
 | _=>none)
def AW:List (Bool×Ty)→List A→H→Option (List A×H×List Nat)
 | [],[],h=>some ([],h,[])
 | p::l,a::aa,h=>match Hc p.1 p.2 a h with
  | some (a',h1,T1)=>match AW l aa h1 with
   | some (wM,h2,T2)=>some (a'::wM,h2,T1++T2)
   | none=>none
  | none=>none
 | _,_,_=>none
theorem Bg {p c:A} (ha:xl p=false) (h:p.cells=some [c]):c=p:=by
 unfold A.cells at h
 split at h
 ·cases ha
 ·rename_i x
  cases hx:x.oneCell' with
  | true=>rw [hx] at h;simp at h;exact h.symm
  | false=>rw [hx] at h;cases h
 ·cases h
 ·cases h
 ·cases h
 ·simp at h;exact h.symm
theorem yW {a:Bool} {t:Ty} {p p':A} {h h':H} {T:List Nat} (hf:Hc a t p h=some (p',h',T)):∃us,hp h'=app us (hp h)∧(∀u∈us,aK (.wr T) u.id=true)∧∀g S w (v:Value),Inv g S w→Agree (.wr T) (hp h) S→V g p v→∃g',Inv g' (app us S) w∧Ext S g w (app us S) g' w∧V g' p' v:=by
 unfold Hc at hf
 cases a with
 | true=>
  simp only [cond_true] at hf
  split at hf
  ·rename_i cs
   split at hf
   ·rename_i ig h1 T1 hc
    simp only [zI,zU] at hf
    obtain ⟨rfl,rfl,rfl⟩:=hf
    obtain ⟨us,c1,c2,c3⟩:=oD _ _ _ _ _ _ _ hc
    refine ⟨us,c1,c2,fun g S w v hI hA hv=>?_⟩
    cases hv with
    | agg _ vs hl h1 hh=>
     obtain ⟨g',q1,q2,q3⟩:=c3 g S w vs.toList hI hA ⟨by simpa using hl,fun j c x e1 e2=>⟨hh j c x e1 (by simpa using e2),h1 x (zG e2)⟩⟩
     exact ⟨g',q1,q2,by have:=q3.agg;simpa using this⟩
   ·cases hf
  ·cases hf
 | false=>
  simp only [cond_false] at hf
  obtain ⟨ha,hf⟩:=jk hf
  split at hf
  ·rename_i c hc
   split at hf
   ·rename_i c' h1 T1 GU
    simp only [zI,zU] at hf
    obtain ⟨rfl,rfl,rfl⟩:=hf
    obtain ⟨us,c1,c2,c3⟩:=oD _ _ _ _ _ _ _ GU
    obtain rfl:=Bg ha hc
    refine ⟨us,c1,c2,fun g S w v hI hA hv=>?_⟩
    obtain ⟨g',q1,q2,q3⟩:=c3 g S w [v] hI hA ⟨rfl,fun j c x e1 e2=>by
     cases j with
     | zero=>simp at e1 e2;subst e1 e2;exact ⟨hv,hv.sc1 ha hc⟩
     | succ j=>simp at e1⟩
    exact ⟨g',q1,q2,(q3.2 0 _ v rfl rfl).1⟩
   ·cases hf
  ·cases hf
theorem ue:∀{l:List (Bool×Ty)} {aa wM:List A} {h h':H} {T:List Nat},AW l aa h=some (wM,h',T)→CvL h h' T aa wM
 | [],[],wM,h,h',T,hf=>by
  simp only [AW,zI,zU] at hf
  obtain ⟨rfl,rfl,rfl⟩:=hf
  exact ⟨rfl,[],rfl,fun u hu=>(by simp at hu),fun g S w vs hI _ _ hv=>⟨g,hI,.refl S g w,hv⟩⟩
 | p::l,a::aa,wM,h,h',T,hf=>by
  simp only [AW] at hf
  split at hf
  ·rename_i a1 h1 T1 KY
   split at hf
   ·rename_i as1 h2 T2 DF
    simp only [zI,zU] at hf
    obtain ⟨rfl,rfl,rfl⟩:=hf
    obtain ⟨us,c1,c2,c3⟩:=yW KY
    obtain ⟨hl,vs2,d1,d2,d3⟩:=ue DF
    refine ⟨by simp [hl],us++vs2,by rw [iC,←c1,d1],fun u hu=>?_,fun g S w vs hI hA hlen hv=>?_⟩
    ·rcases zX.1 hu with h | h
     ·exact fe (fun i hi=>zQ _ hi) (c2 u h)
     ·exact fe (fun i hi=>zS _ hi) (d2 u h)
    ·have GZ:Agree (.wr T1) (hp h) S:=hA.mono fun i hi=>zQ _ hi
     have AP:Agree (.wr T2) (hp h1) (app us S):=by rw [c1];exact (hA.mono (fun i hi=>zS _ hi)).app us
     cases vs with
     | nil=>simp at hlen
     | cons v vs=>
      obtain ⟨g',q1,q2,q3⟩:=c3 g S w v hI GZ (hv 0 a v rfl rfl)
      obtain ⟨g2,z1,z2,z3⟩:=d3 g' _ w vs q1 AP (by simpa using hlen) (fun i a v e1 e2=>(hv (i+1) a v (by simpa using e1) (by simpa using e2)).mono q2.le)
      rw [iC]
      refine ⟨g2,z1,q2.trans z2,fun i a v e1 e2=>?_⟩
      cases i with
      | zero=>simp at e1 e2;subst e1 e2;exact q3.mono z2.le
      | succ i=>exact z3 i a v (by simpa using e1) (by simpa using e2)
   ·cases hf
  ·cases hf
 | [],_::_,_,_,_,_,hf=>by cases hf
 | _::_,[],_,_,_,_,hf=>by cases hf
def xA (l:List (Bool×Ty)) (pv:A) (h:H):Option (A×H×List Nat):=match pv with
 | .jD aa=>match AW l aa h with
  | some (wM,h',T)=>some (.jD wM,h',T)
  | none=>none
 | _=>none
def xB (l:List (Bool×Ty)) (pv:A) (h:H):Option (A×H×List Nat):=match l with
 | [p]=>Hc p.1 p.2 pv h
 | l=>xA l pv h
def Plain (sg:dz):Type:=ki sg.ps→rE sg.rg→rE sg.wg→Option (ki sg.rs×rE sg.wg)
def HN (l:List (Bool×Ty)) (pv:A):Option (ki l):=match l with
 | [p]=>J1 [p] [pv]
 | l=>match pv with
  | .jD aa=>J1 l aa
  | _=>none
def okW (l:List (Nat×RK)) (q:Nat):Bool:=Nat.beq (q%2) 0 || l.any fun p=>Nat.beq q (im p.1)
def FF (cx:Cx) (f:FuncId) (sg:dz) (aa:List A) (c:rE sg.rg) (d:rE sg.wg):Option (ki sg.rs×rE sg.wg):=cx.call (ki sg.rs×rE sg.wg) f aa (h0 sg.rg sg.wg c d) (fun pv h' T=>match xB sg.rs pv h' with
 | some (EW,h2,T2)=>bif T.ws.all (okW sg.wg) && T2.all (okW sg.wg) then (match HN sg.rs EW,xy sg.wg h2.rg with
  | some y,some d'=>some (y,d')
  | _,_=>none) else none
 | none=>none)
def J_ (cx:Cx) (f:FuncId) (sg:dz):Plain sg:=fun x c d=>FF cx f sg (mE sg.ps x) c d
def uW (l:List (Bool×Ty)) (y:ki l):A:=w6 (mE l y)
structure bG (P:Program) (f:FuncId) (sg:dz) (F:Plain sg):Prop where
 fn:∀x c d y,F x c d=some y→uC P f
 pc:∀x c d y d',F x c d=some (y,d')→∃t aU lk,PC P f (mE sg.ps x) (hp (h0 sg.rg sg.wg c d)) (hp ⟨t,aU,dC sg.wg d'++dC sg.rg c,lk⟩) (uW sg.rs y)
theorem yu {l:List (Nat×RK)} {ws:List Nat} (h:ws.all (okW l)=true) {r:Nat} (hr:dn l r=false):ws.any (Nat.beq (im r))=false:=by
 cases hx:ws.any (Nat.beq (im r)) with
 | false=>rfl
 | true=>
  obtain ⟨q,h1,h2⟩:=List.any_eq_true.1 hx
  have h3:=List.all_eq_true.1 h q h1
  obtain rfl:=beq_eq h2
  unfold okW at h3
  rw [Bool.or_eq_true] at h3
  rcases h3 with h3 | h3
  ·have:=beq_eq h3;unfold im at this;omega
  ·obtain ⟨p,p1,p2⟩:=List.any_eq_true.1 h3
   have:r=p.1:=by have:=beq_eq p2;unfold im at this;omega
   subst this
   rw [show dn l p.1=true from List.any_eq_true.2 ⟨p,p1,Nat.beq_refl _⟩] at hr
   cases hr
theorem BU {l:List (Bool×Ty)} {pv:A} {y:ki l} (h:HN l pv=some y):∀g v,V g pv v→V g (uW l y) v:=by
 have jD:∀(l:List (Bool×Ty)) (aa:List A) (y:ki l),J1 l aa=some y→∀g v,V g (.jD aa) v→V g (.jD (mE l y)) v:=fun l aa y h g v hv=>by
  obtain ⟨k1,k2⟩:=sV l aa y h
  cases hv with
  | jD _ vs hl E7=>
   refine .jD _ vs (by rw [←k1];exact hl) (fun i c x e1 e2=>?_)
   have hi:i<aa.length:=by rw [k1];exact (zB.1 e1).1
   exact k2 i _ c (zD hi) e1 g x (E7 i _ x (zD hi) e2)
 match l,y,h with
 | [p],y,h=>exact fun g v hv=>(sV [p] [pv] y h).2 0 pv _ rfl rfl g v hv
 | [],y,h=>
  intro g v hv
  cases pv with
  | jD aa=>exact jD [] aa y h g v hv
  | _=>cases h
 | p::q::l,y,h=>
  intro g v hv
  cases pv with
  | jD aa=>exact jD (p::q::l) aa y h g v hv
  | _=>cases h
theorem Agree.self {T:Fp} {S:Hp}:Agree T S S:=fun _ _=>⟨rfl,Iff.rfl⟩
theorem fp {h:H} {i:Nat} (hl:¬i<cM):(hp h).ob i=dU h.rg i∧((hp h).fr i↔f_ h.rg i):=⟨if_neg hl,by show (if i<cM then _ else _)↔_;rw [if_neg hl]⟩
theorem o5 {i:Nat} (h:¬i<16777216):res i=im (l6 i):=by
 unfold res
 rw [tD h];rfl
theorem AV {l:List (Bool×Ty)} {pv EW:A} {h h':H} {T:List Nat} (hf:xB l pv h=some (EW,h',T)):∃us,hp h'=app us (hp h)∧(∀u∈us,aK (.wr T) u.id=true)∧∀g S w (v:Value),Inv g S w→Agree (.wr T) (hp h) S→V g pv v→∃g',Inv g' (app us S) w∧Ext S g w (app us S) g' w∧V g' EW v:=by
 have jD:∀(l:List (Bool×Ty)),xA l pv h=some (EW,h',T)→∃us,hp h'=app us (hp h)∧(∀u∈us,aK (.wr T) u.id=true)∧∀g S w (v:Value),Inv g S w→Agree (.wr T) (hp h) S→V g pv v→∃g',Inv g' (app us S) w∧Ext S g w (app us S) g' w∧V g' EW v:=fun l hf=>by
  unfold xA at hf
  split at hf
  ·rename_i aa
   split at hf
   ·rename_i wM h1 T1 hc
    simp only [zI,zU] at hf
    obtain ⟨rfl,rfl,rfl⟩:=hf
    obtain ⟨hl,us,c1,c2,c3⟩:=ue hc
    refine ⟨us,c1,c2,fun g S w v hI hA hv=>?_⟩
    cases hv with
    | jD _ vs Jw hh=>
     obtain ⟨g',q1,q2,q3⟩:=c3 g S w vs.toList hI hA (by simpa using Jw) (fun i c x e1 e2=>hh i c x e1 (by simpa using e2))
     exact ⟨g',q1,q2,.jD wM vs (by rw [hl,Jw]) (fun i c x e1 e2=>q3 i c x e1 (by simpa using e2))⟩
   ·cases hf
  ·cases hf
 unfold xB at hf
 split at hf
 ·exact yW hf
 ·exact jD _ hf
theorem n9 {P:Program} {cx:Cx} (hx:lq P cx) (f:FuncId) (sg:dz):∀aa c d y d',FF cx f sg aa c d=some (y,d')→uC P f∧∃t aU lk,PC P f aa (hp (h0 sg.rg sg.wg c d)) (hp ⟨t,aU,dC sg.wg d'++dC sg.rg c,lk⟩) (uW sg.rs y):=fun aa c d y d' h=>by
 obtain ⟨pv,h',T,k1,k2⟩:=hx.call _ f _ _ _ _ h
 split at k1
 ·rename_i EW h2 T2 X9
  obtain ⟨kw,k1⟩:=aj k1
  rw [zC] at kw
  split at k1
  ·rename_i y' d'' h1 Mn
   cases k1
   refine ⟨k2.fn,h2.t,h2.aU,h2.lk,?_⟩
   have hs:=k2.ok (hp (h0 sg.rg sg.wg c d)) Agree.self
   have e:ja T (hp h') (hp (h0 sg.rg sg.wg c d))=hp h':=Hp.ext' (fun i=>by
    show (if aK T i=true then _ else _)=_
    split
    ·rfl
    ·rename_i hi;exact (k2.out i (by simpa using hi)).1.symm) (fun i=>by
    show (if aK T i=true then _ else _)↔_
    split
    ·exact Iff.rfl
    ·rename_i hi;exact (k2.out i (by simpa using hi)).2.symm)
   rw [e] at hs
   obtain ⟨us,c1,c2,c3⟩:=AV X9
   have hf:=la _ _ _ Mn
   have e2:hp h2=hp ⟨h2.t,h2.aU,dC sg.wg d'++dC sg.rg c,h2.lk⟩:=by
    have key:∀i,¬i<cM→(hp h2).ob i=dU (dC sg.wg d'++dC sg.rg c) i∧((hp h2).fr i↔f_ (dC sg.wg d'++dC sg.rg c) i):=fun i hl=>by
     cases hk:dn sg.wg (l6 i) with
     | true=>
      obtain ⟨q1,x,q2⟩:=hf _ hk
      rw [(fp hl).1,(fp hl).2]
      unfold dU f_
      rw [gW,q1,q2]
      exact ⟨rfl,Iff.rfl⟩
     | false=>
      have hw:wt T i=false:=by
       unfold wt
       rw [o5 hl,yu kw.1 hk,Bool.and_false]
      have h3:=k2.rd i hw
      have h4:=dH us (hp h') i (fun u hu e=>by
       have:=c2 u hu
       rw [←e] at this
       have this:T2.any (Nat.beq (res i))=true:=by simpa [aK,Fp.wr] using this
       rw [o5 hl,yu kw.2 hk] at this;cases this)
      rw [c1,h4.1,h4.2,h3.1,h3.2,(fp hl).1,(fp hl).2]
      show dU (dC sg.wg d++dC sg.rg c) i=_∧(f_ (dC sg.wg d++dC sg.rg c) i↔_)
      unfold dU f_
      rw [gW,gW,dW _ _ _ hk,dW _ _ _ hk]
      exact ⟨rfl,Iff.rfl⟩
    refine Hp.ext' (fun i=>?_) (fun i=>?_)
    ·by_cases hl:i<cM
     ·show (if i<cM then _ else _)=(if i<cM then _ else _);rw [if_pos hl,if_pos hl]
     ·rw [(key i hl).1,(fp hl).1]
    ·by_cases hl:i<cM
     ·show (if i<cM then _ else _)↔(if i<cM then _ else _);rw [if_pos hl,if_pos hl]
     ·rw [(key i hl).2,(fp hl).2]
   rw [←e2,c1]
   intro g w vs hI hl hv
   refine (hs g w vs hI hl hv).mono ?_
   rintro e w' ⟨v,g',rfl,q1,q2,q3⟩
   obtain ⟨g2,z1,z2,z3⟩:=c3 g' _ w' v q2 Agree.self q1
   exact ⟨v,g2,rfl,BU h1 g2 v z3,z1,q3.trans z2⟩
  ·cases k1
 ·cases k1
theorem FE {P:Program} {cx:Cx} (hx:lq P cx) (f:FuncId) (sg:dz):bG P f sg (J_ cx f sg):=
 ⟨fun x c d y h=>(n9 hx f sg _ _ _ y.1 y.2 h).1,fun x c d y d' h=>(n9 hx f sg _ _ _ _ _ h).2⟩
end
section
open Go.RowKit
def kq:(l:List (Nat×RK))→rE l→List Rg→List Rg
 | [],_,rg=>rg
 | p::l,x,rg=>js (kq l x.2 rg) p.1 p.2 x.1
theorem lC:∀(l:List (Nat×RK)) (rg:List Rg) (c':rE l),(∀r,dn l r=true→∃x,bA rg r=some x)→∀r,bA (kq l c' rg) r=if dn l r=true then bA (dC l c') r else bA rg r
 | [],rg,c',_,r=>by simp [kq,dn]
 | p::l,rg,c',hx,r=>by
  have ih:=lC l rg c'.2 (fun r hr=>hx r (by show (Nat.beq p.1 r || dn l r)=true;rw [hr,Bool.or_true]))
  have hp:∃x,bA (kq l c'.2 rg) p.1=some x:=by
   rw [ih]
   split
   ·rename_i hk
    exact ju l c'.2 p.1 hk
   ·exact hx p.1 (by show (Nat.beq p.1 p.1 || dn l p.1)=true;rw [Nat.beq_refl];rfl)
  obtain ⟨x,hp⟩:=hp
  show bA (js (kq l c'.2 rg) p.1 p.2 c'.1) r=if (Nat.beq p.1 r || dn l r)=true then (bif Nat.beq p.1 r then some (⟨p.1,p.2,c'.1⟩:Rg) else bA (dC l c'.2) r) else bA rg r
  rw [mJ _ p.1 p.2 c'.1 r x hp,ih]
  by_cases hr:r=p.1
  ·subst hr;rw [if_pos rfl,Nat.beq_refl];simp
  ·have:Nat.beq p.1 r=false:=by
    cases hb:Nat.beq p.1 r with
    | false=>rfl
    | true=>exact absurd (beq_eq hb).symm hr
   rw [if_neg hr,this];simp
def dz.al (sg:dz):List (Nat×RK):=sg.wg++sg.rg
theorem C_ (l k:List (Nat×RK)) (r:Nat):dn (l++k) r=(dn l r || dn k r):=List.any_append
def Pq (sg:dz) (h:H):Bool:=(sg.al.all fun p=>Nat.blt p.1 64 && p.2.pa (dn sg.al)) && (sg.wg.all fun p=>!(vE h (im p.1))) && (sg.ps.all fun p=>pa (dn sg.al) p.2) && (sg.rs.all fun p=>pa (dn sg.al) p.2)
def Lu (sg:dz):Fp:=⟨false,sg.al.map fun p=>im p.1,!sg.wg.isEmpty,sg.wg.map fun p=>im p.1⟩
section
variable {β:Type}
def Z6 (sg:dz) (F:Plain sg) (aa:List A) (h:H) (K:A→H→Fp→Option β):Option β:=match J1 sg.ps aa,xy sg.rg h.rg,xy sg.wg h.rg with
 | some x,some c,some d=>bif Pq sg h then bd (F x c d) (fun p=>B1 (uW sg.rs p.1) (fun v=>K v { h with rg:=kq sg.wg p.2 h.rg } (Lu sg))) else none
 | _,_,_=>none
def L8:List Nat→Fp
 | []=>.no
 | l=>.wr l
theorem mH (l:List Nat) (i:Nat):aK (L8 l) i=aK (.wr l) i:=by cases l<;>rfl
theorem JY (l:List Nat) (i:Nat) (h:wt (L8 l) i=false):aK (.wr l) i=false:=by
 cases l with
 | nil=>rfl
 | cons a l=>exact sc h
def Vy (sg:dz) (F:Plain sg) (aa:List A) (h:H) (K:A→H→Fp→Option β):Option β:=match AW sg.ps aa h with
 | some (wM,h1,T1)=>Z6 sg F wM h1 (fun v h2 T=>K v h2 ((L8 T1).cat T))
 | none=>none
theorem GB {kp:Nat→Bool} {i:Nat} (h:i<16777216):iH kp i=false:=by
 unfold iH
 rw [xf h];rfl
theorem Da {kp:Nat→Bool} {i:Nat} (h:¬i<16777216):iH kp i=kp (l6 i):=by
 unfold iH
 rw [tD h];rfl
theorem uq (l:List (Nat×RK)) (r:Nat):(l.map fun p=>im p.1).any (Nat.beq (im r))=dn l r:=by
 induction l with
 | nil=>rfl
 | cons p l ih=>
  show (Nat.beq (im r) (im p.1) || (l.map fun p=>im p.1).any (Nat.beq (im r)))=(Nat.beq p.1 r || dn l r)
  rw [ih]
  have:Nat.beq (im r) (im p.1)=Nat.beq p.1 r:=by
   cases h1:Nat.beq p.1 r with
   | true=>rw [beq_eq h1];exact Nat.beq_refl _
   | false=>
    cases h2:Nat.beq (im r) (im p.1) with
    | false=>rfl
    | true=>
     have:p.1=r:=by have:=beq_eq h2;unfold im at this;omega
     rw [this,Nat.beq_refl] at h1;cases h1
  rw [this]
theorem Hz (l:List (Nat×RK)) (i:Nat):(l.map fun p=>im p.1).any (Nat.beq (dy i))=false:=by
 induction l with
 | nil=>rfl
 | cons p l ih=>
  show (Nat.beq (dy i) (im p.1) || (l.map fun p=>im p.1).any (Nat.beq (dy i)))=false
  rw [ih,Bool.or_false]
  cases h2:Nat.beq (dy i) (im p.1) with
  | false=>rfl
  | true=>have:=beq_eq h2;unfold im dy at this;omega
theorem nU (sg:dz) (i:Nat):aK (Lu sg) i=iH (dn sg.al) i:=by
 have e:aK (Lu sg) i=(sg.al.map fun p=>im p.1).any (Nat.beq (res i)):=Bool.false_or _
 rw [e]
 by_cases h:i<16777216
 ·rw [mK h,GB h];exact Hz _ _
 ·rw [o5 h,Da h];exact uq _ _
theorem NH {sg:dz} {i:Nat} (h:wt (Lu sg) i=false) (hl:¬i<16777216):dn sg.wg (l6 i)=false:=by
 have e:(!sg.wg.isEmpty && (sg.wg.map fun p=>im p.1).any (Nat.beq (res i)))=false:=h
 rw [o5 hl,uq] at e
 cases hw:sg.wg with
 | nil=>rfl
 | cons p l=>rw [hw] at e;simpa using e
theorem rp {kp:Nat→Bool}:∀(l:List (Bool×Ty)) (x:ki l),(l.all fun p=>pa kp p.2)=true→∀a∈mE l x,VK kp a
 | [],_,_,a,ha=>by cases ha
 | p::l,x,h,a,ha=>by
  simp only [List.all_cons,zC] at h
  rcases List.mem_cons.1 ha with rfl | ha
  ·exact .pack _ h.1
  ·exact rp l x.2 h.2 a ha
theorem qu {kp:Nat→Bool}:∀(l:List (Nat×RK)) (c:rE l),(∀p∈l,p.2.pa kp=true)→∀r q,bA (dC l c) r=some q→q.k.pa kp=true
 | [],c,_,r,q,h=>by cases h
 | p::l,c,hl,r,q,h=>by
  have h:(bif Nat.beq p.1 r then some (⟨p.1,p.2,c.1⟩:Rg) else bA (dC l c.2) r)=some q:=h
  cases hb:Nat.beq p.1 r with
  | true=>rw [hb] at h;cases h;exact hl p (.head _)
  | false=>rw [hb] at h;exact qu l c.2 (fun p hp=>hl p (.tail _ hp)) r q h
theorem Lv {P:Program} {f:FuncId} {sg:dz} {F:Plain sg} (hF:bG P f sg F) {aa:List A} {h:H} {K:A→H→Fp→Option β} {r:β} (hr:Z6 sg F aa h K=some r):∃pv h' T,K pv h' T=some r∧sP P f aa h h' T pv:=by
 unfold Z6 at hr
 split at hr
 ·rename_i x c d hx hc hd
  obtain ⟨hs,hr⟩:=aj hr
  obtain ⟨⟨y,d'⟩,hy,hr⟩:=xS hr
  obtain ⟨pv,hr,pb⟩:=wV hr
  unfold Pq at hs
  simp only [zC] at hs
  obtain ⟨⟨⟨KN,_⟩,hs2⟩,hs3⟩:=hs
  obtain ⟨t,aU,lk,Mj⟩:=hF.pc x c d y d' hy
  have hfc:=la _ _ _ hc
  have hfd:=la _ _ _ hd
  have AN:=lC sg.wg h.rg d' (fun r hr=>(hfd r hr).2)
  have UW:∀r,dn sg.al r=(dn sg.wg r || dn sg.rg r):=fun r=>C_ _ _ r
  have fA:∀r,dn sg.al r=true→bA (dC sg.wg d++dC sg.rg c) r=bA h.rg r:=fun r hk=>by
   rw [gW]
   cases hw:dn sg.wg r with
   | true=>obtain ⟨e,q,hq⟩:=hfd r hw;rw [e,hq]
   | false=>
    rw [dW _ _ _ hw]
    exact (hfc r (by rw [UW,hw] at hk;simpa using hk)).1
  have fB:∀r,dn sg.al r=true→bA (dC sg.wg d'++dC sg.rg c) r=bA (kq sg.wg d' h.rg) r:=fun r hk=>by
   rw [gW,AN]
   cases hw:dn sg.wg r with
   | true=>obtain ⟨q,hq⟩:=ju sg.wg d' r hw;rw [hq];simp
   | false=>
    rw [dW _ _ _ hw]
    exact (hfc r (by rw [UW,hw] at hk;simpa using hk)).1
  have fC:∀r,dn sg.al r=false→bA (dC sg.wg d++dC sg.rg c) r=none:=fun r hk=>by
   rw [UW,Bool.or_eq_false_iff] at hk
   rw [gW,dW _ _ _ hk.1]
   exact dW _ _ _ hk.2
  have fD:∀i,(¬i<cM→dn sg.wg (l6 i)=false)→(hp { h with rg:=kq sg.wg d' h.rg }).ob i=(hp h).ob i∧((hp { h with rg:=kq sg.wg d' h.rg }).fr i↔(hp h).fr i):=fun i hi=>by
   show (if i<cM then fM h.t i else dU (kq sg.wg d' h.rg) i)=(if i<cM then fM h.t i else dU h.rg i)∧((if i<cM then h.aU≤i else f_ (kq sg.wg d' h.rg) i)↔(if i<cM then h.aU≤i else f_ h.rg i))
   by_cases hl:i<cM
   ·rw [if_pos hl,if_pos hl,if_pos hl,if_pos hl];exact ⟨rfl,Iff.rfl⟩
   ·rw [if_neg hl,if_neg hl,if_neg hl,if_neg hl]
    have:=AN (l6 i)
    rw [hi hl,if_neg (by simp)] at this
    unfold dU f_
    rw [this];exact ⟨rfl,Iff.rfl⟩
  have CV:∀{i},iH (dn sg.al) i=true→¬i<cM∧dn sg.al (l6 i)=true:=fun {i} hi=>by
   unfold iH at hi
   simp only [zC,Bool.not_eq_true'] at hi
   refine ⟨fun hl=>?_,hi.2⟩
   have:Nat.blt i 16777216=true:=xf hl
   rw [this] at hi;cases hi.1
  have Q3:∀{i},iH (dn sg.al) i=false→¬i<cM→dn sg.al (l6 i)=false:=fun {i} hi hl=>by
   rw [Da hl] at hi;exact hi
  have inL:∀(l:List Rg),(∀r q,bA l r=some q→q.k.pa (dn sg.al)=true)→∀i x,¬i<cM→dU l i=some x→Mz (dn sg.al) x:=fun l hl i x _ hx=>by
   unfold dU at hx
   split at hx
   ·rename_i q hq
    exact z8 (hl _ q hq) hx
   ·cases hx
  have inA:∀(d1:rE sg.wg) r q,bA (dC sg.wg d1++dC sg.rg c) r=some q→q.k.pa (dn sg.al)=true:=fun d1 r q hq=>by
   have iN:∀p∈sg.al,p.2.pa (dn sg.al)=true:=fun p hp=>by
    have:=List.all_eq_true.1 KN p hp
    simp only [zC] at this
    exact this.2
   rw [gW] at hq
   split at hq
   ·rename_i q1 h1
    cases hq
    exact qu sg.wg d1 (fun p hp=>iN p (zQ _ hp)) _ _ h1
   ·exact qu sg.rg c (fun p hp=>iN p (zS _ hp)) _ _ hq
  refine ⟨pv,_,_,hr,⟨fun i hi=>fD i (fun hl=>?_),fun i hi=>fD i (fun hl=>NH hi hl),hF.fn x c d _ hy,fun S2 hA=>?_⟩⟩
  ·rw [nU] at hi
   have:=Q3 hi hl
   rw [UW,Bool.or_eq_false_iff] at this
   exact this.1
  ·have Ry:=PC.frame (kp:=dn sg.al) (S:=S2) (fun i hi=>?_) (fun i hi=>?_) (fun i q hq=>?_) (fun i q hi hq=>?_) (rp sg.ps x hs2) (r:=uW sg.rs y) ?_ Mj
   ·have e:Hp.join (dn sg.al) (hp ⟨t,aU,dC sg.wg d'++dC sg.rg c,lk⟩) S2=ja (Lu sg) (hp { h with rg:=kq sg.wg d' h.rg }) S2:=by
     refine Hp.ext' (fun i=>?_) (fun i=>?_)
     ·show (if iH (dn sg.al) i=true then _ else _)=(if aK (Lu sg) i=true then _ else _)
      rw [nU]
      by_cases hi:iH (dn sg.al) i=true
      ·obtain ⟨n1,n2⟩:=CV hi
       rw [if_pos hi,if_pos hi,(fp n1).1,(fp n1).1]
       unfold dU
       rw [fB _ n2]
      ·rw [if_neg hi,if_neg hi]
     ·show (if iH (dn sg.al) i=true then _ else _)↔(if aK (Lu sg) i=true then _ else _)
      rw [nU]
      by_cases hi:iH (dn sg.al) i=true
      ·obtain ⟨n1,n2⟩:=CV hi
       rw [if_pos hi,if_pos hi,(fp n1).2,(fp n1).2]
       unfold f_
       rw [fB _ n2]
      ·rw [if_neg hi,if_neg hi]
    rw [e] at Ry
    obtain ⟨u1,u2⟩:=sV _ _ _ hx
    intro g w vs hI hl hv
    refine (Ry g w vs hI (by rw [←u1];exact hl) (fun i p v e1 e2=>?_)).mono ?_
    ·have hi:i<aa.length:=by rw [u1];exact (zB.1 e1).1
     exact u2 i _ p (zD hi) e1 g v (hv i _ v (zD hi) e2)
    ·rintro e w' ⟨v,g',rfl,q1,q2,q3⟩
     exact ⟨v,g',rfl,pb g' v q1,q2,q3⟩
   ·by_cases hl:i<cM
    ·show (if i<cM then fM .nil i else _)=none
     rw [if_pos hl];rfl
    ·rw [(fp hl).1]
     show dU (dC sg.wg d++dC sg.rg c) i=none
     unfold dU
     rw [fC _ (Q3 hi hl)]
   ·obtain ⟨n1,n2⟩:=CV hi
    obtain ⟨a1,a2⟩:=hA i (by rw [nU];exact hi)
    rw [a1,a2,(fp n1).1,(fp n1).2,(fp n1).1,(fp n1).2]
    show dU h.rg i=dU (dC sg.wg d++dC sg.rg c) i∧(f_ h.rg i↔f_ (dC sg.wg d++dC sg.rg c) i)
    unfold dU f_
    rw [fA _ n2];exact ⟨rfl,Iff.rfl⟩
   ·by_cases hl:i<cM
    ·have hq:(if i<cM then fM .nil i else _)=some q:=hq
     rw [if_pos hl] at hq;cases hq
    ·rw [(fp hl).1] at hq
     exact inL _ (inA d) i q hl hq
   ·rw [(fp (CV hi).1).1] at hq
    exact inL _ (inA d') i q (CV hi).1 hq
   ·have iN:=rp (kp:=dn sg.al) sg.rs y hs3
    unfold uW
    generalize mE sg.rs y=ps at iN
    match ps,iN with
    | [p],iN=>exact iN p (.head _)
    | [],iN=>exact .jD iN
    | p::q::ps,iN=>exact .jD iN
 ·cases hr
theorem Lw {P:Program} {f:FuncId} {sg:dz} {F:Plain sg} (hF:bG P f sg F) {aa:List A} {h:H} {K:A→H→Fp→Option β} {r:β} (hr:Vy sg F aa h K=some r):∃pv h' T,K pv h' T=some r∧sP P f aa h h' T pv:=by
 unfold Vy at hr
 split at hr
 ·rename_i wM h1 T1 GU
  obtain ⟨pv,h2,T,k1,k2⟩:=Lv hF hr
  obtain ⟨hl,us,c1,c2,c3⟩:=ue GU
  have out:∀i,aK (L8 T1) i=false→(hp h1).ob i=(hp h).ob i∧((hp h1).fr i↔(hp h).fr i):=fun i hi=>by
   rw [c1];exact dH us _ i (fun u hu e=>by rw [mH,e,c2 u hu] at hi;cases hi)
  have f1:nK h h1 (L8 T1):=⟨out,fun i hi=>out i ((mH T1 i).trans (JY T1 i hi))⟩
  have f2:nK h1 h2 T:=⟨k2.out,k2.rd⟩
  refine ⟨pv,h2,_,k1,(f1.trans f2).out,(f1.trans f2).rd,k2.fn,fun S2 hA=>?_⟩
  rw [←g4 f2]
  have A1:=hA.left
  have A2:=Agree.right f1 hA
  have e:ja (L8 T1) (hp h1) S2=app us S2:=by rw [c1];exact ir (fun u hu=>(mH T1 _).trans (c2 u hu)) A1
  rw [e] at A2 ⊢
  intro g w vs hI Vk hv
  obtain ⟨g1,q1,q2,q3⟩:=c3 g S2 w vs hI (fun i hi=>A1 i ((mH T1 i).trans hi)) Vk hv
  refine (k2.ok _ A2 g1 w vs q1 (by rw [hl];exact Vk) q3).mono ?_
  rintro e w' ⟨v,g',rfl,z1,z2,z3⟩
  exact ⟨v,g',rfl,z1,z2,q2.trans z3⟩
 ·cases hr
end
end
section
open Go.RowKit
def stay (N i:Nat):Prop:=i<N∨¬i<cM
structure xX (N:Nat) (g g':G):Prop where
 bu:∀i,stay N i→g'.bu i=g.bu i
 mem:g'.mem=g.mem
 lp:g'.lp=g.lp
def VP (N:Nat) (c:A):Prop:=∀g g' v,xX N g g'→V g c v→V g' c v
def E3 (N:Nat):Ref→Bool
 | .loc o=>Nat.blt o N
 | .eK _ _=>true
theorem lF {N:Nat} {x:Ref} (h:E3 N x=true) {g g':G} (k:xX N g g'):g'.bu x.id=g.bu x.id:=by
 cases x with
 | loc o=>exact k.bu o (.inl (bf h))
 | eK r j=>exact k.bu _ (.inr (Nat.not_lt.2 (nv r j)))
def okF (p:A→Bool):Nat→Tr A→Bool
 | 0,_=>true
 | n+1,F=>p (bl F.get n) && okF p n F
theorem CR {p:A→Bool} {F:Tr A}:∀{n:Nat},okF p n F=true→∀i,i<n→p (bl F.get i)=true
 | n+1,h,i,hi=>by
  have h:(p (bl F.get n) && okF p n F)=true:=h
  rw [zC] at h
  by_cases e:i=n
  ·rw [e];exact h.1
  ·exact CR h.2 i (by omega)
def tB (N:Nat):Nat→A→Bool
 | 0,_=>false
 | k+1,a=>match a with
  | .agg cs=>cs.all (tB N k)
  | .jD cs=>cs.all (tB N k)
  | .fn _ fi ca=>fi.all (tB N k) && ca.all (tB N k)
  | .ptr o _=>Nat.blt o N
  | .tp x _=>E3 N x
  | .sl o _ _ _=>Nat.blt o N
  | .ts x _ _ _=>E3 N x
  | .tf x _ _ _=>E3 N x
  | .tw x _=>E3 N x
  | .aa x _ _ _=>E3 N x
  | .mp x=>E3 N x
  | .rB q n F _ _ _ _=>Nat.blt q N && okF (tB N k) n F
  | _=>true
theorem VP.tp {N:Nat} {x:Ref} {π:List Sp} (h:E3 N x=true):VP N (.tp x π):=fun g g' v k hv=>by
 cases hv with
 | tp _ _ b s h1 hk=>exact .tp x π b s ((lF h k).trans h1) hk
theorem VP.tw {N:Nat} {x:Ref} {z:Nat} (h:E3 N x=true):VP N (.tw x z):=fun g g' v k hv=>by
 cases hv with
 | sd _ _ ad h1=>exact .sd x z ad ((lF h k).trans h1)
 | tw _ _ n b cap t h1 hn hx hp d hd=>exact .tw x z n b cap t ((lF h k).trans h1) hn hx hp d hd
theorem VP.e0 {N:Nat}:VP N .e0:=fun g g' v k hv=>by cases hv;exact .e0 _
theorem VP.mp {N:Nat} {x:Ref} (h:E3 N x=true):VP N (.mp x):=fun g g' v k hv=>by
 cases hv with
 | mp _ b s h1=>exact .mp x b s ((lF h k).trans h1)
theorem gz {N:Nat}:∀(k:Nat) (a:A),tB N k a=true→VP N a
 | 0,_,h=>by cases h
 | k+1,.v x,_=>fun g g' v _ hv=>by cases hv;exact .v _
 | k+1,.agg cs,h=>fun g g' v hg hv=>by
  have h:cs.all (tB N k)=true:=h
  rw [List.all_eq_true] at h
  cases hv with
  | agg _ vs hl h1 hh=>exact .agg cs vs hl h1 (fun i c x e1 e2=>gz k c (h c (zG e1)) g g' x hg (hh i c x e1 e2))
 | k+1,.jD cs,h=>fun g g' v hg hv=>by
  have h:cs.all (tB N k)=true:=h
  rw [List.all_eq_true] at h
  cases hv with
  | jD _ vs hl hh=>exact .jD cs vs hl (fun i c x e1 e2=>gz k c (h c (zG e1)) g g' x hg (hh i c x e1 e2))
 | k+1,.fn f fi ca,h=>fun g g' v hg hv=>by
  have h:(fi.all (tB N k) && ca.all (tB N k))=true:=h
  rw [zC,List.all_eq_true,List.all_eq_true] at h
  cases hv with
  | fn _ _ _ fv cv hf hc h1 h2=>exact .fn f fi ca fv cv hf hc (fun i c x e1 e2=>gz k c (h.1 c (zG e1)) g g' x hg (h1 i c x e1 e2)) (fun i c x e1 e2=>gz k c (h.2 c (zG e1)) g g' x hg (h2 i c x e1 e2))
 | k+1,.ptr o off,h=>fun g g' v hg hv=>by
  cases hv with
  | ptr _ _ b s h1=>exact .ptr o off b s ((hg.bu o (.inl (bf h))).trans h1)
 | k+1,.tp x π,h=>.tp h
 | k+1,.sl o off z n,h=>fun g g' v hg hv=>by
  cases hv with
  | sl _ _ _ _ b cap s h1 hn hx hs=>exact .sl o off z n b cap s ((hg.bu o (.inl (bf h))).trans h1) hn hx hs
 | k+1,.ts x z off n,h=>fun g g' v hg hv=>by
  cases hv with
  | ts _ _ _ _ b cap s h1 hn hx hs hp d hd hq=>exact .ts x z off n b cap s ((lF h hg).trans h1) hn hx hs hp d hd hq
  | sf _ _ _ _ ad h1 hn=>exact .sf x z off n ad ((lF h hg).trans h1) hn
 | k+1,.tf x z off n,h=>fun g g' v hg hv=>by
  cases hv with
  | tf _ _ _ _ b s h1 hx hs d hd=>exact .tf x z off n b s ((lF h hg).trans h1) hx hs d hd
  | BZ _ _ _ _ ad h1 hn=>exact .BZ x z off n ad ((lF h hg).trans h1) hn
 | k+1,.tw x z,h=>.tw h
 | k+1,.aa x π n z,h=>fun g g' v hg hv=>by
  cases hv with
  | aa _ _ _ _ b cap s h1 hk hn hx=>exact .aa x π n z b cap s ((lF h hg).trans h1) hk hn hx
 | k+1,.e0,_=>.e0
 | k+1,.tl t f l,_=>fun g g' v hg hv=>by
  cases hv with
  | tl _ _ _ _ h=>exact .tl t f l v (by rw [hg.mem];exact h)
 | k+1,.nn t l,_=>fun g g' v hg hv=>by
  cases hv with
  | nn _ _ a n c h=>exact .nn t l a n c (by rw [hg.mem];exact h)
 | k+1,.dp t x,_=>fun g g' v hg hv=>by
  cases hv with
  | dp _ _ b off f hm=>exact .dp t x b off f (fun j c e=>by rw [hg.mem];exact hm j c e)
 | k+1,.mp x,h=>.mp h
 | k+1,.op r o,_=>fun g g' v hg hv=>by
  cases hv with
  | op _ _ _ h0 h1=>exact .op r o v h0 (fun j e=>VP.tp (N:=N) (x:=.eK r j) rfl g g' v hg (h1 j e))
 | k+1,.os r z o,_=>fun g g' v hg hv=>by
  cases hv with
  | os _ _ _ _ h0 h1=>exact .os r z o v (fun e=>VP.e0 (N:=N) g g' v hg (h0 e)) (fun j e=>VP.tw (N:=N) (x:=.eK r j) rfl g g' v hg (h1 j e))
 | k+1,.om r o,_=>fun g g' v hg hv=>by
  cases hv with
  | om _ _ _ h0 h1=>exact .om r o v h0 (fun j e=>VP.mp (N:=N) (x:=.eK r j) rfl g g' v hg (h1 j e))
 | k+1,.rB q n F ps j aa bd,h=>fun g g' v hg hv=>by
  have h:(Nat.blt q N && okF (tB N k) n F)=true:=h
  rw [zC] at h
  cases hv with
  | rB _ _ _ _ _ _ _ b s l h0 hl h1 h2 h3 h4 h5=>exact .rB q n F ps j aa bd b s l ((hg.bu q (.inl (bf h.1))).trans h0) (by rw [hg.lp];exact hl) h1 h2 h3 h4 (fun i hi=>gz k _ (CR h.2 i hi) g g' _ hg (h5 i hi))
 | k+1,.un,_=>fun g g' v _ hv=>by cases hv;exact .un
 | k+1,.cL,_=>fun g g' v _ _=>.cL v
theorem iX {N:Nat}:∀(t:Ty) (x:t.T),∀c∈aE t x,VP N c
 | .int k,x,c,h=>by rcases zF.1 h with rfl;exact gz 1 _ rfl
 | .bool,x,c,h=>by rcases zF.1 h with rfl;exact gz 1 _ rfl
 | .unit,_,c,h=>by cases h
 | .pair a b,x,c,h=>(zX.1 h).elim (iX a x.1 c) (iX b x.2 c)
 | .arr n t,l,c,h=>by
  obtain ⟨i,_,h⟩:=List.mem_flatMap.1 h
  exact iX t _ c h
 | .aO t,l,c,h=>by rcases zF.1 h with rfl;exact gz 1 _ rfl
 | .ptr r,x,c,h=>by rcases zF.1 h with rfl;exact gz 1 _ rfl
 | .dF r,j,c,h=>by rcases zF.1 h with rfl;exact gz 1 _ rfl
 | .jZ r z,x,c,h=>by rcases zF.1 h with rfl;exact gz 1 _ rfl
 | .oP r z,j,c,h=>by rcases zF.1 h with rfl;exact gz 1 _ rfl
 | .mp r,x,c,h=>by rcases zF.1 h with rfl;exact gz 1 _ rfl
theorem oc {N:Nat} (a:Bool) (t:Ty) (x:t.T):VP N (cb a t x):=by
 unfold cb
 have h:=iX (N:=N) t x
 cases a with
 | true=>
  intro g g' v hg hv
  cases hv with
  | agg _ vs hl h1 hh=>exact .agg _ vs hl h1 (fun i c y e1 e2=>h c (zG e1) g g' y hg (hh i c y e1 e2))
 | false=>
  generalize aE t x=cs at h
  match cs,h with
  | [c],h=>exact h c (.head _)
  | [],_=>exact fun g g' v _ _=>.cL v
  | _::_::_,_=>exact fun g g' v _ _=>.cL v
def E4 (N:Nat):Ob→Prop
 | .cells cs=>∀c∈cs,VP N c
 | .cT (.map es)=>∀e∈es,VP N e.1∧VP N e.2
 | .cT .y7=>True
 | .cT (.loop _ _)=>True
theorem Cm {N:Nat} {k:RK} {c:k.T} {j:Nat} {x:Ob} (h:dT k c j=some x):E4 N x:=by
 cases k with
 | box t=>
  simp only [dT] at h
  split at h
  ·cases h;exact iX t _
  ·cases h
 | row t=>
  simp only [dT] at h
  split at h
  ·cases h;exact fun c hc=>by obtain ⟨y,_,hy⟩:=List.mem_flatMap.1 hc;exact iX t y c hy
  ·cases h
 | map ka tk va tv=>
  simp only [dT] at h
  split at h
  ·cases h;exact fun e he=>by obtain ⟨y,_,rfl⟩:=List.mem_map.1 he;exact ⟨oc _ _ _,oc _ _ _⟩
  ·cases h
def Yp (g:G):Option (Option Nat)→Option (Option Nat×(Nat×Nat))
 | some (some o)=>g.bu o
 | some none=>some (none,(0,0))
 | none=>none
def gj (N:Nat) (names:List (Option Nat)) (g:G):G:=⟨fun i=>if i<N∨¬i<cM then g.bu i else Yp g names[i-N]?,g.mem,g.lp⟩
theorem DO (N:Nat) (names:List (Option Nat)) (g:G):xX N g (gj N names g):=⟨fun i h=>if_pos h,rfl,rfl⟩
theorem vQ {N:Nat} {names:List (Option Nat)} {g:G} {k:Nat} {nm:Option Nat} (h:names[k]?=some nm) (hl:N+names.length≤cM):(gj N names g).bu (N+k)=Yp g (some nm):=by
 have hk:=(zB.1 h).1
 show (if N+k<N∨¬N+k<cM then g.bu (N+k) else _)=_
 rw [if_neg (by omega),Nat.add_sub_cancel_left,h]
theorem mG.to {g g':G} {w:World} {b t:Nat} {cs:List A} (h:mG g w b t cs) {N:Nat} (hs:xX N g g') (hc:∀c∈cs,VP N c):mG g' w b t cs:=by
 obtain ⟨cur,ty,k1,k2,k3,k4⟩:=h
 exact ⟨cur,ty,k1,k2,k3,fun j c x e1 e2=>⟨hc c (zG e1) g g' x hs (k4 j c x e1 e2).1,(k4 j c x e1 e2).2⟩⟩
theorem oL.to {g g':G} {x:My} {ob:Obj} (h:oL g x ob) {N:Nat} (hs:xX N g g') (hc:E4 N (.cT x)):oL g' x ob:=by
 cases x with
 | map es=>
  obtain ⟨jx,clock,k1,k2,k3⟩:=h
  exact ⟨jx,clock,k1,k2,fun i e q e1 e2=>⟨(hc q (zG e2)).1 g g' _ hs (k3 i e q e1 e2).1,(hc q (zG e2)).2 g g' _ hs (k3 i e q e1 e2).2⟩⟩
 | y7=>exact h
 | loop=>exact h
theorem Kb {N:Nat} {names:List (Option Nat)} {S S' S0:Hp} {g g0:G} {w w0:World} (hl:N+names.length≤cM)
  (h1:∀i x,stay N i→S'.ob i=some x→(S.ob i=some x∧E4 N x)∨∃cs ig,S.ob i=some (.cells cs)∧x = .cells ig∧ig.length=cs.length∧∀vs,Vs g cs vs→Vs (gj N names g) ig vs)
  (h2:∀i x,¬stay N i→S'.ob i=some x→∃k nm,i=N+k∧names[k]?=some nm∧(∀o,nm=some o→S.ob o=some x∧E4 N x)∧(nm=none→x = .cells []))
  (h3:∀(k k' o:Nat),names[k]?=some (some o)→names[k']?=some (some o)→k=k')
  (h4:∀(k o:Nat),names[k]?=some (some o)→stay N o→S'.ob o=none)
  (h5:∀i,S'.fr i→(¬stay N i→N+names.length≤i)∧(stay N i→S.fr i))
  (hf:∀o,N≤o→o<cM→S0.fr o∧g0.bu o=none) (hI:Inv g S w) (hE:Ext S0 g0 w0 S g w) :
  Inv (gj N names g) S' w∧Ext S0 g0 w0 S' (gj N names g) w:=by
 have hs:=DO N names g
 have ns:∀{i},¬stay N i→N≤i∧i<cM:=fun {i} h=>by unfold stay at h;omega
 have RT:∀i,¬stay N i→(gj N names g).bu i=Yp g names[i-N]?:=fun i h=>if_neg h
 have src:∀i x b s,S'.ob i=some x→(gj N names g).bu i=some (some b,s)→∃o y,S.ob o=some y∧g.bu o=some (some b,s)∧(i=o∧stay N i∨¬stay N i∧∃k,i=N+k∧names[k]?=some (some o)):=fun i x b s e1 e2=>by
  by_cases hi:stay N i
  ·rcases h1 i x hi e1 with ⟨q1,q2⟩ | ⟨cs,ig,q1,_,_⟩
   ·exact ⟨i,x,q1,by rw [←hs.bu i hi];exact e2,.inl ⟨rfl,hi⟩⟩
   ·exact ⟨i,_,q1,by rw [←hs.bu i hi];exact e2,.inl ⟨rfl,hi⟩⟩
  ·obtain ⟨k,nm,rfl,hk,q1,q2⟩:=h2 i x hi e1
   rw [vQ hk hl] at e2
   cases nm with
   | none=>cases e2
   | some o=>exact ⟨o,x,(q1 o rfl).1,e2,.inr ⟨hi,k,rfl,hk⟩⟩
 have inj:∀i j x y b s s',S'.ob i=some x→S'.ob j=some y→(gj N names g).bu i=some (some b,s)→(gj N names g).bu j=some (some b,s')→i=j:=fun i j x y b s s' e1 e2 k1 k2=>by
  obtain ⟨o1,x1,p1,p3,p4⟩:=src i x b s e1 k1
  obtain ⟨o2,x2,q1,q3,q4⟩:=src j y b s' e2 k2
  have ho:=hI.inj o1 o2 x1 x2 b s s' p1 q1 p3 q3
  subst ho
  rcases p4 with ⟨rfl,p5⟩ | ⟨p5,k,rfl,p6⟩
  ·rcases q4 with ⟨rfl,_⟩ | ⟨q5,k',rfl,q6⟩
   ·rfl
   ·rw [h4 k' i q6 p5] at e1;cases e1
  ·rcases q4 with ⟨rfl,q5⟩ | ⟨q5,k',rfl,q6⟩
   ·rw [h4 k j p6 q5] at e2;cases e2
   ·rw [h3 k k' o1 p6 q6]
 refine ⟨⟨fun i cs e=>?_,fun i x e=>?_,fun i e=>?_,fun i b s e=>?_,inj,hI.mem,fun i b s j x e k=>?_,hI.lp⟩,⟨⟨fun o p e=>?_,fun _ _ _ e=>hE.le.mem _ _ _ e,fun _ _ e=>hE.le.lp _ _ e⟩,hE.os,hE.tape,hE.output,hE.size,hE.frame,fun k ⟨i,s,x,e1,e2⟩=>?_,fun o p e=>?_,fun o e=>?_,hE.tF,hE.lpo⟩⟩
 ·by_cases hi:stay N i
  ·rw [hs.bu i hi]
   rcases h1 i _ hi e with ⟨q1,q2⟩ | ⟨ds,jg,q1,q2,q3,q4⟩
   ·exact (hI.cells i cs q1).imp id fun ⟨b,t,k1,k2⟩=>⟨b,t,k1,k2.to hs q2⟩
   ·cases q2
    rcases hI.cells i ds q1 with ⟨k1,k2⟩ | ⟨b,t,k1,cur,ty,k2,k3,k4⟩
    ·exact .inl ⟨k1,List.length_eq_zero_iff.1 (by rw [q3,k2];rfl)⟩
    ·exact .inr ⟨b,t,by rw [q3];exact k1,cur,ty,k2,k3,by rw [q3];exact q4 _ k4⟩
  ·obtain ⟨k,nm,rfl,hk,q1,q2⟩:=h2 i _ hi e
   rw [vQ hk hl]
   cases nm with
   | none=>
    have:=q2 rfl
    cases this
    exact .inl ⟨rfl,rfl⟩
   | some o=>
    obtain ⟨q3,q4⟩:=q1 o rfl
    exact (hI.cells o cs q3).imp id fun ⟨b,t,k1,k2⟩=>⟨b,t,k1,k2.to hs q4⟩
 ·by_cases hi:stay N i
  ·rcases h1 i _ hi e with ⟨q1,q2⟩ | ⟨ds,jg,q1,q2,q3⟩
   ·obtain ⟨b,s,ob,k1,k2,k3⟩:=hI.cT i x q1
    exact ⟨b,s,ob,(hs.bu i hi).trans k1,k2,k3.to hs q2⟩
   ·cases q2
  ·obtain ⟨k,nm,rfl,hk,q1,q2⟩:=h2 i _ hi e
   cases nm with
   | none=>have:=q2 rfl;cases this
   | some o=>
    obtain ⟨q3,q4⟩:=q1 o rfl
    obtain ⟨b,s,ob,k1,k2,k3⟩:=hI.cT o x q3
    exact ⟨b,s,ob,(vQ hk hl).trans k1,k2,k3.to hs q4⟩
 ·obtain ⟨q1,q2⟩:=h5 i e
  by_cases hi:stay N i
  ·rw [hs.bu i hi];exact hI.fresh i (q2 hi)
  ·rw [RT i hi,zb (by have:=q1 hi;omega)];rfl
 ·by_cases hi:stay N i
  ·rw [hs.bu i hi] at e;exact hI.lt i b s e
  ·rw [RT i hi] at e
   generalize names[i-N]?=nm at e
   match nm,e with
   | some (some o),e=>exact hI.lt o b s e
 ·obtain ⟨o,y,p1,p3,_⟩:=src i x b s e k
  exact hI.lG o b s j y p1 p3
 ·have hi:stay N o:=by
   by_cases hi:stay N o
   ·exact hi
   ·obtain ⟨a1,a2⟩:=ns hi
    rw [(hf o a1 a2).2] at e;cases e
  rw [hs.bu o hi];exact hE.le.bu o p e
 ·obtain ⟨o,y,p1,p3,_⟩:=src i x k s e1 e2
  exact hE.own k ⟨o,s,y,p1,p3⟩
 ·by_cases hi:stay N o
  ·rw [hs.bu o hi] at e;exact hE.JG o p e
  ·obtain ⟨a1,a2⟩:=ns hi
   exact .inr ⟨(hf o a1 a2).2,(hf o a1 a2).1⟩
 ·by_cases hi:stay N o
  ·exact hE.fr o ((h5 o e).2 hi)
  ·obtain ⟨a1,a2⟩:=ns hi
   exact (hf o a1 a2).1
end
end Go.Bm